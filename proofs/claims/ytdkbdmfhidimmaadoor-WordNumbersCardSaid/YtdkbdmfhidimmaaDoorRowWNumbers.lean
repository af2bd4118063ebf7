/- Proved here: whatever the input, where the listed variables of Go's library hold what the program's text lays, the law WordNumbers answers true, and its arguments read behind the call as they read before. No other condition. -/
import Derived.Test.YtdkbdmfhidimmaaDoorSvTied
import Derived.Test.YtdkbdmfhidimmaaDoorWNumbers
namespace Go.Proofs.YtdkbdmfhidimmaaDoor
open Go Go.ChangeShapes Go.WideShapes Go.ChangeAt Go.RowKit Go.Sv Go.ChangeMaps

theorem wordNumbersOwn : ownKnob Tryd.prog.godebug = none := by kernel_rfl
theorem wordNumbersLaidOut : laidOutB Tryd.prog = true := by kernel_rfl
theorem wordNumbersFn : isFn Tryd.prog 4 := ⟨_, _, Tryd.func4, rfl, by kernel_rfl⟩
/-- The door's own heap meets the condition. -/
theorem wordNumbersDoor (os : Os) (args : Array Value) : laidMetH Tryd.prog Rows.wordNumbersRow.laid ((World.doorLaid Tryd.prog 79 os).forCall (fun _ _ => 0) ⟨#[], args, []⟩).memory :=
  laidMetH_of_parts3 (fuel := 8) (laidMet_of_run' 8 (by kernel_rfl) (by kernel_rfl)) (by kernel_rfl) (by kernel_rfl)

set_option maxRecDepth 100000 in
theorem wordNumbersLifted (os : Os) (started : os.Started) (H : Type) (enc : TypeId × Value → H) :
    ReturnsInHanded {} Tryd.checked os 4 .any (fun w args => (Rows.wordNumbersSpec.pre enc Tryd.prog Tryd.f4 [] false w args ∧ laidMetH Tryd.prog Rows.wordNumbersRow.laid w) ∧ sizedMet enc Tryd.prog Tryd.f4 (OpenSpec.ofChange Rows.wordNumbersSpec) false w args)
      (Rows.wordNumbersSpec.post enc Tryd.prog Tryd.f4 false true false false) := by
  refine returnsInHanded_of_change_and (C := Tryd.checked) (X := fun w _ => laidMetH Tryd.prog Rows.wordNumbersRow.laid w) (fun _ _ _ hh h => h.of_heap hh) wordNumbersOwn started (by kernel_rfl) Tryd.func4
    (ChangeSpec.witness_shaped (enc := enc) (C := Tryd.checked) (os := os) (X := fun w _ => laidMetH Tryd.prog Rows.wordNumbersRow.laid w) false (World.doorLaid Tryd.prog 79 os) #[.int .i64 0, .int .u8 0, .bool false] 8 rfl (World.shaped_of_RefB (by kernel_rfl) (by kernel_rfl)) (by kernel_rfl) (by kernel_rfl) (by kernel_rfl) (wordNumbersDoor os _)) ?_
  intro W base args ds gs before hval0 hW _ _ hL _
  have hval : ∀ (j : Nat) t v, Tryd.f4.params[j]? = some t → args[j]? = some v → Value.okWide Tryd.prog W .any base t v := hval0
  have hst : statOk W := statOk_of hL (by simp [Rows.wordNumbersRow]) (by simp [Rows.wordNumbersRow])
  have hW' := hW
  obtain ⟨p, q, hA0, hV, rfl, hfz, hnd⟩ := hW
  have hA : DataW.TrodAll enc Tryd.prog W 0 (fun _ => true) true Tryd.f4.params.toList args.toList ds p := hA0
  rw [Tryd.params4] at hA hval
  obtain ⟨v0, v1, v2, d0, d1, d2, p0, p1, p2, rfl, rfl, rfl, h0, h1, h2⟩ := trodAll_three hA
  obtain ⟨rfl, rfl⟩ := trodVars_none hV
  obtain ⟨a0, rfl, rfl, rfl, wa0⟩ := open_int Tryd.underlying2 (hval 0 2 v0 rfl rfl) h0
  obtain ⟨a1, rfl, rfl, rfl, wa1⟩ := open_int Tryd.underlying5 (hval 1 5 v1 rfl rfl) h1
  obtain ⟨a2, rfl, rfl, rfl⟩ := open_bool Tryd.underlying4 (hval 2 4 v2 rfl rfl) h2
  have wb0 : -9223372036854775808 ≤ a0 ∧ a0 ≤ 9223372036854775807 := by simpa [Lit.wf, IntKind.min, IntKind.max, IntKind.signed, IntKind.bits] using wa0
  have wb1 : 0 ≤ a1 ∧ a1 ≤ 255 := by simpa [Lit.wf, IntKind.min, IntKind.max, IntKind.signed, IntKind.bits] using wa1
  have hcall := calls_of_pcall (W := W) (xs := [.int .i64 a0, .int .u8 a1, .bool a2]) hst wordNumbersFn (wnumbers_law a0 a1.toNat a2 wb0.1 (Int.lt_of_le_of_lt wb0.2 (by decide)) (by omega)) (by
    simp only [RelL, RelV, bV, i64V]
    exact ⟨_, _, rfl, rfl, _, _, rfl, by rw [Int.toNat_of_nonneg wb1.1], _, _, rfl, rfl, rfl⟩)
  refine hcall.mono ?_
  rintro e W' ⟨x, rfl, hb, g', hx⟩
  simp only [bV, RelV] at hx; subst hx
  exact ⟨_, rfl, post_true wordNumbersLaidOut hW' hb (by kernel_rfl) rfl Tryd.underlying4 rfl rfl⟩

theorem wordNumbersHolds : Rows.WordNumbersSaid :=
  OpenClaim.holds_of_wide 4 Tryd.f4 rfl rfl rfl rfl rfl rfl rfl ⟨rfl, rfl, rfl, rfl, rfl⟩ rfl rfl rfl rfl rfl (by kernel_rfl) Tryd.func4 (by kernel_rfl)
    (of_decide_eq_true (by kernel_rfl)) (by unfold Func.isWrapper; first | (rw [if_pos (by decide +kernel)]; kernel_rfl) | (rw [if_neg (by decide +kernel)]; exact ⟨rfl, rfl⟩))
    (fun os started H enc _ => wordNumbersLifted os started H enc)

theorem wordNumbers : Rows.WordNumbersCardSaid :=
  Claim7.holds_tied_plain_at .later [] [.data, .data, .data, .sentinel, .sentinel] true (true, "7dde95e84878839a5f775e8de33dc84e51f4d6bb8651a7ef22947bc7c7d4f8ee") true
    wordNumbersHolds (fun _ h => by cases h) (by kernel_rfl) (fun _ h => by cases h) wordNumbers_row_tie rfl ⟨rfl, rfl⟩ (by kernel_rfl) rfl
    (fun f fn hf hfn => by
      obtain rfl : f = 4 := Option.some.inj ((show Tryd.prog.funcNamed "pastern/pasternlaw7.WordNumbers" = some 4 by kernel_rfl).symm.trans hf) |>.symm
      obtain rfl : fn = Tryd.f4 := (Option.some.inj (Tryd.func4.symm.trans hfn)).symm
      exact ⟨by kernel_rfl, fun j t ht => by
        have hm : t ∈ Tryd.f4.params.toList := Array.mem_toList_iff.2 (Array.mem_of_getElem? ht)
        have hall : (Tryd.f4.params.toList.all fun u => !Tryd.prog.wantsStandIn u) = true := by kernel_rfl
        exact (show Tryd.prog.wantsStandIn t = false by simpa using List.all_eq_true.1 hall t hm)⟩)
    (by kernel_rfl)
end Go.Proofs.YtdkbdmfhidimmaaDoor
