/- Proved here: whatever the input, where the listed variables of Go's library hold what the program's text lays, the law WordSigns answers true, and its arguments read behind the call as they read before. No other condition. -/
import Derived.Test.YtdkbdmfhidimmaaDoorSvTied
import Derived.Test.YtdkbdmfhidimmaaDoorWSigns
namespace Go.Proofs.YtdkbdmfhidimmaaDoor
open Go Go.ChangeShapes Go.WideShapes Go.ChangeAt Go.RowKit Go.Sv Go.ChangeMaps

theorem wordSignsOwn : ownKnob Tryd.prog.godebug = none := by kernel_rfl
theorem wordSignsLaidOut : laidOutB Tryd.prog = true := by kernel_rfl
theorem wordSignsFn : isFn Tryd.prog 6 := ⟨_, _, Tryd.func6, rfl, by kernel_rfl⟩
/-- The door's own heap meets the condition. -/
theorem wordSignsDoor (os : Os) (args : Array Value) : laidMetH Tryd.prog Rows.wordSignsRow.laid ((World.doorLaid Tryd.prog 79 os).forCall (fun _ _ => 0) ⟨#[], args, []⟩).memory :=
  laidMetH_of_parts3 (fuel := 8) (laidMet_of_run' 8 (by kernel_rfl) (by kernel_rfl)) (by kernel_rfl) (by kernel_rfl)

set_option maxRecDepth 100000 in
theorem wordSignsLifted (os : Os) (started : os.Started) (H : Type) (enc : TypeId × Value → H) :
    ReturnsInHanded {} Tryd.checked os 6 .any (fun w args => (Rows.wordSignsSpec.pre enc Tryd.prog Tryd.f6 [] false w args ∧ laidMetH Tryd.prog Rows.wordSignsRow.laid w) ∧ sizedMet enc Tryd.prog Tryd.f6 (OpenSpec.ofChange Rows.wordSignsSpec) false w args)
      (Rows.wordSignsSpec.post enc Tryd.prog Tryd.f6 false true false false) := by
  refine returnsInHanded_of_change_and (C := Tryd.checked) (X := fun w _ => laidMetH Tryd.prog Rows.wordSignsRow.laid w) (fun _ _ _ hh h => h.of_heap hh) wordSignsOwn started (by kernel_rfl) Tryd.func6
    (ChangeSpec.witness_shaped (enc := enc) (C := Tryd.checked) (os := os) (X := fun w _ => laidMetH Tryd.prog Rows.wordSignsRow.laid w) false (World.doorLaid Tryd.prog 79 os) #[.int .u8 0] 8 rfl (World.shaped_of_RefB (by kernel_rfl) (by kernel_rfl)) (by kernel_rfl) (by kernel_rfl) (by kernel_rfl) (wordSignsDoor os _)) ?_
  intro W base args ds gs before hval0 hW _ _ hL _
  have hval : ∀ (j : Nat) t v, Tryd.f6.params[j]? = some t → args[j]? = some v → Value.okWide Tryd.prog W .any base t v := hval0
  have hst : statOk W := statOk_of hL (by simp [Rows.wordSignsRow]) (by simp [Rows.wordSignsRow])
  have hW' := hW
  obtain ⟨p, q, hA0, hV, rfl, hfz, hnd⟩ := hW
  have hA : DataW.TrodAll enc Tryd.prog W 0 (fun _ => true) true Tryd.f6.params.toList args.toList ds p := hA0
  rw [Tryd.params6] at hA hval
  obtain ⟨v0, d0, rfl, rfl, h0⟩ := trodAll_one hA
  obtain ⟨rfl, rfl⟩ := trodVars_none hV
  obtain ⟨a0, rfl, rfl, rfl, wa0⟩ := open_int Tryd.underlying5 (hval 0 5 v0 rfl rfl) h0
  have wb0 : 0 ≤ a0 ∧ a0 ≤ 255 := by simpa [Lit.wf, IntKind.min, IntKind.max, IntKind.signed, IntKind.bits] using wa0
  have wc0 : a0 = ((UInt8.ofNat a0.toNat).toNat : Int) := by rw [UInt8.toNat_ofNat']; omega
  have hcall := calls_of_pcall (W := W) (xs := [.int .u8 a0]) hst wordSignsFn (wsigns_law (UInt8.ofNat a0.toNat) ) (by
    simp only [RelL, RelV, byteV]
    exact ⟨_, _, rfl, congrArg (Value.int .u8) wc0, rfl⟩)
  refine hcall.mono ?_
  rintro e W' ⟨x, rfl, hb, g', hx⟩
  simp only [bV, RelV] at hx; subst hx
  exact ⟨_, rfl, post_true wordSignsLaidOut hW' hb (by kernel_rfl) rfl Tryd.underlying4 rfl rfl⟩

theorem wordSignsHolds : Rows.WordSignsSaid :=
  OpenClaim.holds_of_wide 6 Tryd.f6 rfl rfl rfl rfl rfl rfl rfl ⟨rfl, rfl, rfl, rfl, rfl⟩ rfl rfl rfl rfl rfl (by kernel_rfl) Tryd.func6 (by kernel_rfl)
    (of_decide_eq_true (by kernel_rfl)) (by unfold Func.isWrapper; first | (rw [if_pos (by decide +kernel)]; kernel_rfl) | (rw [if_neg (by decide +kernel)]; exact ⟨rfl, rfl⟩))
    (fun os started H enc _ => wordSignsLifted os started H enc)

theorem wordSigns : Rows.WordSignsCardSaid :=
  Claim7.holds_tied_plain_at .later [] [.data, .data, .data, .sentinel, .sentinel] true (true, "7dde95e84878839a5f775e8de33dc84e51f4d6bb8651a7ef22947bc7c7d4f8ee") true
    wordSignsHolds (fun _ h => by cases h) (by kernel_rfl) (fun _ h => by cases h) wordSigns_row_tie rfl ⟨rfl, rfl⟩ (by kernel_rfl) rfl
    (fun f fn hf hfn => by
      obtain rfl : f = 6 := Option.some.inj ((show Tryd.prog.funcNamed "pastern/pasternlaw7.WordSigns" = some 6 by kernel_rfl).symm.trans hf) |>.symm
      obtain rfl : fn = Tryd.f6 := (Option.some.inj (Tryd.func6.symm.trans hfn)).symm
      exact ⟨by kernel_rfl, fun j t ht => by
        have hm : t ∈ Tryd.f6.params.toList := Array.mem_toList_iff.2 (Array.mem_of_getElem? ht)
        have hall : (Tryd.f6.params.toList.all fun u => !Tryd.prog.wantsStandIn u) = true := by kernel_rfl
        exact (show Tryd.prog.wantsStandIn t = false by simpa using List.all_eq_true.1 hall t hm)⟩)
    (by kernel_rfl)
end Go.Proofs.YtdkbdmfhidimmaaDoor
