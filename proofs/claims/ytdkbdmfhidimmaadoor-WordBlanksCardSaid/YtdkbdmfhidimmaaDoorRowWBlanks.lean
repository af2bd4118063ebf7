/- Proved here: whatever the input, where the listed variables of Go's library hold what the program's text lays, the law WordBlanks answers true, and its arguments read behind the call as they read before. No other condition. -/
import Derived.Test.YtdkbdmfhidimmaaDoorSvTied
import Derived.Test.YtdkbdmfhidimmaaDoorWBlanks
namespace Go.Proofs.YtdkbdmfhidimmaaDoor
open Go Go.ChangeShapes Go.WideShapes Go.ChangeAt Go.RowKit Go.Sv Go.ChangeMaps

theorem wordBlanksOwn : ownKnob Tryd.prog.godebug = none := by kernel_rfl
theorem wordBlanksLaidOut : laidOutB Tryd.prog = true := by kernel_rfl
theorem wordBlanksFn : isFn Tryd.prog 3 := ⟨_, _, Tryd.func3, rfl, by kernel_rfl⟩
/-- The door's own heap meets the condition. -/
theorem wordBlanksDoor (os : Os) (args : Array Value) : laidMetH Tryd.prog Rows.wordBlanksRow.laid ((World.doorLaid Tryd.prog 79 os).forCall (fun _ _ => 0) ⟨#[], args, []⟩).memory :=
  laidMetH_of_parts3 (fuel := 8) (laidMet_of_run' 8 (by kernel_rfl) (by kernel_rfl)) (by kernel_rfl) (by kernel_rfl)

set_option maxRecDepth 100000 in
theorem wordBlanksLifted (os : Os) (started : os.Started) (H : Type) (enc : TypeId × Value → H) :
    ReturnsInHanded {} Tryd.checked os 3 .any (fun w args => (Rows.wordBlanksSpec.pre enc Tryd.prog Tryd.f3 [] false w args ∧ laidMetH Tryd.prog Rows.wordBlanksRow.laid w) ∧ sizedMet enc Tryd.prog Tryd.f3 (OpenSpec.ofChange Rows.wordBlanksSpec) false w args)
      (Rows.wordBlanksSpec.post enc Tryd.prog Tryd.f3 false true false false) := by
  refine returnsInHanded_of_change_and (C := Tryd.checked) (X := fun w _ => laidMetH Tryd.prog Rows.wordBlanksRow.laid w) (fun _ _ _ hh h => h.of_heap hh) wordBlanksOwn started (by kernel_rfl) Tryd.func3
    (ChangeSpec.witness_shaped (enc := enc) (C := Tryd.checked) (os := os) (X := fun w _ => laidMetH Tryd.prog Rows.wordBlanksRow.laid w) false (World.doorLaid Tryd.prog 79 os) #[.slice none 0 0, .slice none 0 0] 8 rfl (World.shaped_of_RefB (by kernel_rfl) (by kernel_rfl)) (by kernel_rfl) (by kernel_rfl) (by kernel_rfl) (wordBlanksDoor os _)) ?_
  intro W base args ds gs before hval0 hW _ _ hL _
  have hval : ∀ (j : Nat) t v, Tryd.f3.params[j]? = some t → args[j]? = some v → Value.okWide Tryd.prog W .any base t v := hval0
  have hst : statOk W := statOk_of hL (by simp [Rows.wordBlanksRow]) (by simp [Rows.wordBlanksRow])
  have hW' := hW
  obtain ⟨p, q, hA0, hV, rfl, hfz, hnd⟩ := hW
  have hA : DataW.TrodAll enc Tryd.prog W 0 (fun _ => true) true Tryd.f3.params.toList args.toList ds p := hA0
  rw [Tryd.params3] at hA hval
  obtain ⟨v0, v1, d0, d1, p0, p1, rfl, rfl, rfl, h0, h1⟩ := trodAll_two hA
  obtain ⟨rfl, rfl⟩ := trodVars_none hV
  obtain ⟨z0, r0⟩ := open_slU8 Tryd.underlying22 Tryd.underlying5 (by kernel_rfl) (hval 0 22 v0 rfl rfl) h0
  obtain ⟨z1, r1⟩ := open_slU8 Tryd.underlying22 Tryd.underlying5 (by kernel_rfl) (hval 1 22 v1 rfl rfl) h1

  have hcall := calls_of_pcall (W := W) (xs := [v0, v1]) hst wordBlanksFn (wblanks_law z0 z1 ) (by
    simp only [RelL, RelV]
    exact ⟨_, _, rfl, r0, _, _, rfl, r1, rfl⟩)
  refine hcall.mono ?_
  rintro e W' ⟨x, rfl, hb, g', hx⟩
  simp only [bV, RelV] at hx; subst hx
  exact ⟨_, rfl, post_true wordBlanksLaidOut hW' hb (by kernel_rfl) rfl Tryd.underlying4 rfl rfl⟩

theorem wordBlanksHolds : Rows.WordBlanksSaid :=
  OpenClaim.holds_of_wide 3 Tryd.f3 rfl rfl rfl rfl rfl rfl rfl ⟨rfl, rfl, rfl, rfl, rfl⟩ rfl rfl rfl rfl rfl (by kernel_rfl) Tryd.func3 (by kernel_rfl)
    (of_decide_eq_true (by kernel_rfl)) (by unfold Func.isWrapper; first | (rw [if_pos (by decide +kernel)]; kernel_rfl) | (rw [if_neg (by decide +kernel)]; exact ⟨rfl, rfl⟩))
    (fun os started H enc _ => wordBlanksLifted os started H enc)

theorem wordBlanks : Rows.WordBlanksCardSaid :=
  Claim7.holds_tied_plain_at .later [] [.data, .data, .data, .sentinel, .sentinel] true (true, "7dde95e84878839a5f775e8de33dc84e51f4d6bb8651a7ef22947bc7c7d4f8ee") true
    wordBlanksHolds (fun _ h => by cases h) (by kernel_rfl) (fun _ h => by cases h) wordBlanks_row_tie rfl ⟨rfl, rfl⟩ (by kernel_rfl) rfl
    (fun f fn hf hfn => by
      obtain rfl : f = 3 := Option.some.inj ((show Tryd.prog.funcNamed "pastern/pasternlaw7.WordBlanks" = some 3 by kernel_rfl).symm.trans hf) |>.symm
      obtain rfl : fn = Tryd.f3 := (Option.some.inj (Tryd.func3.symm.trans hfn)).symm
      exact ⟨by kernel_rfl, fun j t ht => by
        have hm : t ∈ Tryd.f3.params.toList := Array.mem_toList_iff.2 (Array.mem_of_getElem? ht)
        have hall : (Tryd.f3.params.toList.all fun u => !Tryd.prog.wantsStandIn u) = true := by kernel_rfl
        exact (show Tryd.prog.wantsStandIn t = false by simpa using List.all_eq_true.1 hall t hm)⟩)
    (by kernel_rfl)
end Go.Proofs.YtdkbdmfhidimmaaDoor
