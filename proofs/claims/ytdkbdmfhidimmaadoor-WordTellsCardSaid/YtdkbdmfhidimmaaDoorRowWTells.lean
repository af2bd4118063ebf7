/- Proved here: whatever the input, where the listed variables of Go's library hold what the program's text lays, the law WordTells answers true, and its arguments read behind the call as they read before. No other condition. -/
import Derived.Test.YtdkbdmfhidimmaaDoorSvTied3
import Derived.Test.YtdkbdmfhidimmaaDoorWTells
namespace Go.Proofs.YtdkbdmfhidimmaaDoor
open Go Go.ChangeShapes Go.WideShapes Go.ChangeAt Go.RowKit Go.Sv Go.ChangeMaps

theorem wordTellsOwn : ownKnob Tryd.prog.godebug = none := by kernel_rfl
theorem wordTellsLaidOut : laidOutB Tryd.prog = true := by kernel_rfl
theorem wordTellsFn : isFn Tryd.prog 10 := ⟨_, _, Tryd.func10, rfl, by kernel_rfl⟩
/-- The door's own heap meets the condition. -/
theorem wordTellsDoor (os : Os) (args : Array Value) : laidMetH Tryd.prog Rows.wordTellsRow.laid ((World.doorLaid Tryd.prog 79 os).forCall (fun _ _ => 0) ⟨#[], args, []⟩).memory :=
  laidMetH_of_parts3 (fuel := 8) (laidMet_of_run' 8 (by kernel_rfl) (by kernel_rfl)) (by kernel_rfl) (by kernel_rfl)

set_option maxRecDepth 100000 in
theorem wordTellsLifted (os : Os) (started : os.Started) (H : Type) (enc : TypeId × Value → H) :
    ReturnsInHanded {} Tryd.checked os 10 .any (fun w args => (Rows.wordTellsSpec.pre enc Tryd.prog Tryd.f10 [] false w args ∧ laidMetH Tryd.prog Rows.wordTellsRow.laid w) ∧ sizedMet enc Tryd.prog Tryd.f10 (OpenSpec.ofChange Rows.wordTellsSpec) false w args)
      (Rows.wordTellsSpec.post enc Tryd.prog Tryd.f10 false true false false) := by
  refine returnsInHanded_of_change_and (C := Tryd.checked) (X := fun w _ => laidMetH Tryd.prog Rows.wordTellsRow.laid w) (fun _ _ _ hh h => h.of_heap hh) wordTellsOwn started (by kernel_rfl) Tryd.func10
    (ChangeSpec.witness_shaped (enc := enc) (C := Tryd.checked) (os := os) (X := fun w _ => laidMetH Tryd.prog Rows.wordTellsRow.laid w) false (World.doorLaid Tryd.prog 79 os) #[.string ⟨#[]⟩] 8 rfl (World.shaped_of_RefB (by kernel_rfl) (by kernel_rfl)) (by kernel_rfl) (by kernel_rfl) (by kernel_rfl) (wordTellsDoor os _)) ?_
  intro W base args ds gs before hval0 hW _ _ hL _
  have hval : ∀ (j : Nat) t v, Tryd.f10.params[j]? = some t → args[j]? = some v → Value.okWide Tryd.prog W .any base t v := hval0
  have hst : statOk W := statOk_of3 hL (by simp [Rows.wordTellsRow]) (by simp [Rows.wordTellsRow]) (by simp [Rows.wordTellsRow])
  have hW' := hW
  obtain ⟨p, q, hA0, hV, rfl, hfz, hnd⟩ := hW
  have hA : DataW.TrodAll enc Tryd.prog W 0 (fun _ => true) true Tryd.f10.params.toList args.toList ds p := hA0
  rw [Tryd.params10] at hA hval
  obtain ⟨v0, d0, rfl, rfl, h0⟩ := trodAll_one hA
  obtain ⟨rfl, rfl⟩ := trodVars_none hV
  obtain ⟨a0, rfl, rfl, rfl, wa0⟩ := open_string Tryd.underlying9 (hval 0 9 v0 rfl rfl) h0

  have hcall := calls_of_pcall (W := W) (xs := [.string a0]) hst wordTellsFn (wtells_law a0.data.toList ) (by
    simp only [RelL, RelV, str]
    exact ⟨_, _, rfl, by rw [← S_of], rfl⟩)
  refine hcall.mono ?_
  rintro e W' ⟨x, rfl, hb, g', hx⟩
  simp only [bV, RelV] at hx; subst hx
  exact ⟨_, rfl, post_true wordTellsLaidOut hW' hb (by kernel_rfl) rfl Tryd.underlying4 rfl rfl⟩

theorem wordTellsHolds : Rows.WordTellsSaid :=
  OpenClaim.holds_of_wide 10 Tryd.f10 rfl rfl rfl rfl rfl rfl rfl ⟨rfl, rfl, rfl, rfl, rfl⟩ rfl rfl rfl rfl rfl (by kernel_rfl) Tryd.func10 (by kernel_rfl)
    (of_decide_eq_true (by kernel_rfl)) (by unfold Func.isWrapper; first | (rw [if_pos (by decide +kernel)]; kernel_rfl) | (rw [if_neg (by decide +kernel)]; exact ⟨rfl, rfl⟩))
    (fun os started H enc _ => wordTellsLifted os started H enc)

theorem wordTells : Rows.WordTellsCardSaid :=
  Claim7.holds_tied_plain_at .later [] [.data, .data, .data, .handle, .sentinel, .sentinel] true (true, "7dde95e84878839a5f775e8de33dc84e51f4d6bb8651a7ef22947bc7c7d4f8ee") true
    wordTellsHolds (fun _ h => by cases h) (by kernel_rfl) (fun _ h => by cases h) wordTells_row_tie rfl ⟨rfl, rfl⟩ (by kernel_rfl) rfl
    (fun f fn hf hfn => by
      obtain rfl : f = 10 := Option.some.inj ((show Tryd.prog.funcNamed "pastern/pasternlaw7.WordTells" = some 10 by kernel_rfl).symm.trans hf) |>.symm
      obtain rfl : fn = Tryd.f10 := (Option.some.inj (Tryd.func10.symm.trans hfn)).symm
      exact ⟨by kernel_rfl, fun j t ht => by
        have hm : t ∈ Tryd.f10.params.toList := Array.mem_toList_iff.2 (Array.mem_of_getElem? ht)
        have hall : (Tryd.f10.params.toList.all fun u => !Tryd.prog.wantsStandIn u) = true := by kernel_rfl
        exact (show Tryd.prog.wantsStandIn t = false by simpa using List.all_eq_true.1 hall t hm)⟩)
    (by kernel_rfl)
end Go.Proofs.YtdkbdmfhidimmaaDoor
