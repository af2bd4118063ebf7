/- Proved here: where what comes in is of bulk at most 1048576, and the listed variables of Go's library hold what the program's text lays, the law StepTells answers true, and its arguments read behind the call as they read before. No other condition. -/
import Derived.Test.YtonnbjcbjjigiaaGreatDoorMgRowStepTells11
import Derived.ChangeVars
import Derived.LaidLaws
import Derived.LaidMore
import Derived.Lib.LaidU8
import Derived.Lay
import Derived.Deep.DeepHandedRow
import Derived.Deep.DeepWitnessRowRef
import Derived.Test.YtonnbjcbjjigiaaGreatDoorMgRowStepTells14
namespace Go.Proofs.YtonnbjcbjjigiaaGreatDoor
open Go Go.ChangeShapes Go.WideShapes Go.ChangeAt Go.RowKit Go.Sv Go.ChangeMaps
theorem stepTellsOwn : ownKnob Tryz.prog.godebug = none := by kernel_rfl
theorem stepTellsLaidOut : laidOutB Tryz.prog = true := by kernel_rfl
theorem stepTellsFn : isFn Tryz.prog 3 := ⟨_, _, Tryz.func3, rfl, by kernel_rfl⟩
set_option maxRecDepth 100000 in
theorem stepTellsContract (H : Type) (enc : TypeId × Value → H) (W : World) (base : Nat) (args : Array Value) (ds gs : List (DataW H)) (before : List MemPlace)
    (hval0 : ∀ (j : Nat) t v, Tryz.f3.params[j]? = some t → args[j]? = some v → Value.okWide Tryz.prog W .any base t v)
    (hW : DataW.Whole enc Tryz.prog Tryz.f3.params.toList Rows.stepTellsSpec.vars false W args.toList ds gs before) (hk : Rows.uptoSmall H (ds ++ gs) = true) (hL : laidMetH Tryz.prog Rows.stepTellsUptoRow.laid W) (hsh : W.ShapedOpen Tryz.prog) :
    Calls Tryz.prog 3 args W fun e W' => ∃ v, e = .returned v ∧ Rows.stepTellsSpec.post enc Tryz.prog Tryz.f3 false true false false W args v W' := by
  have hval : ∀ (j : Nat) t v, Tryz.f3.params[j]? = some t → args[j]? = some v → Value.okWide Tryz.prog W .any base t v := hval0
  have hst : statOk W := statOk8 hL (by simp [Rows.stepTellsUptoRow])
  have hW' := hW
  obtain ⟨p, q, hA0, hV, rfl, hfz, hnd⟩ := hW
  have hA : DataW.TrodAll enc Tryz.prog W 0 (fun _ => true) true Tryz.f3.params.toList args.toList ds p := hA0
  rw [Tryz.params3] at hA hval
  obtain ⟨v0, v1, d0, d1, p0, p1, rfl, rfl, rfl, h0, h1⟩ := trodAll_two hA
  obtain ⟨rfl, rfl⟩ := trodVars_none hV
  have hbulk : Rows.uptoBulkAll ([d0, d1] : List (DataW H)) ≤ 1048576 := by
    have := of_decide_eq_true hk
    rwa [List.append_nil] at this
  simp only [Rows.uptoBulkAll] at hbulk
  obtain ⟨c0, rfl, _⟩ := okWide_struct Tryz.underlying24 (hval 0 24 v0 rfl rfl)
  obtain ⟨fuel0, hf0⟩ := h0
  obtain ⟨z0, _, r0, g0, w0, s0⟩ := opens_pa hf0
  have q0 : RelV (Gh.start W) W (.agg (paC z0)) (.agg c0) := by simp only [RelV]; exact ⟨_, rfl, r0⟩
  dsimp only at s0
  obtain ⟨a0_1, len1, cap1, rfl⟩ := okWide_slice Tryz.underlying25 (hval 1 25 v1 rfl rfl)
  obtain ⟨fuel1, hf1⟩ := h1
  obtain ⟨z1, r1, g1, s1⟩ := opens_evs hf1
  have q1 : RelV (Gh.start W) W (evsV z1) (.slice a0_1 len1 cap1) := rel1 r1
  dsimp only at s1
  have hcall := calls_of_pcall (W := W) (xs := [.agg c0, .slice a0_1 len1 cap1]) hst stepTellsFn (steptells_law z0 z1 (paBd_of (by omega) g0 w0) g0 (by have := evs_len (l := z1) (n := 1048576) (by omega); omega) (evs_bd (by omega) g1)) (by
    simp only [RelL]
    exact ⟨_, _, rfl, q0, _, _, rfl, q1, rfl⟩)
  refine hcall.mono ?_
  rintro e W' ⟨x, rfl, hb, g', hx⟩
  simp only [bV, RelV] at hx; subst hx
  exact ⟨_, rfl, post_true stepTellsLaidOut hW' hb (by kernel_rfl) rfl Tryz.underlying4 rfl rfl⟩
theorem stepTellsReads (os : Os) {H : Type} (enc : TypeId × Value → H) : ∃ places, DataW.whole enc Tryz.prog ((laidAllH os Rows.stepTellsUptoRow.laid).forCall (fun _ _ => 0) ⟨#[], #[.agg #[.slice none 0 0, .int .i64 0, .string ⟨#[]⟩, .bool false], .slice none 0 0], []⟩).memory Tryz.f3.params.toList Rows.stepTellsSpec.vars false (#[.agg #[.slice none 0 0, .int .i64 0, .string ⟨#[]⟩, .bool false], .slice none 0 0] : Array Value).toList 8 = some ([.agg [.nil, .lit (.int .i64 0), .lit (.string []), .lit (.bool false)], .nil], [], places) :=
  ⟨[], by kernel_rfl⟩
theorem stepTellsLaid (os : Os) (args : Array Value) : laidMetH Tryz.prog Rows.stepTellsUptoRow.laid ((laidAllH os Rows.stepTellsUptoRow.laid).forCall (fun _ _ => 0) ⟨#[], args, []⟩).memory := by
  exact laidMetH_laidAllH _ (by kernel_rfl) (by kernel_rfl) (by kernel_rfl)
theorem stepTellsOk (os : Os) : Input.okWideB Tryz.checked.prog ((laidAllH os Rows.stepTellsUptoRow.laid).forCall (fun _ _ => 0) ⟨#[], #[.agg #[.slice none 0 0, .int .i64 0, .string ⟨#[]⟩, .bool false], .slice none 0 0], []⟩) 3 ⟨#[], #[.agg #[.slice none 0 0, .int .i64 0, .string ⟨#[]⟩, .bool false], .slice none 0 0], []⟩ = true := by kernel_rfl
set_option maxRecDepth 100000 in
theorem stepTellsLifted (os : Os) (started : os.Started) (H : Type) (enc : TypeId × Value → H) (F : Stop.Interp) :
    ReturnsInHanded {} Tryz.checked os 3 .any ((Rows.OpenSpec.upto Rows.stepTellsSpec).preRow enc Tryz.prog Tryz.f3 Rows.stepTellsUptoRow.domain false Rows.stepTellsUptoRow.laid) (((Rows.OpenSpec.upto Rows.stepTellsSpec).at F).post enc Tryz.prog Tryz.f3 false true false false) := by
  obtain ⟨places, hx⟩ := stepTellsReads os enc
  refine returnsInHanded_of_row (C := Tryz.checked) (s := Rows.OpenSpec.upto Rows.stepTellsSpec) stepTellsOwn started (by kernel_rfl) Tryz.func3
    ⟨laidAllH os Rows.stepTellsUptoRow.laid, fun _ _ => 0, ⟨#[], #[.agg #[.slice none 0 0, .int .i64 0, .string ⟨#[]⟩, .bool false], .slice none 0 0], []⟩, laidAllH_os _ _, World.shaped_of_ZipB (by kernel_rfl) (by kernel_rfl), (Input.okWide_of_okWideB (base := 0) (stepTellsOk os)).1, (Input.okWide_of_okWideB (stepTellsOk os)).2,
      OpenSpec.preRow_of_cond 8 hx (by kernel_rfl) (fun k hk => by cases hk; kernel_rfl) (by kernel_rfl) (stepTellsLaid os _), by
      simp only [Assume.holds]
      exact ⟨by simp, by simp, fun _ => Modest.zero, by simp, by simp⟩⟩ ?_
  intro W base args ds gs before hval hW _ hcond _ hL hsh _
  exact stepTellsContract H enc W base args ds gs before hval hW (hcond _ rfl) hL hsh
theorem stepTellsUptoHolds : Rows.StepTellsUptoSaid :=
  OpenClaim.holds_of_cond 3 Tryz.f3 rfl rfl rfl rfl rfl rfl rfl ⟨rfl, rfl, rfl, rfl, rfl⟩ rfl rfl rfl rfl rfl (by kernel_rfl) Tryz.func3 (by kernel_rfl)
    (of_decide_eq_true (by kernel_rfl)) (by unfold Func.isWrapper; first | (rw [if_pos (by decide +kernel)]; kernel_rfl) | (rw [if_neg (by decide +kernel)]; exact ⟨rfl, rfl⟩))
    (fun os started H enc _ F => by rw [OpenClaim.pre_eq_preRow]; exact stepTellsLifted os started H enc F)
theorem stepTellsUpto : Rows.StepTellsUptoCardSaid :=
  Claim7.holds_tied_plain_at .later [] _ _ _ _ stepTellsUptoHolds (fun _ h => by cases h) (by kernel_rfl) (fun _ h => by cases h) stepTellsUpto_row_tie rfl ⟨rfl, rfl⟩ (by kernel_rfl) rfl
    (fun f fn hf hfn => by
      obtain rfl : f = 3 := Option.some.inj ((show Tryz.prog.funcNamed "pastern/pasternlaw16.StepTells" = some 3 by kernel_rfl).symm.trans hf) |>.symm
      obtain rfl : fn = Tryz.f3 := (Option.some.inj (Tryz.func3.symm.trans hfn)).symm
      exact ⟨by kernel_rfl, fun j t ht => by
        have hm : t ∈ Tryz.f3.params.toList := Array.mem_toList_iff.2 (Array.mem_of_getElem? ht)
        have hall : (Tryz.f3.params.toList.all fun u => !Tryz.prog.wantsStandIn u) = true := by kernel_rfl
        exact (show Tryz.prog.wantsStandIn t = false by simpa using List.all_eq_true.1 hall t hm)⟩)
    (by kernel_rfl)
end Go.Proofs.YtonnbjcbjjigiaaGreatDoor
