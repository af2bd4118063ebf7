/- Proved here: where what comes in is of bulk at most 1048576, and the listed variables of Go's library hold what the program's text lays, the law ShowUnlike answers true, and its arguments read behind the call as they read before. No other condition. -/
import Derived.Test.YtdkbdmfhidimmaaDoorMgRowShowUnlike4
import Derived.Test.YtdkbdmfhidimmaaDoorMgRowShowUnlike7
import Derived.Test.YtdkbdmfhidimmaaDoorMgRowShowUnlike9
namespace Go.Proofs.YtdkbdmfhidimmaaDoor
open Go Go.ChangeShapes Go.WideShapes Go.ChangeAt Go.RowKit Go.Sv Go.ChangeMaps

theorem showUnlikeOwn : ownKnob Tryd.prog.godebug = none := by kernel_rfl
theorem showUnlikeLaidOut : laidOutB Tryd.prog = true := by kernel_rfl
theorem showUnlikeFn : isFn Tryd.prog 9 := ⟨_, _, Tryd.func9, rfl, by kernel_rfl⟩

set_option maxRecDepth 100000 in
/-- What the walks give. -/
theorem showUnlikeContract (H : Type) (enc : TypeId × Value → H) (W : World) (base : Nat) (args : Array Value) (ds gs : List (DataW H)) (before : List MemPlace)
    (hval0 : ∀ (j : Nat) t v, Tryd.f9.params[j]? = some t → args[j]? = some v → Value.okWide Tryd.prog W .any base t v)
    (hW : DataW.Whole enc Tryd.prog Tryd.f9.params.toList Rows.showUnlikeSpec.vars false W args.toList ds gs before) (hk : Rows.uptoSmall H (ds ++ gs) = true) (hL : laidMetH Tryd.prog Rows.showUnlikeUptoRow.laid W) (hsh : W.ShapedOpen Tryd.prog) :
    Calls Tryd.prog 9 args W fun e W' => ∃ v, e = .returned v ∧ Rows.showUnlikeSpec.post enc Tryd.prog Tryd.f9 false true false false W args v W' := by
  have hval : ∀ (j : Nat) t v, Tryd.f9.params[j]? = some t → args[j]? = some v → Value.okWide Tryd.prog W .any base t v := hval0
  have hst : statOk W := statOk4 hL (by simp [Rows.showUnlikeUptoRow]) hsh
  have hW' := hW
  obtain ⟨p, q, hA0, hV, rfl, hfz, hnd⟩ := hW
  have hA : DataW.TrodAll enc Tryd.prog W 0 (fun _ => true) true Tryd.f9.params.toList args.toList ds p := hA0
  rw [Tryd.params9] at hA hval
  obtain ⟨v0, v1, v2, v3, d0, d1, d2, d3, p0, p1, p2, p3, rfl, rfl, rfl, h0, h1, h2, h3⟩ := trodAll_four hA
  obtain ⟨rfl, rfl⟩ := trodVars_none hV
  have hbulk : Rows.uptoBulkAll ([d0, d1, d2, d3] : List (DataW H)) ≤ 1048576 := by
    have := of_decide_eq_true hk
    rwa [List.append_nil] at this
  simp only [Rows.uptoBulkAll] at hbulk
  obtain ⟨c0, rfl, _⟩ := okWide_struct Tryd.underlying46 (hval 0 46 v0 rfl rfl)
  obtain ⟨fuel0, hf0⟩ := h0
  obtain ⟨z0, _, r0, g0, s0⟩ := opens_ex _ _ _ hf0
  have q0 : RelV (Gh.start W) W (.agg (exC z0)) (.agg c0) := by simp only [RelV]; exact ⟨_, rfl, r0⟩
  dsimp only at s0
  obtain ⟨c1, rfl, _⟩ := okWide_struct Tryd.underlying46 (hval 1 46 v1 rfl rfl)
  obtain ⟨fuel1, hf1⟩ := h1
  obtain ⟨z1, _, r1, g1, s1⟩ := opens_ex _ _ _ hf1
  have q1 : RelV (Gh.start W) W (.agg (exC z1)) (.agg c1) := by simp only [RelV]; exact ⟨_, rfl, r1⟩
  dsimp only at s1
  obtain ⟨c2, rfl, _⟩ := okWide_struct Tryd.underlying49 (hval 2 49 v2 rfl rfl)
  obtain ⟨fuel2, hf2⟩ := h2
  obtain ⟨z2, _, r2, g2, w2, s2⟩ := opens_pa hf2
  have q2 : RelV (Gh.start W) W (.agg (paC z2)) (.agg c2) := by simp only [RelV]; exact ⟨_, rfl, r2⟩
  dsimp only at s2
  obtain ⟨c3, rfl, _⟩ := okWide_struct Tryd.underlying49 (hval 3 49 v3 rfl rfl)
  obtain ⟨fuel3, hf3⟩ := h3
  obtain ⟨z3, _, r3, g3, w3, s3⟩ := opens_pa hf3
  have q3 : RelV (Gh.start W) W (.agg (paC z3)) (.agg c3) := by simp only [RelV]; exact ⟨_, rfl, r3⟩
  dsimp only at s3
  have hcall := calls_of_pcall (W := W) (xs := [.agg c0, .agg c1, .agg c2, .agg c3]) hst showUnlikeFn (showunlike_law z0 z1 z2 z3 (exBd_of (by omega) g0) (exBd_of (by omega) g1) (paBd_of (by omega) g2 w2) (paBd_of (by omega) g3 w3)) (by
    simp only [RelL]
    exact ⟨_, _, rfl, q0, _, _, rfl, q1, _, _, rfl, q2, _, _, rfl, q3, rfl⟩)
  refine hcall.mono ?_
  rintro e W' ⟨x, rfl, hb, g', hx⟩
  simp only [bV, RelV] at hx; subst hx
  exact ⟨_, rfl, post_true showUnlikeLaidOut hW' hb (by kernel_rfl) rfl Tryd.underlying4 rfl rfl⟩

theorem showUnlikeReads (os : Os) {H : Type} (enc : TypeId × Value → H) : ∃ places, DataW.whole enc Tryd.prog ((World.laidAll Tryd.prog os Rows.showUnlikeUptoRow.laid).forCall (fun _ _ => 0) ⟨#[], #[.agg #[.int .i64 0, .int .i64 0, .int .i64 0, .string ⟨#[]⟩, .string ⟨#[]⟩, .string ⟨#[]⟩, .slice none 0 0], .agg #[.int .i64 0, .int .i64 0, .int .i64 0, .string ⟨#[]⟩, .string ⟨#[]⟩, .string ⟨#[]⟩, .slice none 0 0], .agg #[.slice none 0 0, .int .i64 0, .string ⟨#[]⟩, .bool false], .agg #[.slice none 0 0, .int .i64 0, .string ⟨#[]⟩, .bool false]], []⟩).memory Tryd.f9.params.toList Rows.showUnlikeSpec.vars false (#[.agg #[.int .i64 0, .int .i64 0, .int .i64 0, .string ⟨#[]⟩, .string ⟨#[]⟩, .string ⟨#[]⟩, .slice none 0 0], .agg #[.int .i64 0, .int .i64 0, .int .i64 0, .string ⟨#[]⟩, .string ⟨#[]⟩, .string ⟨#[]⟩, .slice none 0 0], .agg #[.slice none 0 0, .int .i64 0, .string ⟨#[]⟩, .bool false], .agg #[.slice none 0 0, .int .i64 0, .string ⟨#[]⟩, .bool false]] : Array Value).toList 8 = some ([.agg [.lit (.int .i64 0), .agg [.lit (.int .i64 0), .lit (.int .i64 0), .lit (.string [])], .lit (.string []), .lit (.string []), .nil], .agg [.lit (.int .i64 0), .agg [.lit (.int .i64 0), .lit (.int .i64 0), .lit (.string [])], .lit (.string []), .lit (.string []), .nil], .agg [.nil, .lit (.int .i64 0), .lit (.string []), .lit (.bool false)], .agg [.nil, .lit (.int .i64 0), .lit (.string []), .lit (.bool false)]], [], places) :=
  ⟨[], by kernel_rfl⟩
theorem showUnlikeLaid (os : Os) (args : Array Value) : laidMetH Tryd.prog Rows.showUnlikeUptoRow.laid ((World.laidAll Tryd.prog os Rows.showUnlikeUptoRow.laid).forCall (fun _ _ => 0) ⟨#[], args, []⟩).memory := by
  rw [MakeChecks.laidMetH_plain _ _ _ (by kernel_rfl)]; exact laidMet_laidAll _ (by kernel_rfl) (by kernel_rfl)
theorem showUnlikeOk (os : Os) : Input.okWideB Tryd.checked.prog ((World.laidAll Tryd.prog os Rows.showUnlikeUptoRow.laid).forCall (fun _ _ => 0) ⟨#[], #[.agg #[.int .i64 0, .int .i64 0, .int .i64 0, .string ⟨#[]⟩, .string ⟨#[]⟩, .string ⟨#[]⟩, .slice none 0 0], .agg #[.int .i64 0, .int .i64 0, .int .i64 0, .string ⟨#[]⟩, .string ⟨#[]⟩, .string ⟨#[]⟩, .slice none 0 0], .agg #[.slice none 0 0, .int .i64 0, .string ⟨#[]⟩, .bool false], .agg #[.slice none 0 0, .int .i64 0, .string ⟨#[]⟩, .bool false]], []⟩) 9 ⟨#[], #[.agg #[.int .i64 0, .int .i64 0, .int .i64 0, .string ⟨#[]⟩, .string ⟨#[]⟩, .string ⟨#[]⟩, .slice none 0 0], .agg #[.int .i64 0, .int .i64 0, .int .i64 0, .string ⟨#[]⟩, .string ⟨#[]⟩, .string ⟨#[]⟩, .slice none 0 0], .agg #[.slice none 0 0, .int .i64 0, .string ⟨#[]⟩, .bool false], .agg #[.slice none 0 0, .int .i64 0, .string ⟨#[]⟩, .bool false]], []⟩ = true := by kernel_rfl

set_option maxRecDepth 100000 in
theorem showUnlikeLifted (os : Os) (started : os.Started) (H : Type) (enc : TypeId × Value → H) (F : Stop.Interp) :
    ReturnsInHanded {} Tryd.checked os 9 .any ((Rows.OpenSpec.upto Rows.showUnlikeSpec).preRow enc Tryd.prog Tryd.f9 Rows.showUnlikeUptoRow.domain false Rows.showUnlikeUptoRow.laid) (((Rows.OpenSpec.upto Rows.showUnlikeSpec).at F).post enc Tryd.prog Tryd.f9 false true false false) := by
  obtain ⟨places, hx⟩ := showUnlikeReads os enc
  refine returnsInHanded_of_row (C := Tryd.checked) (s := Rows.OpenSpec.upto Rows.showUnlikeSpec) showUnlikeOwn started (by kernel_rfl) Tryd.func9
    ⟨World.laidAll Tryd.prog os Rows.showUnlikeUptoRow.laid, fun _ _ => 0, ⟨#[], #[.agg #[.int .i64 0, .int .i64 0, .int .i64 0, .string ⟨#[]⟩, .string ⟨#[]⟩, .string ⟨#[]⟩, .slice none 0 0], .agg #[.int .i64 0, .int .i64 0, .int .i64 0, .string ⟨#[]⟩, .string ⟨#[]⟩, .string ⟨#[]⟩, .slice none 0 0], .agg #[.slice none 0 0, .int .i64 0, .string ⟨#[]⟩, .bool false], .agg #[.slice none 0 0, .int .i64 0, .string ⟨#[]⟩, .bool false]], []⟩, World.laidAll_os _ _ _, World.shaped_of_ZipB (by kernel_rfl) (by kernel_rfl), (Input.okWide_of_okWideB (base := 0) (showUnlikeOk os)).1, (Input.okWide_of_okWideB (showUnlikeOk os)).2,
      OpenSpec.preRow_of_cond 8 hx (by kernel_rfl) (fun k hk => by cases hk; kernel_rfl) (by kernel_rfl) (showUnlikeLaid os _), by
      simp only [Assume.holds]
      exact ⟨by simp, by simp, fun _ => Modest.zero, by simp, by simp⟩⟩ ?_
  intro W base args ds gs before hval hW _ hcond _ hL hsh _
  exact showUnlikeContract H enc W base args ds gs before hval hW (hcond _ rfl) hL hsh

theorem showUnlikeUptoHolds : Rows.ShowUnlikeUptoSaid :=
  OpenClaim.holds_of_cond 9 Tryd.f9 rfl rfl rfl rfl rfl rfl rfl ⟨rfl, rfl, rfl, rfl, rfl⟩ rfl rfl rfl rfl rfl (by kernel_rfl) Tryd.func9 (by kernel_rfl)
    (of_decide_eq_true (by kernel_rfl)) (by unfold Func.isWrapper; first | (rw [if_pos (by decide +kernel)]; kernel_rfl) | (rw [if_neg (by decide +kernel)]; exact ⟨rfl, rfl⟩))
    (fun os started H enc _ F => by rw [OpenClaim.pre_eq_preRow]; exact showUnlikeLifted os started H enc F)

theorem showUnlikeUpto : Rows.ShowUnlikeUptoCardSaid :=
  Claim7.holds_tied_plain_at .later [] _ _ _ _ showUnlikeUptoHolds (fun _ h => by cases h) (by kernel_rfl) (fun _ h => by cases h) showUnlikeUpto_row_tie rfl ⟨rfl, rfl⟩ (by kernel_rfl) rfl
    (fun f fn hf hfn => by
      obtain rfl : f = 9 := Option.some.inj ((show Tryd.prog.funcNamed "pastern/pasternlaw8.ShowUnlike" = some 9 by kernel_rfl).symm.trans hf) |>.symm
      obtain rfl : fn = Tryd.f9 := (Option.some.inj (Tryd.func9.symm.trans hfn)).symm
      exact ⟨by kernel_rfl, fun j t ht => by
        have hm : t ∈ Tryd.f9.params.toList := Array.mem_toList_iff.2 (Array.mem_of_getElem? ht)
        have hall : (Tryd.f9.params.toList.all fun u => !Tryd.prog.wantsStandIn u) = true := by kernel_rfl
        exact (show Tryd.prog.wantsStandIn t = false by simpa using List.all_eq_true.1 hall t hm)⟩)
    (by kernel_rfl)
end Go.Proofs.YtdkbdmfhidimmaaDoor
