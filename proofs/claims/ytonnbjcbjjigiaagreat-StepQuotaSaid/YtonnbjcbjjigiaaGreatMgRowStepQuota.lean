/- Proved here: whatever the input, the law StepQuota answers true, and its arguments read behind the call as they read before. No condition. -/
import Derived.Test.YtonnbjcbjjigiaaGreatMgRowStepQuota4
import Derived.Test.YtonnbjcbjjigiaaGreatRows
import Derived.Test.YtonnbjcbjjigiaaGreatMgRowStepQuota10
namespace Go.Proofs.YtonnbjcbjjigiaaGreat
open Go Go.ChangeShapes Go.WideShapes Go.ChangeAt Go.RowKit Go.Sv Go.ChangeMaps
theorem stepQuotaOwn : ownKnob Tryz.prog.godebug = none := by kernel_rfl
theorem stepQuotaLaid : laidOutB Tryz.prog = true := by kernel_rfl
theorem stepQuotaFn : isFn Tryz.prog 5 := ⟨_, _, Tryz.func5, rfl, by kernel_rfl⟩
set_option maxRecDepth 100000 in
theorem stepQuotaLifted (os : Os) (started : os.Started) (H : Type) (enc : TypeId × Value → H) :
    ReturnsInHanded {} Tryz.checked os 5 .any (Rows.stepQuotaSpec.pre6 enc Tryz.prog Tryz.f5 Rows.stepQuotaRow.domain false) (Rows.stepQuotaSpec.post enc Tryz.prog Tryz.f5 false true false false) := by
  refine returnsInHanded_of_change (C := Tryz.checked) stepQuotaOwn started (by kernel_rfl) Tryz.func5
    (ChangeSpec.witness6 (enc := enc) (C := Tryz.checked) false ⟨#[], #[.int .u8 0, .bool false], []⟩ 8 (by kernel_rfl) (by kernel_rfl) (by kernel_rfl) (by kernel_rfl)) ?_
  intro W base args ds gs before hval0 hW hcnd _
  have hval : ∀ (j : Nat) t v, Tryz.f5.params[j]? = some t → args[j]? = some v → Value.okWide Tryz.prog W .any base t v := hval0
  have hW' := hW
  obtain ⟨p, q, hA0, hV, rfl, hfz, hnd⟩ := hW
  have hA : DataW.TrodAll enc Tryz.prog W 0 (fun _ => true) true Tryz.f5.params.toList args.toList ds p := hA0
  rw [Tryz.params5] at hA hval
  obtain ⟨v0, v1, d0, d1, p0, p1, rfl, rfl, rfl, h0, h1⟩ := trodAll_two hA
  obtain ⟨rfl, rfl⟩ := trodVars_none hV
  obtain ⟨a0, rfl, rfl, rfl, wa0⟩ := open_int Tryz.underlying5 (hval 0 5 v0 rfl rfl) h0
  obtain ⟨a1, rfl, rfl, rfl⟩ := open_bool Tryz.underlying4 (hval 1 4 v1 rfl rfl) h1
  have wb0 : 0 ≤ a0 ∧ a0 ≤ 255 := by simpa [Lit.wf, IntKind.min, IntKind.max, IntKind.signed, IntKind.bits] using wa0
  have hcall := calls_of_pcall (W := W) (xs := [.int .u8 a0, .bool a1]) ⟨fun p hp => (by cases hp), fun p hp => (by cases hp)⟩ stepQuotaFn (stepquota_law a0.toNat a1 (by omega)) (by
    simp only [RelL, RelV, str, u64V, u8V, i64V, bV]
    exact ⟨_, _, rfl, by rw [Int.toNat_of_nonneg wb0.1], _, _, rfl, rfl, rfl⟩)
  refine hcall.mono ?_
  rintro e W' ⟨x, rfl, hb, g', hx⟩
  simp only [bV, RelV] at hx; subst hx
  exact ⟨_, rfl, post_true stepQuotaLaid hW' hb (by kernel_rfl) rfl Tryz.underlying4 rfl rfl⟩
theorem stepQuota : Rows.StepQuotaSaid :=
  OpenClaim.holds_of_wide 5 Tryz.f5 rfl rfl rfl rfl rfl rfl rfl ⟨rfl, rfl, rfl, rfl, rfl⟩ rfl rfl rfl rfl rfl (by kernel_rfl) Tryz.func5 (by kernel_rfl)
    (of_decide_eq_true (by kernel_rfl)) (by unfold Func.isWrapper; first | (rw [if_pos (by decide +kernel)]; kernel_rfl) | (rw [if_neg (by decide +kernel)]; exact ⟨rfl, rfl⟩))
    (fun os started H enc _ => stepQuotaLifted os started H enc)
end Go.Proofs.YtonnbjcbjjigiaaGreat
