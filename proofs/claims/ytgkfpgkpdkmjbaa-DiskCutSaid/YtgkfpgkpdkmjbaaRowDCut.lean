/- Proved here: whatever the input, the law DiskCut answers true, and its arguments read behind the call as they read before. No condition. -/
import Derived.Test.YtgkfpgkpdkmjbaaSvRow3
import Derived.Test.YtgkfpgkpdkmjbaaRows
import Derived.Test.YtgkfpgkpdkmjbaaDCut
namespace Go.Proofs.Ytgkfpgkpdkmjbaa
open Go Go.ChangeShapes Go.WideShapes Go.ChangeAt Go.RowKit Go.Sv Go.ChangeMaps

theorem diskCutOwn : ownKnob Try.prog.godebug = none := by kernel_rfl
theorem diskCutLaid : laidOutB Try.prog = true := by kernel_rfl
theorem diskCutFn : isFn Try.prog 12 := ⟨_, _, Try.func12, rfl, by kernel_rfl⟩

set_option maxRecDepth 100000 in
theorem diskCutLifted (os : Os) (started : os.Started) (H : Type) (enc : TypeId × Value → H) :
    ReturnsInHanded {} Try.checked os 12 .any (Rows.diskCutSpec.pre6 enc Try.prog Try.f12 Rows.diskCutRow.domain false) (Rows.diskCutSpec.post enc Try.prog Try.f12 false true false false) := by
  refine returnsInHanded_of_change (C := Try.checked) diskCutOwn started (by kernel_rfl) Try.func12
    (ChangeSpec.witness6 (enc := enc) (C := Try.checked) false ⟨#[], #[.int .u8 0, .int .u8 0], []⟩ 8 (by kernel_rfl) (by kernel_rfl) (by kernel_rfl) (by kernel_rfl)) ?_
  intro W base args ds gs before hval0 hW hcnd _
  have hval : ∀ (j : Nat) t v, Try.f12.params[j]? = some t → args[j]? = some v → Value.okWide Try.prog W .any base t v := hval0
  have hW' := hW
  obtain ⟨p, q, hA0, hV, rfl, hfz, hnd⟩ := hW
  have hA : DataW.TrodAll enc Try.prog W 0 (fun _ => true) true Try.f12.params.toList args.toList ds p := hA0
  rw [Try.params12] at hA hval
  obtain ⟨v0, v1, d0, d1, p0, p1, rfl, rfl, rfl, h0, h1⟩ := trodAll_two hA
  obtain ⟨rfl, rfl⟩ := trodVars_none hV
  obtain ⟨a0, rfl, rfl, rfl, wa0⟩ := open_int Try.underlying5 (hval 0 5 v0 rfl rfl) h0
  obtain ⟨a1, rfl, rfl, rfl, wa1⟩ := open_int Try.underlying5 (hval 1 5 v1 rfl rfl) h1
  have wb0 : 0 ≤ a0 ∧ a0 ≤ 255 := by simpa [Lit.wf, IntKind.min, IntKind.max, IntKind.signed, IntKind.bits] using wa0
  have wb1 : 0 ≤ a1 ∧ a1 ≤ 255 := by simpa [Lit.wf, IntKind.min, IntKind.max, IntKind.signed, IntKind.bits] using wa1
  have hcall := calls_of_pcall (W := W) (xs := [.int .u8 a0, .int .u8 a1]) diskCutFn (dcut_law a0.toNat a1.toNat (by omega) (by omega)) (by
    simp only [RelL, RelV, str, u64V, u8V, i64V]
    exact ⟨_, _, rfl, by rw [Int.toNat_of_nonneg wb0.1], _, _, rfl, by rw [Int.toNat_of_nonneg wb1.1], rfl⟩)
  refine hcall.mono ?_
  rintro e W' ⟨x, rfl, hb, g', hx⟩
  simp only [bV, RelV] at hx; subst hx
  exact ⟨_, rfl, post_true diskCutLaid hW' hb (by kernel_rfl) rfl Try.underlying4 rfl rfl⟩

theorem diskCut : Rows.DiskCutSaid :=
  OpenClaim.holds_of_wide 12 Try.f12 rfl rfl rfl rfl rfl rfl rfl ⟨rfl, rfl, rfl, rfl, rfl⟩ rfl rfl rfl rfl rfl (by kernel_rfl) Try.func12 (by kernel_rfl)
    (of_decide_eq_true (by kernel_rfl)) (by unfold Func.isWrapper; first | (rw [if_pos (by decide +kernel)]; kernel_rfl) | (rw [if_neg (by decide +kernel)]; exact ⟨rfl, rfl⟩))
    (fun os started H enc _ => diskCutLifted os started H enc)
end Go.Proofs.Ytgkfpgkpdkmjbaa
