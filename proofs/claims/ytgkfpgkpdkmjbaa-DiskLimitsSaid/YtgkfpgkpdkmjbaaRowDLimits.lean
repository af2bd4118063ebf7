/- Proved here: whatever the input, the law DiskLimits answers true, and its arguments read behind the call as they read before. No condition. -/
import Derived.Test.YtgkfpgkpdkmjbaaSvRow3
import Derived.Test.YtgkfpgkpdkmjbaaRows
import Derived.Test.YtgkfpgkpdkmjbaaDLimits
namespace Go.Proofs.Ytgkfpgkpdkmjbaa
open Go Go.ChangeShapes Go.WideShapes Go.ChangeAt Go.RowKit Go.Sv Go.ChangeMaps

theorem diskLimitsOwn : ownKnob Try.prog.godebug = none := by kernel_rfl
theorem diskLimitsLaid : laidOutB Try.prog = true := by kernel_rfl
theorem diskLimitsFn : isFn Try.prog 10 := ⟨_, _, Try.func10, rfl, by kernel_rfl⟩

set_option maxRecDepth 100000 in
theorem diskLimitsLifted (os : Os) (started : os.Started) (H : Type) (enc : TypeId × Value → H) :
    ReturnsInHanded {} Try.checked os 10 .any (Rows.diskLimitsSpec.pre6 enc Try.prog Try.f10 Rows.diskLimitsRow.domain false) (Rows.diskLimitsSpec.post enc Try.prog Try.f10 false true false false) := by
  refine returnsInHanded_of_change (C := Try.checked) diskLimitsOwn started (by kernel_rfl) Try.func10
    (ChangeSpec.witness6 (enc := enc) (C := Try.checked) false ⟨#[], #[.int .u8 0], []⟩ 8 (by kernel_rfl) (by kernel_rfl) (by kernel_rfl) (by kernel_rfl)) ?_
  intro W base args ds gs before hval0 hW hcnd _
  have hval : ∀ (j : Nat) t v, Try.f10.params[j]? = some t → args[j]? = some v → Value.okWide Try.prog W .any base t v := hval0
  have hW' := hW
  obtain ⟨p, q, hA0, hV, rfl, hfz, hnd⟩ := hW
  have hA : DataW.TrodAll enc Try.prog W 0 (fun _ => true) true Try.f10.params.toList args.toList ds p := hA0
  rw [Try.params10] at hA hval
  obtain ⟨v0, d0, rfl, rfl, h0⟩ := trodAll_one hA
  obtain ⟨rfl, rfl⟩ := trodVars_none hV
  obtain ⟨a0, rfl, rfl, rfl, wa0⟩ := open_int Try.underlying5 (hval 0 5 v0 rfl rfl) h0
  have wb0 : 0 ≤ a0 ∧ a0 ≤ 255 := by simpa [Lit.wf, IntKind.min, IntKind.max, IntKind.signed, IntKind.bits] using wa0
  have hcall := calls_of_pcall (W := W) (xs := [.int .u8 a0]) diskLimitsFn (dlimits_law a0.toNat (by omega)) (by
    simp only [RelL, RelV, str, u64V, u8V, i64V]
    exact ⟨_, _, rfl, by rw [Int.toNat_of_nonneg wb0.1], rfl⟩)
  refine hcall.mono ?_
  rintro e W' ⟨x, rfl, hb, g', hx⟩
  simp only [bV, RelV] at hx; subst hx
  exact ⟨_, rfl, post_true diskLimitsLaid hW' hb (by kernel_rfl) rfl Try.underlying4 rfl rfl⟩

theorem diskLimits : Rows.DiskLimitsSaid :=
  OpenClaim.holds_of_wide 10 Try.f10 rfl rfl rfl rfl rfl rfl rfl ⟨rfl, rfl, rfl, rfl, rfl⟩ rfl rfl rfl rfl rfl (by kernel_rfl) Try.func10 (by kernel_rfl)
    (of_decide_eq_true (by kernel_rfl)) (by unfold Func.isWrapper; first | (rw [if_pos (by decide +kernel)]; kernel_rfl) | (rw [if_neg (by decide +kernel)]; exact ⟨rfl, rfl⟩))
    (fun os started H enc _ => diskLimitsLifted os started H enc)
end Go.Proofs.Ytgkfpgkpdkmjbaa
