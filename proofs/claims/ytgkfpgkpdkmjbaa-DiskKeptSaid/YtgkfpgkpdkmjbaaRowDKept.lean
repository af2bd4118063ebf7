/- Proved here: whatever the input, the law DiskKept answers true, and its arguments read behind the call as they read before. No condition. -/
import Derived.Test.YtgkfpgkpdkmjbaaSvRow4
import Derived.Test.YtgkfpgkpdkmjbaaRows
import Derived.Test.YtgkfpgkpdkmjbaaDKept
namespace Go.Proofs.Ytgkfpgkpdkmjbaa
open Go Go.ChangeShapes Go.WideShapes Go.ChangeAt Go.RowKit Go.Sv Go.ChangeMaps

theorem diskKeptOwn : ownKnob Try.prog.godebug = none := by kernel_rfl
theorem diskKeptLaid : laidOutB Try.prog = true := by kernel_rfl
theorem diskKeptFn : isFn Try.prog 11 := ⟨_, _, Try.func11, rfl, by kernel_rfl⟩

set_option maxRecDepth 100000 in
theorem diskKeptLifted (os : Os) (started : os.Started) (H : Type) (enc : TypeId × Value → H) :
    ReturnsInHanded {} Try.checked os 11 .any (Rows.diskKeptSpec.pre6 enc Try.prog Try.f11 Rows.diskKeptRow.domain false) (Rows.diskKeptSpec.post enc Try.prog Try.f11 false true false false) := by
  refine returnsInHanded_of_change (C := Try.checked) diskKeptOwn started (by kernel_rfl) Try.func11
    (ChangeSpec.witness6 (enc := enc) (C := Try.checked) false ⟨#[], #[.slice none 0 0, .int .u16 0], []⟩ 8 (by kernel_rfl) (by kernel_rfl) (by kernel_rfl) (by kernel_rfl)) ?_
  intro W base args ds gs before hval0 hW hcnd _
  have hval : ∀ (j : Nat) t v, Try.f11.params[j]? = some t → args[j]? = some v → Value.okWide Try.prog W .any base t v := hval0
  have hW' := hW
  obtain ⟨p, q, hA0, hV, rfl, hfz, hnd⟩ := hW
  have hA : DataW.TrodAll enc Try.prog W 0 (fun _ => true) true Try.f11.params.toList args.toList ds p := hA0
  rw [Try.params11] at hA hval
  obtain ⟨v0, v1, d0, d1, p0, p1, rfl, rfl, rfl, h0, h1⟩ := trodAll_two hA
  obtain ⟨rfl, rfl⟩ := trodVars_none hV
  obtain ⟨z0, r0⟩ := open_slU8 Try.underlying49 Try.underlying5 (by kernel_rfl) (hval 0 49 v0 rfl rfl) h0
  obtain ⟨a1, rfl, rfl, rfl, wa1⟩ := open_int Try.underlying45 (hval 1 45 v1 rfl rfl) h1
  have wb1 : 0 ≤ a1 ∧ a1 ≤ 65535 := by simpa [Lit.wf, IntKind.min, IntKind.max, IntKind.signed, IntKind.bits] using wa1
  have hcall := calls_of_pcall (W := W) (xs := [v0, .int .u16 a1]) diskKeptFn (dkept_law z0 a1.toNat (by omega)) (by
    simp only [RelL, RelV, str, u64V, u8V, i64V]
    exact ⟨_, _, rfl, r0, _, _, rfl, by rw [Int.toNat_of_nonneg wb1.1], rfl⟩)
  refine hcall.mono ?_
  rintro e W' ⟨x, rfl, hb, g', hx⟩
  simp only [bV, RelV] at hx; subst hx
  exact ⟨_, rfl, post_true diskKeptLaid hW' hb (by kernel_rfl) rfl Try.underlying4 rfl rfl⟩

theorem diskKept : Rows.DiskKeptSaid :=
  OpenClaim.holds_of_wide 11 Try.f11 rfl rfl rfl rfl rfl rfl rfl ⟨rfl, rfl, rfl, rfl, rfl⟩ rfl rfl rfl rfl rfl (by kernel_rfl) Try.func11 (by kernel_rfl)
    (of_decide_eq_true (by kernel_rfl)) (by unfold Func.isWrapper; first | (rw [if_pos (by decide +kernel)]; kernel_rfl) | (rw [if_neg (by decide +kernel)]; exact ⟨rfl, rfl⟩))
    (fun os started H enc _ => diskKeptLifted os started H enc)
end Go.Proofs.Ytgkfpgkpdkmjbaa
