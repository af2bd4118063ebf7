/- Proved here: whatever the input, the law BytesShort answers true, and its arguments read behind the call as they read before. No condition. -/
import Derived.Test.YtgkfpgkpdkmjbaaSvRow
import Derived.Test.YtgkfpgkpdkmjbaaRows
import Derived.Test.YtgkfpgkpdkmjbaaShort
namespace Go.Proofs.Ytgkfpgkpdkmjbaa
open Go Go.ChangeShapes Go.WideShapes Go.ChangeAt Go.RowKit Go.Sv Go.ChangeMaps

theorem bytesShortOwn : ownKnob Try.prog.godebug = none := by kernel_rfl
theorem bytesShortLaid : laidOutB Try.prog = true := by kernel_rfl
theorem bytesShortFn : isFn Try.prog 4 := ⟨_, _, Try.func4, rfl, by kernel_rfl⟩

set_option maxRecDepth 100000 in
theorem bytesShortLifted (os : Os) (started : os.Started) (H : Type) (enc : TypeId × Value → H) :
    ReturnsInHanded {} Try.checked os 4 .any (Rows.bytesShortSpec.pre6 enc Try.prog Try.f4 Rows.bytesShortRow.domain false) (Rows.bytesShortSpec.post enc Try.prog Try.f4 false true false false) := by
  refine returnsInHanded_of_change (C := Try.checked) bytesShortOwn started (by kernel_rfl) Try.func4
    (ChangeSpec.witness6 (enc := enc) (C := Try.checked) false ⟨#[], #[.int .u64 0, .string ⟨#[]⟩, .int .u16 0], []⟩ 8 (by kernel_rfl) (by kernel_rfl) (by kernel_rfl) (by kernel_rfl)) ?_
  intro W base args ds gs before hval0 hW hcnd _
  have hval : ∀ (j : Nat) t v, Try.f4.params[j]? = some t → args[j]? = some v → Value.okWide Try.prog W .any base t v := hval0
  have hW' := hW
  obtain ⟨p, q, hA0, hV, rfl, hfz, hnd⟩ := hW
  have hA : DataW.TrodAll enc Try.prog W 0 (fun _ => true) true Try.f4.params.toList args.toList ds p := hA0
  rw [Try.params4] at hA hval
  obtain ⟨v0, v1, v2, d0, d1, d2, p0, p1, p2, rfl, rfl, rfl, h0, h1, h2⟩ := trodAll_three hA
  obtain ⟨rfl, rfl⟩ := trodVars_none hV
  obtain ⟨a0, rfl, rfl, rfl, wa0⟩ := open_int Try.underlying29 (hval 0 29 v0 rfl rfl) h0
  obtain ⟨a1, rfl, rfl, rfl, wa1⟩ := open_string Try.underlying9 (hval 1 9 v1 rfl rfl) h1
  obtain ⟨a2, rfl, rfl, rfl, wa2⟩ := open_int Try.underlying45 (hval 2 45 v2 rfl rfl) h2
  have wb0 : 0 ≤ a0 ∧ a0 ≤ 18446744073709551615 := by simpa [Lit.wf, IntKind.min, IntKind.max, IntKind.signed, IntKind.bits] using wa0
  have wb2 : 0 ≤ a2 ∧ a2 ≤ 65535 := by simpa [Lit.wf, IntKind.min, IntKind.max, IntKind.signed, IntKind.bits] using wa2
  have hcall := calls_of_pcall (W := W) (xs := [.int .u64 a0, .string a1, .int .u16 a2]) bytesShortFn (short_call  a0.toNat a1.data.toList a2.toNat (by omega) (by omega)) (by
    simp only [RelL, RelV, str, u64V, u8V, i64V]
    exact ⟨_, _, rfl, by rw [Int.toNat_of_nonneg wb0.1], _, _, rfl, by rw [← S_of], _, _, rfl, by rw [Int.toNat_of_nonneg wb2.1], rfl⟩)
  refine hcall.mono ?_
  rintro e W' ⟨x, rfl, hb, g', hx⟩
  simp only [bV, RelV] at hx; subst hx
  exact ⟨_, rfl, post_true bytesShortLaid hW' hb (by kernel_rfl) rfl Try.underlying4 rfl rfl⟩

theorem bytesShort : Rows.BytesShortSaid :=
  OpenClaim.holds_of_wide 4 Try.f4 rfl rfl rfl rfl rfl rfl rfl ⟨rfl, rfl, rfl, rfl, rfl⟩ rfl rfl rfl rfl rfl (by kernel_rfl) Try.func4 (by kernel_rfl)
    (of_decide_eq_true (by kernel_rfl)) (by unfold Func.isWrapper; first | (rw [if_pos (by decide +kernel)]; kernel_rfl) | (rw [if_neg (by decide +kernel)]; exact ⟨rfl, rfl⟩))
    (fun os started H enc _ => bytesShortLifted os started H enc)
end Go.Proofs.Ytgkfpgkpdkmjbaa
