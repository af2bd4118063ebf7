/- Proved here: whatever the input, the law DiskCrash answers true, and its arguments read behind the call as they read before. No condition. -/
import Derived.Test.YtgkfpgkpdkmjbaaSvRow3
import Derived.Test.YtgkfpgkpdkmjbaaRows
import Derived.Test.YtgkfpgkpdkmjbaaDCrash
namespace Go.Proofs.Ytgkfpgkpdkmjbaa
open Go Go.ChangeShapes Go.WideShapes Go.ChangeAt Go.RowKit Go.Sv Go.ChangeMaps

theorem diskCrashOwn : ownKnob Try.prog.godebug = none := by kernel_rfl
theorem diskCrashLaid : laidOutB Try.prog = true := by kernel_rfl
theorem diskCrashFn : isFn Try.prog 8 := ⟨_, _, Try.func8, rfl, by kernel_rfl⟩

set_option maxRecDepth 100000 in
theorem diskCrashLifted (os : Os) (started : os.Started) (H : Type) (enc : TypeId × Value → H) :
    ReturnsInHanded {} Try.checked os 8 .any (Rows.diskCrashSpec.pre6 enc Try.prog Try.f8 Rows.diskCrashRow.domain false) (Rows.diskCrashSpec.post enc Try.prog Try.f8 false true false false) := by
  refine returnsInHanded_of_change (C := Try.checked) diskCrashOwn started (by kernel_rfl) Try.func8
    (ChangeSpec.witness6 (enc := enc) (C := Try.checked) false ⟨#[], #[.slice none 0 0, .string ⟨#[]⟩, .int .u8 0, .slice none 0 0], []⟩ 8 (by kernel_rfl) (by kernel_rfl) (by kernel_rfl) (by kernel_rfl)) ?_
  intro W base args ds gs before hval0 hW hcnd _
  have hval : ∀ (j : Nat) t v, Try.f8.params[j]? = some t → args[j]? = some v → Value.okWide Try.prog W .any base t v := hval0
  have hW' := hW
  obtain ⟨p, q, hA0, hV, rfl, hfz, hnd⟩ := hW
  have hA : DataW.TrodAll enc Try.prog W 0 (fun _ => true) true Try.f8.params.toList args.toList ds p := hA0
  rw [Try.params8] at hA hval
  obtain ⟨v0, v1, v2, v3, d0, d1, d2, d3, p0, p1, p2, p3, rfl, rfl, rfl, h0, h1, h2, h3⟩ := trodAll_four hA
  obtain ⟨rfl, rfl⟩ := trodVars_none hV
  obtain ⟨z0, r0⟩ := open_slS Try.underlying24 Try.underlying9 (by kernel_rfl) (hval 0 24 v0 rfl rfl) h0
  obtain ⟨a1, rfl, rfl, rfl, wa1⟩ := open_string Try.underlying9 (hval 1 9 v1 rfl rfl) h1
  obtain ⟨a2, rfl, rfl, rfl, wa2⟩ := open_int Try.underlying5 (hval 2 5 v2 rfl rfl) h2
  obtain ⟨z3, r3⟩ := open_slB Try.underlying55 Try.underlying4 (by kernel_rfl) (hval 3 55 v3 rfl rfl) h3
  have wb2 : 0 ≤ a2 ∧ a2 ≤ 255 := by simpa [Lit.wf, IntKind.min, IntKind.max, IntKind.signed, IntKind.bits] using wa2
  have hcall := calls_of_pcall (W := W) (xs := [v0, .string a1, .int .u8 a2, v3]) diskCrashFn (dcrash_law z0 a1.data.toList a2.toNat z3 (by omega)) (by
    simp only [RelL, RelV, str, u64V, u8V, i64V]
    exact ⟨_, _, rfl, r0, _, _, rfl, by rw [← S_of], _, _, rfl, by rw [Int.toNat_of_nonneg wb2.1], _, _, rfl, r3, rfl⟩)
  refine hcall.mono ?_
  rintro e W' ⟨x, rfl, hb, g', hx⟩
  simp only [bV, RelV] at hx; subst hx
  exact ⟨_, rfl, post_true diskCrashLaid hW' hb (by kernel_rfl) rfl Try.underlying4 rfl rfl⟩

theorem diskCrash : Rows.DiskCrashSaid :=
  OpenClaim.holds_of_wide 8 Try.f8 rfl rfl rfl rfl rfl rfl rfl ⟨rfl, rfl, rfl, rfl, rfl⟩ rfl rfl rfl rfl rfl (by kernel_rfl) Try.func8 (by kernel_rfl)
    (of_decide_eq_true (by kernel_rfl)) (by unfold Func.isWrapper; first | (rw [if_pos (by decide +kernel)]; kernel_rfl) | (rw [if_neg (by decide +kernel)]; exact ⟨rfl, rfl⟩))
    (fun os started H enc _ => diskCrashLifted os started H enc)
end Go.Proofs.Ytgkfpgkpdkmjbaa
