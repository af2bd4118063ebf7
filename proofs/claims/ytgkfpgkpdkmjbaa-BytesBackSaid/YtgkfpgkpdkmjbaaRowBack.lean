/- Proved here: whatever the input, the law BytesBack answers true, and its arguments read behind the call as they read before. No condition. -/
import Derived.Test.YtgkfpgkpdkmjbaaSvRow2
import Derived.Test.YtgkfpgkpdkmjbaaRows
import Derived.Test.YtgkfpgkpdkmjbaaBack2
namespace Go.Proofs.Ytgkfpgkpdkmjbaa
open Go Go.ChangeShapes Go.WideShapes Go.ChangeAt Go.RowKit Go.Sv Go.ChangeMaps

theorem bytesBackOwn : ownKnob Try.prog.godebug = none := by kernel_rfl
theorem bytesBackLaid : laidOutB Try.prog = true := by kernel_rfl
theorem bytesBackFn : isFn Try.prog 3 := ⟨_, _, Try.func3, rfl, by kernel_rfl⟩

set_option maxRecDepth 100000 in
theorem bytesBackLifted (os : Os) (started : os.Started) (H : Type) (enc : TypeId × Value → H) :
    ReturnsInHanded {} Try.checked os 3 .any (Rows.bytesBackSpec.pre6 enc Try.prog Try.f3 Rows.bytesBackRow.domain false) (Rows.bytesBackSpec.post enc Try.prog Try.f3 false true false false) := by
  refine returnsInHanded_of_change (C := Try.checked) bytesBackOwn started (by kernel_rfl) Try.func3
    (ChangeSpec.witness6 (enc := enc) (C := Try.checked) false ⟨#[], #[.slice none 0 0, .slice none 0 0, .slice none 0 0], []⟩ 8 (by kernel_rfl) (by kernel_rfl) (by kernel_rfl) (by kernel_rfl)) ?_
  intro W base args ds gs before hval0 hW hcnd _
  have hval : ∀ (j : Nat) t v, Try.f3.params[j]? = some t → args[j]? = some v → Value.okWide Try.prog W .any base t v := hval0
  have hW' := hW
  obtain ⟨p, q, hA0, hV, rfl, hfz, hnd⟩ := hW
  have hA : DataW.TrodAll enc Try.prog W 0 (fun _ => true) true Try.f3.params.toList args.toList ds p := hA0
  rw [Try.params3] at hA hval
  obtain ⟨v0, v1, v2, d0, d1, d2, p0, p1, p2, rfl, rfl, rfl, h0, h1, h2⟩ := trodAll_three hA
  obtain ⟨rfl, rfl⟩ := trodVars_none hV
  obtain ⟨z0, r0, w0⟩ := open_slI Try.underlying22 Try.underlying29 (by kernel_rfl) (hval 0 22 v0 rfl rfl) h0
  obtain ⟨z1, r1, w1⟩ := open_slI Try.underlying23 Try.underlying2 (by kernel_rfl) (hval 1 23 v1 rfl rfl) h1
  obtain ⟨z2, r2⟩ := open_slS Try.underlying24 Try.underlying9 (by kernel_rfl) (hval 2 24 v2 rfl rfl) h2
  have wb0 : ∀ n ∈ z0, 0 ≤ n ∧ n ≤ 18446744073709551615 := fun n hn => by simpa [Lit.wf, IntKind.min, IntKind.max, IntKind.signed, IntKind.bits] using w0 n hn
  have wb1 : ∀ n ∈ z1, -9223372036854775808 ≤ n ∧ n ≤ 9223372036854775807 := fun n hn => by simpa [Lit.wf, IntKind.min, IntKind.max, IntKind.signed, IntKind.bits] using w1 n hn
  have e0 : slN (z0.map Int.toNat) = .sl none (z0.map fun z => .c (.int .u64 z)) .no := by
    unfold slN
    rw [List.map_map]
    refine congrArg (fun l => V.sl none l .no) (List.map_congr_left fun n hn => ?_)
    exact congrArg (fun z => V.c (.int .u64 z)) (Int.toNat_of_nonneg (wb0 n hn).1)
  have hcall := calls_of_pcall (W := W) (xs := [v0, v1, v2]) bytesBackFn (back_call (z0.map Int.toNat) z1 z2 (fun n hn => by
      obtain ⟨m, hm, rfl⟩ := List.mem_map.1 hn
      have := wb0 m hm; omega) (fun n hn => by have := wb1 n hn; omega)) (by
    simp only [RelL]
    exact ⟨_, _, rfl, by rw [e0]; exact r0, _, _, rfl, r1, _, _, rfl, r2, rfl⟩)
  refine hcall.mono ?_
  rintro e W' ⟨x, rfl, hb, g', hx⟩
  simp only [bV, RelV] at hx; subst hx
  exact ⟨_, rfl, post_true bytesBackLaid hW' hb (by kernel_rfl) rfl Try.underlying4 rfl rfl⟩

theorem bytesBack : Rows.BytesBackSaid :=
  OpenClaim.holds_of_wide 3 Try.f3 rfl rfl rfl rfl rfl rfl rfl ⟨rfl, rfl, rfl, rfl, rfl⟩ rfl rfl rfl rfl rfl (by kernel_rfl) Try.func3 (by kernel_rfl)
    (of_decide_eq_true (by kernel_rfl)) (by unfold Func.isWrapper; first | (rw [if_pos (by decide +kernel)]; kernel_rfl) | (rw [if_neg (by decide +kernel)]; exact ⟨rfl, rfl⟩))
    (fun os started H enc _ => bytesBackLifted os started H enc)
end Go.Proofs.Ytgkfpgkpdkmjbaa
