/- What the law's own look at the package bytes comes to. -/
import Derived.Test.YtgkfpgkpdkmjbaaBytes4
import Derived.KernelRfl
namespace Go.Sv
open Go Go.Proofs

theorem eqS (l m : List UInt8) : ((S l).toList == (S m).toList) = decide (l = m) := by
  rw [S_toList, S_toList, Bool.eq_iff_iff]; simp
theorem eqS_true {l m : List UInt8} (h : ((S l).toList == (S m).toList) = false) (e : l = m) : False := by
  rw [eqS, e] at h; simp at h

set_option maxRecDepth 100000 in
theorem known24_call : PCall Try.prog 13 [] (bV true) := by
  refine scall_of (live := []) (ords := [(14, [])]) Try.func13 rfl (by kernel_rfl) (by kernel_rfl) (Nat.le_of_ble_eq_true rfl) ?_
  refine wp_call new_call ?_
  rintro v R' ⟨b, rfl, rfl⟩
  refine wp_ite (fun h => by cases h) (fun _ => ?_)
  have c1 : SCall Try.prog 15 [.loc b 0, u64V 300] (WRes b none []) fun _ R' => ∃ t', R' = WRes b (some t') [172, 2] := wnum_call b none [] 300 (by simp) (by omega) (by simp)
  refine wp_call c1 ?_
  rintro v R' ⟨t1, rfl⟩
  have c2 : SCall Try.prog 16 [.loc b 0, i64V (-2)] (WRes b (some t1) [172, 2]) fun _ R' => ∃ t', R' = WRes b (some t') [172, 2, 3] := wint_call b (some t1) _ (-2) (by simp) (by omega) (by omega) (by decide)
  refine wp_call c2 ?_
  rintro v R' ⟨t2, rfl⟩
  have c3 : SCall Try.prog 17 [.loc b 0, str [97, 98]] (WRes b (some t2) [172, 2, 3]) fun _ R' => ∃ t', R' = WRes b (some t') [172, 2, 3, 2, 97, 98] := wtext_call b (some t2) _ [97, 98] (by simp) (by decide) (by decide)
  refine wp_call c3 ?_
  rintro v R' ⟨t3, rfl⟩
  have c4 : SCall Try.prog 18 [.loc b 0, byteV 7, str [99]] (WRes b (some t3) [172, 2, 3, 2, 97, 98]) fun _ R' => ∃ t', R' = WRes b (some t') [172, 2, 3, 2, 97, 98, 7, 1, 99] := wpart_call b (some t3) _ [99] 7 (by simp) (by decide) (by decide)
  refine wp_call c4 ?_
  rintro v R' ⟨t4, rfl⟩
  refine wp_call (wstring_call b (some t4) _) ?_
  rintro v R' ⟨rfl, rfl⟩
  refine wp_callF (WRes b (some t4) [172, 2, 3, 2, 97, 98, 7, 1, 99]) [] [] rfl (of_call _) ?_
  rintro v R' ⟨r, rfl, rfl⟩
  have d1 : SCall Try.prog 21 [.loc r 0, u64V 1000] (RRes r [172, 2, 3, 2, 97, 98, 7, 1, 99] none) fun v R' => v = u64V 300 ∧ R' = RRes r [3, 2, 97, 98, 7, 1, 99] none := rdN_call r _ _ 1000 (by decide)
  refine wp_callF (WRes b (some t4) [172, 2, 3, 2, 97, 98, 7, 1, 99]) (RRes r [172, 2, 3, 2, 97, 98, 7, 1, 99] none) [] rfl d1 ?_
  rintro v R' ⟨rfl, rfl⟩
  have d2 : SCall Try.prog 22 [.loc r 0] (RRes r [3, 2, 97, 98, 7, 1, 99] none) fun v R' => v = i64V (-2) ∧ R' = RRes r [2, 97, 98, 7, 1, 99] none := rdI_call r _ _ (by decide)
  refine wp_callF (WRes b (some t4) [172, 2, 3, 2, 97, 98, 7, 1, 99]) (RRes r [3, 2, 97, 98, 7, 1, 99] none) [] rfl d2 ?_
  rintro v R' ⟨rfl, rfl⟩
  have d3 : SCall Try.prog 23 [.loc r 0, i64V 5] (RRes r [2, 97, 98, 7, 1, 99] none) fun v R' => v = str [97, 98] ∧ R' = RRes r [7, 1, 99] none := rdT_call r _ _ 5 (by omega) (by decide)
  refine wp_callF (WRes b (some t4) [172, 2, 3, 2, 97, 98, 7, 1, 99]) (RRes r [2, 97, 98, 7, 1, 99] none) [] rfl d3 ?_
  rintro v R' ⟨rfl, rfl⟩
  have d4 : SCall Try.prog 24 [.loc r 0, byteV 7] (RRes r [7, 1, 99] none) fun v R' => v = str [99] ∧ R' = RRes r [] none := rdP_call r _ _ 7 (by decide)
  refine wp_callF (WRes b (some t4) [172, 2, 3, 2, 97, 98, 7, 1, 99]) (RRes r [7, 1, 99] none) [] rfl d4 ?_
  rintro v R' ⟨rfl, rfl⟩
  refine wp_callF (WRes b (some t4) [172, 2, 3, 2, 97, 98, 7, 1, 99] ++ RRes r [] none) [] [] rfl (of_call [128, 0]) ?_
  rintro v R' ⟨q, rfl, rfl⟩
  have d5 : SCall Try.prog 21 [.loc q 0, u64V 9] (RRes q [128, 0] none) fun v R' => v = u64V 0 ∧ R' = RRes q [128, 0] (some 10) := rdN_call q _ _ 9 (by decide)
  refine wp_callF (WRes b (some t4) [172, 2, 3, 2, 97, 98, 7, 1, 99] ++ RRes r [] none) (RRes q [128, 0] none) [] rfl d5 ?_
  rintro v R' ⟨rfl, rfl⟩
  refine wp_callF (WRes b (some t4) [172, 2, 3, 2, 97, 98, 7, 1, 99] ++ RRes r [] none ++ RRes q [128, 0] (some 10)) [] [] rfl (of_call [9]) ?_
  rintro v R' ⟨p, rfl, rfl⟩
  have d6 : SCall Try.prog 21 [.loc p 0, u64V 8] (RRes p [9] none) fun v R' => v = u64V 0 ∧ R' = RRes p [9] (some 12) := rdN_call p _ _ 8 (by decide)
  refine wp_callF (WRes b (some t4) [172, 2, 3, 2, 97, 98, 7, 1, 99] ++ RRes r [] none ++ RRes q [128, 0] (some 10)) (RRes p [9] none) [] rfl d6 ?_
  rintro v R' ⟨rfl, rfl⟩
  refine wp_cut (frL [(1, .loc b 0), (2, .loc r 0), (3, u64V 300), (4, i64V (-2)), (5, str [97, 98]), (6, str [99]), (7, .loc q 0), (8, u64V 0), (9, .loc p 0)]) (.cons (.refl _) (.cons (.refl _) (.cons (.refl _) (.cons (.refl _) (.cons (.refl _) (.cons (.refl _) (.cons (.refl _) (.cons (.refl _) (.cons (.refl _) (.nil _)))))))))) ?_
  refine wp_callF [] (WRes b (some t4) [172, 2, 3, 2, 97, 98, 7, 1, 99]) (RRes r [] none ++ RRes q [128, 0] (some 10) ++ RRes p [9] (some 12)) rfl (wstring_call b (some t4) _) ?_
  rintro v R' ⟨rfl, rfl⟩
  refine wp_ite (fun _ => ?_) (fun h => (eqS_true h rfl).elim)
  refine wp_ite (fun _ => ?_) (fun h => absurd h (by decide))
  refine wp_ite (fun _ => ?_) (fun h => absurd h (by decide))
  refine wp_ite (fun _ => ?_) (fun h => (eqS_true h rfl).elim)
  refine wp_ite (fun _ => ?_) (fun h => (eqS_true h rfl).elim)
  refine wp_callF (WRes b (some t4) [172, 2, 3, 2, 97, 98, 7, 1, 99]) (RRes r [] none) (RRes q [128, 0] (some 10) ++ RRes p [9] (some 12)) rfl (left_call r [] none) ?_
  rintro v R' ⟨rfl, rfl⟩
  refine wp_ite (fun _ => ?_) (fun h => absurd h (by decide))
  refine wp_callF (WRes b (some t4) [172, 2, 3, 2, 97, 98, 7, 1, 99]) (RRes r [] none) (RRes q [128, 0] (some 10) ++ RRes p [9] (some 12)) rfl (err_call r [] none) ?_
  rintro v R' ⟨rfl, rfl⟩
  refine wp_ite (fun _ => ?_) (fun h => by cases h)
  refine wp_ite (fun _ => ?_) (fun h => absurd h (by decide))
  refine wp_callF (WRes b (some t4) [172, 2, 3, 2, 97, 98, 7, 1, 99] ++ RRes r [] none) (RRes q [128, 0] (some 10)) (RRes p [9] (some 12)) rfl (err_call q [128, 0] (some 10)) ?_
  rintro v R' ⟨rfl, rfl⟩
  refine wp_pcall (is_call (some 10) 10) ?_
  refine wp_ite (fun _ => ?_) (fun h => absurd h (by decide))
  refine wp_callF (WRes b (some t4) [172, 2, 3, 2, 97, 98, 7, 1, 99] ++ RRes r [] none ++ RRes q [128, 0] (some 10)) (RRes p [9] (some 12)) [] rfl (err_call p [9] (some 12)) ?_
  rintro v R' ⟨rfl, rfl⟩
  refine wp_pcall (is_call (some 12) 12) ?_
  refine wp_ite (fun _ => ?_) (fun h => absurd h (by decide))
  refine wp_pcall (sum_call [49, 50, 51, 52, 53, 54, 55, 56, 57] (by decide)) ?_
  refine wp_leaf (ends_ret (v := bV true) (resV_tmp resV_nil) (Vle.eq ?_) (List.nil_sublist _) rfl)
  refine cBool ?_
  kernel_rfl
end Go.Sv
