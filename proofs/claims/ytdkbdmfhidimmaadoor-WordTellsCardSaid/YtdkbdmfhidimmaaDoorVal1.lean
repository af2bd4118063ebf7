/- The package value: what is one. -/
import Derived.Test.YtdkbdmfhidimmaaDoorValFns
import Derived.Test.YtdkbdmfhidimmaaDoorProg
namespace Go.Sv
open Go Go.Proofs

theorem okCh_false {c : UInt8} (h : okCh c = false) : ¬ (32 ≤ c.toNat ∧ c.toNat ≤ 126) := by
  simpa [okCh] using h

set_option maxRecDepth 100000 in
theorem istext_call (s : List UInt8) (hs : s.length < 2 ^ 60) : PCall Tryd.prog 58 [str s] (bV (isTextB s)) := by
  refine scall_of (live := []) (ords := []) Tryd.func58 rfl (by kernel_rfl) (by kernel_rfl) (Nat.le_of_ble_eq_true rfl) ?_
  (conv => arg 2; whnf); refine wp_loop (fun m fr R => ∃ n : Nat, m = s.length - n ∧ n ≤ s.length ∧ R = [] ∧ (s.take n).all okCh = true ∧ fr = frL [(0, str s), (5, i64V s.length), (6, i64V n)])
    s.length _ _ (.cons (.refl _) (.cons (.refl _) (.cons (.refl _) (.nil _)))) (List.Sublist.refl _) ⟨0, rfl, Nat.zero_le _, rfl, rfl, rfl⟩ ?_
  rintro m fr R ⟨n, rfl, hn, rfl, ha, rfl⟩
  (conv => arg 2; whnf); refine wp_ite (fun h => ?_) (fun h => ?_)
  · have h : n < s.length := by have := of_decide_eq_true h; omega
    obtain ⟨c, hc⟩ : ∃ c, s[n]? = some c := ⟨_, List.getElem?_eq_getElem h⟩
    have hb : byteAt (S s) (Int.toNat (n : Int)) = c := byte_at hc
    have hsplit : s = s.take n ++ c :: s.drop (n + 1) := by rw [← drop_at hc, List.take_append_drop]
    (conv => arg 2; whnf); refine wp_need (by rw [S_size]; omega) ?_
    rw [hb]
    (conv => arg 2; whnf); refine wp_ite (fun h1 => ?_) (fun h1 => ?_)
    · have h1 : c.toNat < 32 := by have := of_decide_eq_true h1; omega
      (repeat ((conv => arg 2; whnf); first | refine wp_ite (fun _ => ?_) (fun h => Bool.noConfusion h) | refine wp_ite (fun h => Bool.noConfusion h) (fun _ => ?_)))
      (conv => arg 2; whnf)
      refine wp_leaf (loop_ret ?_)
      (conv => arg 2; whnf); refine w_retp rfl (Vle.eq (cBool ?_))
      rw [hsplit, isTextB]
      have : okCh c = false := by rw [okCh, decide_eq_false (by omega : ¬ 32 ≤ c.toNat), Bool.false_and]
      simp [this]
    · have h1 : 32 ≤ c.toNat := by have := of_decide_eq_false h1; omega
      (conv => arg 2; whnf); refine wp_need (by rw [S_size]; omega) ?_
      rw [hb]
      (conv => arg 2; whnf); refine wp_ite (fun h2 => ?_) (fun h2 => ?_)
      · have h2 : 126 < c.toNat := by have := of_decide_eq_true h2; omega
        (repeat ((conv => arg 2; whnf); first | refine wp_ite (fun _ => ?_) (fun h => Bool.noConfusion h) | refine wp_ite (fun h => Bool.noConfusion h) (fun _ => ?_)))
        (conv => arg 2; whnf)
        refine wp_leaf (loop_ret ?_)
        (conv => arg 2; whnf); refine w_retp rfl (Vle.eq (cBool ?_))
        rw [hsplit, isTextB]
        have : okCh c = false := by rw [okCh, decide_eq_false (by omega : ¬ c.toNat ≤ 126), Bool.and_false]
        simp [this]
      · have h2 : c.toNat ≤ 126 := by have := of_decide_eq_false h2; omega
        (repeat ((conv => arg 2; whnf); first | refine wp_ite (fun _ => ?_) (fun h => Bool.noConfusion h) | refine wp_ite (fun h => Bool.noConfusion h) (fun _ => ?_)))
        (conv => arg 2; whnf)
        refine wp_leaf (loop_next (s.length - (n + 1)) _ _ (by omega) (.cons (.refl _) (.cons (.refl _) (.cons (Vle.inc n rfl (by omega)) (.nil _)))) (List.Sublist.refl _) ⟨n + 1, rfl, h, rfl, ?_, rfl⟩)
        rw [List.take_add_one, hc, List.all_append, ha]
        have : okCh c = true := by rw [okCh, decide_eq_true h1, decide_eq_true h2]; rfl
        simp [this]
  · have h : n = s.length := by have := of_decide_eq_false h; omega
    subst h
    rw [List.take_length] at ha
    (repeat ((conv => arg 2; whnf); first | refine wp_ite (fun _ => ?_) (fun h => Bool.noConfusion h) | refine wp_ite (fun h => Bool.noConfusion h) (fun _ => ?_)))
    (conv => arg 2; whnf)
    refine wp_leaf (loop_exit ?_)
    (conv => arg 2; whnf); refine w_retp rfl (Vle.eq (cBool ?_))
    rw [isTextB, ha, Bool.true_and]
    exact decide_eq_decide.2 (by rw [S_size]; omega)

theorem nilS {l : List UInt8} : ((S l).toList == (⟨#[]⟩ : ByteArray).toList) = decide (l = []) := strEq l []

set_option maxRecDepth 100000 in
theorem valueis_call (v : Val) (hs : v.s.length < 2 ^ 60) : PCall Tryd.prog 36 [valV v] (bV (valIs v)) := by
  obtain ⟨k, n, s⟩ := v
  refine scall_of (live := []) (ords := []) Tryd.func36 rfl (by kernel_rfl) (by kernel_rfl) (Nat.le_of_ble_eq_true rfl) ?_
  (conv => arg 2; whnf); refine wp_ite (fun h1 => ?_) (fun h1 => ?_)
  · have h1 : k = 1 := by simpa using h1
    (conv => arg 2; whnf); refine w_retp rfl (Vle.eq (cBool ?_))
    rw [valIs, if_pos h1]; exact nilS
  have h1 : k ≠ 1 := by simpa using h1
  (conv => arg 2; whnf); refine wp_ite (fun h2 => ?_) (fun h2 => ?_)
  · have h2 : k = 2 := by simpa using h2
    (conv => arg 2; whnf); refine wp_ite (fun h3 => ?_) (fun h3 => ?_)
    · have h3 : n = 0 := by simpa using h3
      (conv => arg 2; whnf); refine wp_pcall (istext_call s hs) ?_
      (conv => arg 2; whnf); refine w_retp rfl (Vle.eq (cBool ?_))
      rw [valIs, if_neg h1, if_pos h2, decide_eq_true h3]; rfl
    · have h3 : n ≠ 0 := by simpa using h3
      (conv => arg 2; whnf); refine w_retp rfl (Vle.eq (cBool ?_))
      rw [valIs, if_neg h1, if_pos h2, decide_eq_false h3]; rfl
  have h2 : k ≠ 2 := by simpa using h2
  (conv => arg 2; whnf); refine wp_ite (fun h3 => ?_) (fun h3 => ?_)
  · have h3 : k = 3 := by simpa using h3
    (conv => arg 2; whnf); refine wp_ite (fun h4 => ?_) (fun h4 => ?_)
    · have h4 : n = 0 := by simpa using h4
      (repeat ((conv => arg 2; whnf); first | refine wp_ite (fun _ => ?_) (fun h => Bool.noConfusion h) | refine wp_ite (fun h => Bool.noConfusion h) (fun _ => ?_)))
      (conv => arg 2; whnf); refine w_retp rfl (Vle.eq (cBool ?_))
      rw [valIs, if_neg h1, if_neg h2, if_pos h3, decide_eq_true h4]; exact nilS
    · have h4 : n ≠ 0 := by simpa using h4
      (conv => arg 2; whnf); refine wp_ite (fun h5 => ?_) (fun h5 => ?_)
      · have h5 : n = 1 := by simpa using h5
        (conv => arg 2; whnf); refine w_retp rfl (Vle.eq (cBool ?_))
        rw [valIs, if_neg h1, if_neg h2, if_pos h3, decide_eq_false h4, decide_eq_true h5]; exact nilS
      · have h5 : n ≠ 1 := by simpa using h5
        (conv => arg 2; whnf); refine w_retp rfl (Vle.eq (cBool ?_))
        rw [valIs, if_neg h1, if_neg h2, if_pos h3, decide_eq_false h4, decide_eq_false h5]; rfl
  have h3 : k ≠ 3 := by simpa using h3
  (conv => arg 2; whnf); refine w_retp rfl (Vle.eq (cBool ?_))
  rw [valIs, if_neg h1, if_neg h2, if_neg h3]
end Go.Sv
