/- pasternlaw7.WordMany. -/
import Derived.Test.YtdkbdmfhidimmaaDoorWMany0
import Derived.Test.YtdkbdmfhidimmaaDoorKnown7
namespace Go.Sv
open Go Go.Proofs

theorem repStr {v : V} (q : Nat) (b : UInt8) (h : v = V.c (.string (S (List.replicate q b) ++ S [b]))) : Vle v (str (List.replicate (q + 1) b)) := by
  rw [List.replicate_succ']; exact addStr _ _ h
theorem bit_call (b : Bool) : PCall Tryd.prog 15 [bV b] (i64V (if b then 1 else 0)) := by
  refine scall_of (live := []) (ords := []) Tryd.func15 rfl (by kernel_rfl) (by kernel_rfl) (Nat.le_of_ble_eq_true rfl) ?_
  cases b with
  | true =>
    (repeat ((conv => arg 2; whnf); first | refine wp_ite (fun _ => ?_) (fun h => Bool.noConfusion h) | refine wp_ite (fun h => Bool.noConfusion h) (fun _ => ?_)))
    (conv => arg 2; whnf); refine w_retp rfl (.refl _)
  | false =>
    (repeat ((conv => arg 2; whnf); first | refine wp_ite (fun _ => ?_) (fun h => Bool.noConfusion h) | refine wp_ite (fun h => Bool.noConfusion h) (fun _ => ?_)))
    (conv => arg 2; whnf); refine w_retp rfl (.refl _)

set_option maxRecDepth 100000 in
set_option maxHeartbeats 4000000 in
theorem wmany_law (n m : Nat) (great : Bool) (hn : n < 256) (hm : m < 256) : PCall Tryd.prog 7 [.c (.int .u8 n), .c (.int .u8 m), bV great] (bV true) := by
  obtain ⟨k, hk, hk1, hk2⟩ : ∃ k : Nat, k = 498 + n % 5 ∧ 498 ≤ k ∧ k ≤ 502 := ⟨_, rfl, by omega, by omega⟩
  obtain ⟨j, hj, hj1, hj2⟩ : ∃ j : Nat, j = m % 12 + 1 ∧ 1 ≤ j ∧ j ≤ 12 := ⟨_, rfl, by omega, by omega⟩
  have wk : IntKind.i64.wrap (498 + IntKind.i64.wrap ((n : Int).tmod 5)) = (k : Int) := by
    have a : ((n : Int).tmod 5) = ((n % 5 : Nat) : Int) := tmod_nat n 5
    have a1 : IntKind.i64.wrap ((n % 5 : Nat) : Int) = ((n % 5 : Nat) : Int) := w_i64_small (by omega) (by omega)
    rw [a, a1, w_i64_small (by omega) (by omega)]; omega
  have wj : IntKind.i64.wrap (IntKind.i64.wrap ((m : Int).tmod 12) + 1) = (j : Int) := by
    have a : ((m : Int).tmod 12) = ((m % 12 : Nat) : Int) := tmod_nat m 12
    have a1 : IntKind.i64.wrap ((m % 12 : Nat) : Int) = ((m % 12 : Nat) : Int) := w_i64_small (by omega) (by omega)
    rw [a, a1, w_i64_small (by omega) (by omega)]; omega
  clear hk hj
  refine scall_of (live := []) (ords := [(4, []), (9, []), (10, []), (12, []), (13, []), (18, []), (19, [])]) Tryd.func7 rfl (by kernel_rfl) (by kernel_rfl) (Nat.le_of_ble_eq_true rfl) ?_
  (conv => arg 2; whnf); refine wp_pcall known7_call ?_
  (conv => arg 2; whnf); refine wp_ite (fun h => by first | cases h | (simp at h; done)) (fun _ => ?_)
  (conv => arg 2; whnf); refine wp_cutR (frL [(1, .c (.int .u8 m)), (2, bV great), (7, i64V k)]) _ (.cons (.refl _) (.cons (.refl _) (.cons (Vle.i64 _ rfl wk) (.nil _)))) (List.Sublist.refl _) ?_
  (conv => arg 2; whnf); refine wp_loop (fun ms fr R => ∃ i : Nat, ms = k - i ∧ i ≤ k ∧ R = [] ∧ fr = frL [(1, .c (.int .u8 m)), (2, bV great), (7, i64V k), (8, str (plusN i)), (9, i64V i)])
    k _ _ (.cons (.refl _) (.cons (.refl _) (.cons (.refl _) (.cons (.refl _) (.cons (.refl _) (.nil _)))))) (List.Sublist.refl _) ⟨0, rfl, Nat.zero_le _, rfl, rfl⟩ ?_
  rintro ms fr R ⟨i, rfl, hi, rfl, rfl⟩
  (conv => arg 2; whnf); refine wp_ite (fun h => ?_) (fun h => ?_)
  · have h : i < k := by have := of_decide_eq_true h; omega
    (conv => arg 2; whnf); refine wp_need (by rw [S_size, plusN_length]; show 2 * i + 2 ≤ _; omega) ?_
    (conv => arg 2; whnf)
    refine wp_leaf (loop_next (k - (i + 1)) _ _ (by omega) (.cons (.refl _) (.cons (.refl _) (.cons (.refl _) (.cons (addStr (plusN i) [43, 32] rfl) (.cons (Vle.inc i rfl (by omega)) (.nil _)))))) (List.Sublist.refl _) ⟨i + 1, rfl, h, rfl, rfl⟩)
  have h : i = k := by have := of_decide_eq_false h; omega
  subst h
  (conv => arg 2; whnf)
  refine wp_leaf (loop_exit ?_)
  (conv => arg 2; whnf); refine wp_cutR (frL [(1, .c (.int .u8 m)), (2, bV great), (7, i64V i), (8, str (plusN i))]) _ (.cons (.refl _) (.cons (.refl _) (.cons (.refl _) (.cons (.refl _) (.nil _))))) (List.Sublist.refl _) ?_
  have hlen : (plusN i).length < 2 ^ 40 := by rw [plusN_length]; omega
  obtain ⟨l, e, hcut, hle⟩ : ∃ (l : List Wd) (e : Option Nat), PCall Tryd.prog 12 [str (plusN i)] (.tup [wslV l, .c (errV e)]) ∧ ((e = none ∧ i ≤ 500 ∧ l.length = i) ∨ (e = some 12 ∧ 500 < i)) := by
    rcases many_cut i hk1 hk2 with ⟨l, h1, h2, h3⟩ | ⟨h1, h2⟩
    · exact ⟨l, none, cut_ok hlen h1, .inl ⟨rfl, h2, h3⟩⟩
    · exact ⟨[], some 12, cut_err hlen h1, .inr ⟨rfl, h2⟩⟩
  (conv => arg 2; whnf); refine wp_pcall hcut ?_
  (conv => arg 2; whnf); refine wp_cutR (frL [(1, .c (.int .u8 m)), (2, bV great), (7, i64V i), (10, wslV l), (11, .c (errV e))]) _ (.cons (.refl _) (.cons (.refl _) (.cons (.refl _) (.cons (.refl _) (.cons (.refl _) (.nil _)))))) (List.Sublist.refl _) ?_
  obtain ⟨bt, hbt, hbt0⟩ : ∃ bt : UInt8, (bt = if great then 65 else 97) ∧ (bt = 97 ∨ bt = 65) := ⟨_, rfl, by cases great; exact .inl rfl; exact .inr rfl⟩
  have hcutj := let_cut bt hbt0 j hj1 hj2
  have hbt2 : ([str [97], str [65]].getD (Int.toNat (if great then 1 else 0)) .undef) = str [bt] := by rw [hbt]; cases great <;> rfl
  have hbt1 : (0 : Int) ≤ (if great then 1 else 0) ∧ (if great then (1 : Int) else 0) < 2 := by cases great <;> decide
  have hle : (e = none ∧ decide ((i : Int) ≤ 500) = true ∧ (((((l.map wdV).length : Nat) : Int) != (i : Int))) = false) ∨ (e = some 12 ∧ decide ((i : Int) ≤ 500) = false) := by
    rcases hle with ⟨h0, h1, h2⟩ | ⟨h0, h1⟩
    · exact .inl ⟨h0, decide_eq_true (by omega), by rw [List.length_map, h2]; simp⟩
    · exact .inr ⟨h0, decide_eq_false (by omega)⟩
  apply wp_joinT
  case h1 =>
    intro rest
    rcases hle with ⟨rfl, h1, h2⟩ | ⟨rfl, h1⟩
    · (conv => arg 2; whnf); refine wp_ite (fun h => by rw [h1] at h; cases h) (fun _ => ?_)
      (repeat ((conv => arg 2; whnf); first | refine wp_ite (fun _ => ?_) (fun h => Bool.noConfusion h) | refine wp_ite (fun h => Bool.noConfusion h) (fun _ => ?_)))
      (conv => arg 2; whnf); refine wp_ite (fun h => by rw [h2] at h; cases h) (fun _ => ?_)
      (repeat ((conv => arg 2; whnf); first | refine wp_ite (fun _ => ?_) (fun h => Bool.noConfusion h) | refine wp_ite (fun h => Bool.noConfusion h) (fun _ => ?_)))
      (conv => arg 2; whnf)
      exact wp_cutR (frL [(1, .c (.int .u8 m)), (2, bV great)]) [] (.cons (.refl _) (.cons (.refl _) (.nil _))) (List.Sublist.refl _) rest
    · (conv => arg 2; whnf); refine wp_ite (fun h => by rw [h1] at h; cases h) (fun _ => ?_)
      (repeat ((conv => arg 2; whnf); first | refine wp_ite (fun _ => ?_) (fun h => Bool.noConfusion h) | refine wp_ite (fun h => Bool.noConfusion h) (fun _ => ?_)))
      (conv => arg 2; whnf); refine wp_pcall (is_call (some 12) 12) ?_
      (repeat ((conv => arg 2; whnf); first | refine wp_ite (fun _ => ?_) (fun h => Bool.noConfusion h) | refine wp_ite (fun h => Bool.noConfusion h) (fun _ => ?_)))
      (conv => arg 2; whnf)
      exact wp_cutR (frL [(1, .c (.int .u8 m)), (2, bV great)]) [] (.cons (.refl _) (.cons (.refl _) (.nil _))) (List.Sublist.refl _) rest
  case rest =>
    clear hcut hle hlen
    (conv => arg 2; whnf); refine wp_cutR (frL [(2, bV great), (12, i64V j)]) [] (.cons (.refl _) (.cons (Vle.i64 _ rfl wj) (.nil _))) (List.Sublist.refl _) ?_
    (conv => arg 2; whnf); refine wp_loop (fun ms fr R => ∃ i : Nat, ms = j - i ∧ i ≤ j ∧ R = [] ∧ fr = frL [(2, bV great), (12, i64V j), (13, str (List.replicate i bt)), (14, i64V i)])
      j _ [] (.cons (.refl _) (.cons (.refl _) (.cons (.refl _) (.cons (.refl _) (.nil _))))) (List.Sublist.refl _) ⟨0, rfl, Nat.zero_le _, rfl, rfl⟩ ?_
    rintro ms fr R ⟨q, rfl, hq, rfl, rfl⟩
    (conv => arg 2; whnf); refine wp_ite (fun h => ?_) (fun h => ?_)
    · have h : q < j := by have := of_decide_eq_true h; omega
      cases great with
      | true =>
        have hb : bt = 65 := hbt
        subst hb
        (conv => arg 2; whnf); refine wp_pcall (bit_call true) ?_
        (conv => arg 2; whnf); refine wp_need ⟨by decide, by decide, Nat.le_refl _⟩ ?_
        (conv => arg 2; whnf); refine wp_need (by rw [S_size, List.length_replicate]; show q + 1 ≤ _; omega) ?_
        (conv => arg 2; whnf)
        refine wp_leaf (loop_next (j - (q + 1)) _ [] (by omega) (.cons (.refl _) (.cons (.refl _) (.cons (repStr q 65 rfl) (.cons (Vle.inc q rfl (by omega)) (.nil _))))) (List.Sublist.refl _) ⟨q + 1, rfl, h, rfl, rfl⟩)
      | false =>
        have hb : bt = 97 := hbt
        subst hb
        (conv => arg 2; whnf); refine wp_pcall (bit_call false) ?_
        (conv => arg 2; whnf); refine wp_need ⟨by decide, by decide, Nat.le_refl _⟩ ?_
        (conv => arg 2; whnf); refine wp_need (by rw [S_size, List.length_replicate]; show q + 1 ≤ _; omega) ?_
        (conv => arg 2; whnf)
        refine wp_leaf (loop_next (j - (q + 1)) _ [] (by omega) (.cons (.refl _) (.cons (.refl _) (.cons (repStr q 97 rfl) (.cons (Vle.inc q rfl (by omega)) (.nil _))))) (List.Sublist.refl _) ⟨q + 1, rfl, h, rfl, rfl⟩)
    have h : q = j := by have := of_decide_eq_false h; omega
    subst h
    (conv => arg 2; whnf)
    refine wp_leaf (loop_exit ?_)
    (conv => arg 2; whnf); refine wp_cutR (frL [(12, i64V q), (13, str (List.replicate q bt))]) [] (.cons (.refl _) (.cons (.refl _) (.nil _))) (List.Sublist.refl _) ?_
    have hlen : (List.replicate q bt).length < 2 ^ 40 := by rw [List.length_replicate]; omega
    rcases hcutj with ⟨w, h1, h2, h3⟩ | ⟨e, h1, h2⟩
    · (conv => arg 2; whnf); refine wp_pcall (cut_ok hlen h1) ?_
      (conv => arg 2; whnf); refine wp_cutR (frL [(12, i64V q), (13, str (List.replicate q bt)), (15, wslV [w]), (16, .c .nilIface)]) [] (.cons (.refl _) (.cons (.refl _) (.cons (.refl _) (.cons (.refl _) (.nil _))))) (List.Sublist.refl _) ?_
      (conv => arg 2; whnf); refine wp_ite (fun _ => ?_) (fun h => by rw [decide_eq_true (by omega : (q : Int) ≤ 8)] at h; cases h)
      (repeat ((conv => arg 2; whnf); first | refine wp_ite (fun _ => ?_) (fun h => Bool.noConfusion h) | refine wp_ite (fun h => Bool.noConfusion h) (fun _ => ?_)))
      (conv => arg 2; whnf); refine wp_elem 0 (wdV w) rfl rfl (Vle.refl _) ?_
      (conv => arg 2; whnf); refine w_retp rfl (Vle.eq (cBool ?_))
      exact (dec_str _ _).2 h3
    · (conv => arg 2; whnf); refine wp_pcall (cut_err hlen h1) ?_
      (conv => arg 2; whnf); refine wp_cutR (frL [(12, i64V q), (13, str (List.replicate q bt)), (15, wslV []), (16, .c (errV (some e)))]) [] (.cons (.refl _) (.cons (.refl _) (.cons (.refl _) (.cons (.refl _) (.nil _))))) (List.Sublist.refl _) ?_
      (conv => arg 2; whnf); refine wp_ite (fun _ => ?_) (fun h => by rw [decide_eq_false (by omega : ¬ (q : Int) ≤ 8)] at h; cases h)
      (repeat ((conv => arg 2; whnf); first | refine wp_ite (fun _ => ?_) (fun h => Bool.noConfusion h) | refine wp_ite (fun h => Bool.noConfusion h) (fun _ => ?_)))
      (conv => arg 2; whnf); refine w_retp rfl (.refl _)
end Go.Sv
