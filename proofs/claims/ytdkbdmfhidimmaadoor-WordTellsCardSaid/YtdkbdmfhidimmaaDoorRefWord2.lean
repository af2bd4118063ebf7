/- The reference's words: texts. -/
import Derived.Test.YtdkbdmfhidimmaaDoorRefWord1
namespace Go.Sv
open Go Go.Proofs

theorem sliceOne {s : List UInt8} {i : Nat} {c : UInt8} (h : s[i]? = some c) {x y : Int} (hx : x = i) (hy : y = (i + 1 : Nat)) : (S s).extract x.toNat y.toNat = S [c] := by
  subst hx; subst hy
  rw [S_extract, Int.toNat_natCast, Int.toNat_natCast, List.take_add_one, h]
  have hi := (List.getElem?_eq_some_iff.1 h).1
  rw [List.drop_append_of_le_length (by rw [List.length_take]; omega), List.drop_eq_nil_of_le (by rw [List.length_take]; omega)]; rfl
theorem addOne {v : V} {s out : List UInt8} {i : Nat} {c : UInt8} (h : s[i]? = some c) {x y : Int} (hx : x = i) (hy : y = (i + 1 : Nat)) (hv : v = V.c (.string (S out ++ (S s).extract x.toNat y.toNat))) : Vle v (str (out ++ [c])) := by
  rw [sliceOne h hx hy, S_append] at hv
  exact Vle.eq hv

set_option maxRecDepth 100000 in
set_option maxHeartbeats 1000000 in
theorem rtext_call (s : List UInt8) (at_ : Nat) (hat : at_ < s.length) (hs : s.length < 2 ^ 40) : PCall Tryd.prog 80 [str s, i64V at_] (rnxV (textN (s.drop at_))) := by
  have htn : textN (s.drop at_) = textE (textR [] (s.drop (at_ + 1))) := by rw [textN, List.drop_drop]
  rw [htn]
  refine scall_of (live := []) (ords := [(5, []), (7, []), (9, []), (12, [])]) Tryd.func80 rfl (by kernel_rfl) (by kernel_rfl) (Nat.le_of_ble_eq_true rfl) ?_
  (conv => arg 2; whnf); refine wp_allocE (wdL wd0) rfl fun b => ?_
  have w1 : IntKind.i64.wrap ((at_ : Int) + 1) = ((at_ + 1 : Nat) : Int) := wadd (by omega) (by omega) (by omega)
  (conv => arg 2; whnf); refine wp_loop (fun m fr R => ∃ (i : Nat) (out : List UInt8), m = s.length - i ∧ at_ + 1 ≤ i ∧ i ≤ s.length ∧ R = [.obj b (wdL wd0)] ∧ textR [] (s.drop (at_ + 1)) = addN (i - (at_ + 1)) (textR out (s.drop i)) ∧ out.length ≤ i ∧
      fr = frL [(0, str s), (1, i64V at_), (4, .loc b 0), (7, str out), (8, i64V i)])
    (s.length - (at_ + 1)) _ _ (.cons (.refl _) (.cons (.refl _) (.cons (.refl _) (.cons (.refl _) (.cons (Vle.i64 _ rfl w1) (.nil _)))))) (List.Sublist.refl _) ⟨at_ + 1, [], rfl, Nat.le_refl _, hat, rfl, by rw [Nat.sub_self, addN_zero], Nat.zero_le _, rfl⟩ ?_
  rintro m fr R ⟨i, out, rfl, hi1, hi, rfl, hinv, hout, rfl⟩
  have w2 : IntKind.i64.wrap ((i : Int) + 1) = ((i + 1 : Nat) : Int) := wadd (by omega) (by omega) (by omega)
  generalize textR [] (s.drop (at_ + 1)) = res at *
  have w4 : IntKind.i64.wrap (IntKind.i64.wrap ((i : Int) + 1) - at_) = ((i + 1 - at_ : Nat) : Int) := by rw [w2]; exact wsub (by omega) (by omega) (by omega)
  (conv => arg 2; whnf); refine wp_ite (fun h => ?_) (fun h => ?_)
  · have h : i < s.length := by have := of_decide_eq_true h; rw [S_size] at this; omega
    obtain ⟨c, hc⟩ : ∃ c, s[i]? = some c := ⟨_, List.getElem?_eq_getElem h⟩
    have hd := drop_at hc
    rw [hd] at hinv
    have hb : byteAt (S s) (Int.toNat (i : Int)) = c := byte_at hc
    have hne : (0 : Int) ≤ (i : Int) ∧ (i : Int) < (S s).size := by rw [S_size]; omega
    have k34 : (((byteAt (S s) (Int.toNat (i : Int))).toNat : Int) != 34) = !decide (c = 34) := by rw [hb]; exact c_int_ne c 34 34 rfl
    have k92 : (((byteAt (S s) (Int.toNat (i : Int))).toNat : Int) == 92) = decide (c = 92) := by rw [hb]; exact c_int_eq c 92 92 rfl
    have klt : decide (((byteAt (S s) (Int.toNat (i : Int))).toNat : Int) < 32) = decide (c.toNat < 32) := by rw [hb]; exact decide_eq_decide.2 (by omega)
    have kgt : decide (((byteAt (S s) (Int.toNat (i : Int))).toNat : Int) > 126) = decide (126 < c.toNat) := by rw [hb]; exact decide_eq_decide.2 (by omega)
    (conv => arg 2; whnf); refine wp_need hne ?_
    (conv => arg 2; whnf); refine wp_ite (fun h1 => ?_) (fun h1 => ?_)
    · have h34 : c ≠ 34 := by rw [k34] at h1; simpa using h1
      (conv => arg 2; whnf); refine wp_cutR (frL [(0, str s), (1, i64V at_), (4, .loc b 0), (7, str out), (8, i64V i)]) _ (.cons (.refl _) (.cons (.refl _) (.cons (.refl _) (.cons (.refl _) (.cons (.refl _) (.nil _)))))) (List.Sublist.refl _) ?_
      (conv => arg 2; whnf); refine wp_need hne ?_
      (conv => arg 2; whnf); refine wp_ite (fun h2 => ?_) (fun h2 => ?_)
      · have h2' : c = 92 := by rw [k92] at h2; exact of_decide_eq_true h2
        subst h2'
        (conv => arg 2; whnf); refine wp_cutR (frL [(0, str s), (1, i64V at_), (4, .loc b 0), (7, str out), (8, i64V (i + 1 : Nat))]) _ (.cons (.refl _) (.cons (.refl _) (.cons (.refl _) (.cons (.refl _) (.cons (Vle.i64 _ rfl w2) (.nil _)))))) (List.Sublist.refl _) ?_
        (conv => arg 2; whnf); refine wp_ite (fun h3 => ?_) (fun h3 => ?_)
        · have h3 : i + 1 = s.length := by have := of_decide_eq_true h3; rw [S_size] at this; omega
          rw [h3, List.drop_length, textR_end] at hinv
          (repeat ((conv => arg 2; whnf); first | refine wp_ite (fun _ => ?_) (fun h => Bool.noConfusion h) | refine wp_ite (fun h => Bool.noConfusion h) (fun _ => ?_)))
          (conv => arg 2; whnf); refine wp_store' 0 rfl (Nat.le_of_ble_eq_true rfl) rfl ?_
          (conv => arg 2; whnf)
          refine wp_leaf (loop_ret ?_)
          (conv => arg 2; whnf); refine w_ret3cE (cs := wdL wd0) b 0 0 rfl rfl rfl rfl rfl (.refl _) (.refl _) (.refl _) (by rw [hinv]; rfl)
        have h3 : i + 1 < s.length := by have := of_decide_eq_false h3; rw [S_size] at this; omega
        obtain ⟨d, hdc⟩ : ∃ d, s[i + 1]? = some d := ⟨_, List.getElem?_eq_getElem h3⟩
        have hb2 : byteAt (S s) (Int.toNat ((i + 1 : Nat) : Int)) = d := byte_at hdc
        have hd2 := drop_at hdc
        rw [hd2, textR_92] at hinv
        have k34 : (((byteAt (S s) (Int.toNat ((i + 1 : Nat) : Int))).toNat : Int) != 34) = !decide (d = 34) := by rw [hb2]; exact c_int_ne d 34 34 rfl
        have k92 : (((byteAt (S s) (Int.toNat ((i + 1 : Nat) : Int))).toNat : Int) != 92) = !decide (d = 92) := by rw [hb2]; exact c_int_ne d 92 92 rfl
        have klt : decide (((byteAt (S s) (Int.toNat ((i + 1 : Nat) : Int))).toNat : Int) < 32) = decide (d.toNat < 32) := by rw [hb2]; exact decide_eq_decide.2 (by omega)
        have kgt : decide (((byteAt (S s) (Int.toNat ((i + 1 : Nat) : Int))).toNat : Int) > 126) = decide (126 < d.toNat) := by rw [hb2]; exact decide_eq_decide.2 (by omega)
        have hne : (0 : Int) ≤ ((i + 1 : Nat) : Int) ∧ ((i + 1 : Nat) : Int) < (S s).size := by rw [S_size]; omega
        have w5 : IntKind.i64.wrap (((i + 1 : Nat) : Int) + 1) = ((i + 1 + 1 : Nat) : Int) := wadd (by omega) (by omega) (by omega)
        (conv => arg 2; whnf); refine wp_need hne ?_
        by_cases hq : d = 34 ∨ d = 92
        · rw [if_pos hq] at hinv
          have hokd : 32 ≤ d.toNat ∧ d.toNat ≤ 126 := by rcases hq with rfl | rfl <;> decide
          apply wp_joinT
          case h1 =>
            intro rest
            rcases hq with hq | hq
            · (conv => arg 2; whnf); refine wp_ite (fun h4 => by rw [k34, hq] at h4; cases h4) (fun h4 => ?_)
              (repeat ((conv => arg 2; whnf); first | refine wp_ite (fun _ => ?_) (fun h => Bool.noConfusion h) | refine wp_ite (fun h => Bool.noConfusion h) (fun _ => ?_)))
              (conv => arg 2; whnf)
              exact wp_cutR (frL [(0, str s), (1, i64V at_), (4, .loc b 0), (7, str out), (8, i64V (i + 1 : Nat))]) [.obj b (wdL wd0)] (.cons (.refl _) (.cons (.refl _) (.cons (.refl _) (.cons (.refl _) (.cons (.refl _) (.nil _)))))) (List.Sublist.refl _) rest
            · (conv => arg 2; whnf); refine wp_ite (fun h4 => ?_) (fun h4 => by rw [k34, hq] at h4; cases h4)
              (conv => arg 2; whnf); refine wp_need hne ?_
              (conv => arg 2; whnf); refine wp_ite (fun h4 => by rw [k92, hq] at h4; cases h4) (fun h4 => ?_)
              (repeat ((conv => arg 2; whnf); first | refine wp_ite (fun _ => ?_) (fun h => Bool.noConfusion h) | refine wp_ite (fun h => Bool.noConfusion h) (fun _ => ?_)))
              (conv => arg 2; whnf)
              exact wp_cutR (frL [(0, str s), (1, i64V at_), (4, .loc b 0), (7, str out), (8, i64V (i + 1 : Nat))]) [.obj b (wdL wd0)] (.cons (.refl _) (.cons (.refl _) (.cons (.refl _) (.cons (.refl _) (.cons (.refl _) (.nil _)))))) (List.Sublist.refl _) rest
          case rest =>
            rw [addN_addN] at hinv
            (conv => arg 2; whnf); refine wp_need hne ?_
            (conv => arg 2; whnf); refine wp_ite (fun h5 => by rw [klt] at h5; have := of_decide_eq_true h5; omega) (fun _ => ?_)
            (conv => arg 2; whnf); refine wp_need hne ?_
            (conv => arg 2; whnf); refine wp_ite (fun h5 => by rw [kgt] at h5; have := of_decide_eq_true h5; omega) (fun _ => ?_)
            (conv => arg 2; whnf); refine wp_need (by rw [w5, S_size]; omega) ?_
            (conv => arg 2; whnf); refine wp_need (by rw [sliceOne hdc rfl w5, S_size, S_size]; show _ + 1 ≤ _; omega) ?_
            (conv => arg 2; whnf)
            refine wp_leaf (loop_next (s.length - (i + 1 + 1)) _ [.obj b (wdL wd0)] (by omega) (.cons (.refl _) (.cons (.refl _) (.cons (.refl _) (.cons (addOne hdc rfl w5 rfl) (.cons (Vle.inc (i + 1) rfl (by omega)) (.nil _)))))) (List.Sublist.refl _) ⟨i + 1 + 1, out ++ [d], rfl, by omega, by omega, rfl, ?_, by simp; omega, rfl⟩)
            rw [hinv]; congr 1; omega
        · rw [if_neg hq] at hinv
          (conv => arg 2; whnf); refine wp_ite (fun h4 => ?_) (fun h4 => ?_)
          · (conv => arg 2; whnf); refine wp_need hne ?_
            (conv => arg 2; whnf); refine wp_ite (fun h5 => ?_) (fun h5 => ?_)
            · (conv => arg 2; whnf); refine wp_store' 0 rfl (Nat.le_of_ble_eq_true rfl) rfl ?_
              (conv => arg 2; whnf)
              refine wp_leaf (loop_ret ?_)
              (conv => arg 2; whnf); refine w_ret3cE (cs := wdL wd0) b 0 0 rfl rfl rfl rfl rfl (.refl _) (.refl _) (.refl _) (by rw [hinv]; rfl)
            · exfalso
              rw [k92] at h5
              simp at h5
              exact hq (.inr h5)
          · exfalso
            rw [k34] at h4
            simp at h4
            exact hq (.inl h4)
      · have h92 : c ≠ 92 := by rw [k92] at h2; exact of_decide_eq_false h2
        rw [textR_c _ _ h34 h92] at hinv
        (conv => arg 2; whnf); refine wp_cutR (frL [(0, str s), (1, i64V at_), (4, .loc b 0), (7, str out), (8, i64V i)]) _ (.cons (.refl _) (.cons (.refl _) (.cons (.refl _) (.cons (.refl _) (.cons (.refl _) (.nil _)))))) (List.Sublist.refl _) ?_
        (conv => arg 2; whnf); refine wp_need hne ?_
        (conv => arg 2; whnf); refine wp_ite (fun h5 => ?_) (fun h5 => ?_)
        · rw [klt] at h5
          rw [if_neg (by have := of_decide_eq_true h5; omega)] at hinv
          (repeat ((conv => arg 2; whnf); first | refine wp_ite (fun _ => ?_) (fun h => Bool.noConfusion h) | refine wp_ite (fun h => Bool.noConfusion h) (fun _ => ?_)))
          (conv => arg 2; whnf); refine wp_store' 0 rfl (Nat.le_of_ble_eq_true rfl) rfl ?_
          (conv => arg 2; whnf)
          refine wp_leaf (loop_ret ?_)
          (conv => arg 2; whnf); refine w_ret3cE (cs := wdL wd0) b 0 0 rfl rfl rfl rfl rfl (.refl _) (.refl _) (.refl _) (by rw [hinv]; rfl)
        · rw [klt] at h5
          (conv => arg 2; whnf); refine wp_need hne ?_
          (conv => arg 2; whnf); refine wp_ite (fun h6 => ?_) (fun h6 => ?_)
          · rw [kgt] at h6
            rw [if_neg (by have := of_decide_eq_true h6; omega)] at hinv
            (repeat ((conv => arg 2; whnf); first | refine wp_ite (fun _ => ?_) (fun h => Bool.noConfusion h) | refine wp_ite (fun h => Bool.noConfusion h) (fun _ => ?_)))
            (conv => arg 2; whnf); refine wp_store' 0 rfl (Nat.le_of_ble_eq_true rfl) rfl ?_
            (conv => arg 2; whnf)
            refine wp_leaf (loop_ret ?_)
            (conv => arg 2; whnf); refine w_ret3cE (cs := wdL wd0) b 0 0 rfl rfl rfl rfl rfl (.refl _) (.refl _) (.refl _) (by rw [hinv]; rfl)
          · rw [kgt] at h6
            rw [if_pos (by have := of_decide_eq_false h5; have := of_decide_eq_false h6; omega), addN_addN] at hinv
            (conv => arg 2; whnf); refine wp_need (by rw [w2, S_size]; omega) ?_
            (conv => arg 2; whnf); refine wp_need (by rw [sliceOne hc rfl w2, S_size, S_size]; show _ + 1 ≤ _; omega) ?_
            (conv => arg 2; whnf)
            refine wp_leaf (loop_next (s.length - (i + 1)) _ [.obj b (wdL wd0)] (by omega) (.cons (.refl _) (.cons (.refl _) (.cons (.refl _) (.cons (addOne hc rfl w2 rfl) (.cons (Vle.inc i rfl (by omega)) (.nil _)))))) (List.Sublist.refl _) ⟨i + 1, out ++ [c], rfl, by omega, by omega, rfl, ?_, by simp; omega, rfl⟩)
            rw [hinv]; congr 1; omega
    · have h34 : c = 34 := by rw [k34] at h1; simpa using h1
      subst h34
      rw [textR_34] at hinv
      (conv => arg 2; whnf)
      refine wp_leaf (loop_exit ?_)
      (conv => arg 2; whnf); refine wp_cutR (frL [(0, str s), (1, i64V at_), (4, .loc b 0), (7, str out), (8, i64V i)]) _ (.cons (.refl _) (.cons (.refl _) (.cons (.refl _) (.cons (.refl _) (.cons (.refl _) (.nil _)))))) (List.Sublist.refl _) ?_
      (conv => arg 2; whnf); refine wp_ite (fun h5 => by have := of_decide_eq_true h5; rw [S_size] at this; omega) (fun _ => ?_)
      (conv => arg 2; whnf); refine wp_ite (fun h5 => ?_) (fun h5 => ?_)
      · rw [if_pos (by have := of_decide_eq_true h5; rw [S_size] at this; omega)] at hinv
        (conv => arg 2; whnf); refine wp_store' 0 rfl (Nat.le_of_ble_eq_true rfl) rfl ?_
        (conv => arg 2; whnf); refine w_ret3cE (cs := wdL wd0) b 0 0 rfl rfl rfl rfl rfl (.refl _) (.refl _) (.refl _) (by rw [hinv]; rfl)
      · rw [if_neg (by have := of_decide_eq_false h5; rw [S_size] at this; omega)] at hinv
        (conv => arg 2; whnf); refine wp_store' 0 rfl (Nat.le_of_ble_eq_true rfl) rfl ?_
        (conv => arg 2; whnf); refine w_ret3cE (cs := wdL ((⟨3, out, 0, i + 1 - at_⟩ : Nx).wd 0)) b 0 0 rfl rfl rfl rfl rfl (.refl _) (Vle.i64 _ rfl w4) (.refl _) ?_
        rw [hinv, show i + 1 - at_ = 1 + (i - (at_ + 1)) + 1 by omega]; rfl
  · have h : i = s.length := by have := of_decide_eq_false h; rw [S_size] at this; omega
    rw [h, List.drop_length, textR.eq_def] at hinv
    (repeat ((conv => arg 2; whnf); first | refine wp_ite (fun _ => ?_) (fun h => Bool.noConfusion h) | refine wp_ite (fun h => Bool.noConfusion h) (fun _ => ?_)))
    (conv => arg 2; whnf)
    refine wp_leaf (loop_exit ?_)
    (conv => arg 2; whnf); refine wp_cutR (frL [(0, str s), (4, .loc b 0), (8, i64V i)]) _ (.cons (.refl _) (.cons (.refl _) (.cons (.refl _) (.nil _)))) (List.Sublist.refl _) ?_
    (conv => arg 2; whnf); refine wp_ite (fun _ => ?_) (fun h5 => by have := of_decide_eq_false h5; rw [S_size] at this; omega)
    (conv => arg 2; whnf); refine wp_store' 0 rfl (Nat.le_of_ble_eq_true rfl) rfl ?_
    (conv => arg 2; whnf); refine w_ret3cE (cs := wdL wd0) b 0 0 rfl rfl rfl rfl rfl (.refl _) (.refl _) (.refl _) (by rw [hinv]; rfl)
end Go.Sv
