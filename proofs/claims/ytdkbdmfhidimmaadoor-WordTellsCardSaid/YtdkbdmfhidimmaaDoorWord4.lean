/- The package word: texts. -/
import Derived.Test.YtdkbdmfhidimmaaDoorWord3
import Derived.Test.YtdkbdmfhidimmaaDoorVal1
namespace Go.Sv
open Go Go.Proofs

theorem valIs_one (c : UInt8) : valIs ⟨2, 0, [c]⟩ = okCh c := by simp [valIs, isTextB]
theorem cByteAt {s : List UInt8} {i : Nat} {c : UInt8} {x : Int} (h : s[i]? = some c) (hx : x = i) {v : V} (hv : v = V.c (.int .u8 (byteAt (S s) x.toNat).toNat)) : Vle v (byteV c) := by
  subst hx
  rw [Int.toNat_natCast, byte_at h] at hv
  exact Vle.eq hv

theorem addByte {v : V} {out : List UInt8} {c : UInt8} (h : v = V.c (.string (S out ++ ⟨([byteV c].map byteOf).toArray⟩))) : Vle v (str (out ++ [c])) := by
  rw [show ([byteV c].map byteOf) = [c] from map_byteOf [c], show (⟨[c].toArray⟩ : ByteArray) = S [c] from rfl, S_append] at h
  exact Vle.eq h

set_option maxRecDepth 100000 in
set_option maxHeartbeats 1000000 in
theorem text_call (s : List UInt8) (at_ : Nat) (hat : at_ < s.length) (hs : s.length < 2 ^ 40) : PCall Tryd.prog 90 [str s, i64V at_] (nxV at_ (textN (s.drop at_))) := by
  have htn : textN (s.drop at_) = textE (textR [] (s.drop (at_ + 1))) := by rw [textN, List.drop_drop]
  rw [htn]
  refine scall_of (live := []) (ords := [(6, []), (12, []), (15, []), (17, [])]) Tryd.func90 rfl (by kernel_rfl) (by kernel_rfl) (Nat.le_of_ble_eq_true rfl) ?_
  (conv => arg 2; whnf); refine wp_allocE (wdL wd0) rfl fun b => ?_
  have w1 : IntKind.i64.wrap ((at_ : Int) + 1) = ((at_ + 1 : Nat) : Int) := wadd (by omega) (by omega) (by omega)
  (conv => arg 2; whnf); refine wp_loop (fun m fr R => ∃ (i : Nat) (out : List UInt8), m = s.length - i ∧ at_ + 1 ≤ i ∧ i ≤ s.length ∧ R = [.obj b (wdL wd0)] ∧ textR [] (s.drop (at_ + 1)) = addN (i - (at_ + 1)) (textR out (s.drop i)) ∧ out.length ≤ i ∧
      fr = frL [(0, str s), (1, i64V at_), (4, .loc b 0), (7, str out), (8, i64V i)])
    (s.length - (at_ + 1)) _ _ (.cons (.refl _) (.cons (.refl _) (.cons (.refl _) (.cons (.refl _) (.cons (Vle.i64 _ rfl w1) (.nil _)))))) (List.Sublist.refl _) ⟨at_ + 1, [], rfl, Nat.le_refl _, hat, rfl, by rw [Nat.sub_self, addN_zero], Nat.zero_le _, rfl⟩ ?_
  rintro m fr R ⟨i, out, rfl, hi1, hi, rfl, hinv, hout, rfl⟩
  have w2 : IntKind.i64.wrap ((i : Int) + 1) = ((i + 1 : Nat) : Int) := wadd (by omega) (by omega) (by omega)
  generalize textR [] (s.drop (at_ + 1)) = res at *
  (conv => arg 2; whnf); refine wp_ite (fun h => ?_) (fun h => ?_)
  · have h : i < s.length := by have := of_decide_eq_true h; rw [S_size] at this; omega
    obtain ⟨c, hc⟩ : ∃ c, s[i]? = some c := ⟨_, List.getElem?_eq_getElem h⟩
    have hd := drop_at hc
    rw [hd] at hinv
    (conv => arg 2; whnf); refine wp_need (by rw [S_size]; omega) ?_
    (conv => arg 2; whnf); refine wp_cutR (frL [(0, str s), (1, i64V at_), (4, .loc b 0), (7, str out), (8, i64V i), (9, byteV c)]) _ (.cons (.refl _) (.cons (.refl _) (.cons (.refl _) (.cons (.refl _) (.cons (.refl _) (.cons (cByteAt hc rfl rfl) (.nil _))))))) (List.Sublist.refl _) ?_
    (conv => arg 2; whnf); refine wp_ite (fun h1 => ?_) (fun h1 => ?_)
    · have h1' : c = 34 := by rw [c_int_eq c 34 34 rfl] at h1; exact of_decide_eq_true h1
      subst h1'
      rw [textR_34] at hinv
      (conv => arg 2; whnf); refine wp_ite (fun h2 => ?_) (fun h2 => ?_)
      · have h2 : 16 < out.length := by have := of_decide_eq_true h2; rw [S_size] at this; omega
        rw [if_pos h2] at hinv
        (repeat ((conv => arg 2; whnf); first | refine wp_ite (fun _ => ?_) (fun h => Bool.noConfusion h) | refine wp_ite (fun h => Bool.noConfusion h) (fun _ => ?_)))
        (conv => arg 2; whnf); refine wp_store' 0 rfl (Nat.le_of_ble_eq_true rfl) rfl ?_
        (conv => arg 2; whnf)
        refine wp_leaf (loop_ret ?_)
        (conv => arg 2; whnf); refine w_ret3cE (cs := wdL wd0) b 0 0 rfl rfl rfl rfl rfl (.refl _) (.refl _) (.refl _) (by rw [hinv]; rfl)
      · have h2 : ¬ 16 < out.length := by have := of_decide_eq_false h2; rw [S_size] at this; omega
        rw [if_neg h2] at hinv
        (repeat ((conv => arg 2; whnf); first | refine wp_ite (fun _ => ?_) (fun h => Bool.noConfusion h) | refine wp_ite (fun h => Bool.noConfusion h) (fun _ => ?_)))
        (conv => arg 2; whnf); refine wp_store' 0 rfl (Nat.le_of_ble_eq_true rfl) rfl ?_
        (conv => arg 2; whnf)
        refine wp_leaf (loop_ret ?_)
        (conv => arg 2; whnf); refine w_ret3cE (cs := wdL ((⟨3, out, 0, 1 + (i - (at_ + 1)) + 1⟩ : Nx).wd at_)) b 0 0 rfl rfl rfl rfl rfl (.refl _) (Vle.i64 _ rfl ?_) (.refl _) (by rw [hinv]; rfl)
        rw [w2, wsub (c := ((1 + (i - (at_ + 1)) + 1 : Nat) : Int)) (by omega) (by omega) (by omega)]
    · have h34 : c ≠ 34 := by rw [c_int_eq c 34 34 rfl] at h1; exact of_decide_eq_false h1
      (repeat ((conv => arg 2; whnf); first | refine wp_ite (fun _ => ?_) (fun h => Bool.noConfusion h) | refine wp_ite (fun h => Bool.noConfusion h) (fun _ => ?_)))
      (conv => arg 2; whnf); refine wp_ite (fun h2 => Bool.noConfusion (h1.symm.trans h2)) (fun _ => ?_)
      (conv => arg 2; whnf); refine wp_ite (fun h2 => ?_) (fun h2 => ?_)
      · have h2' : c = 92 := by rw [c_int_eq c 92 92 rfl] at h2; exact of_decide_eq_true h2
        subst h2'
        (conv => arg 2; whnf); refine wp_cutR (frL [(0, str s), (1, i64V at_), (4, .loc b 0), (7, str out), (8, i64V (i + 1 : Nat))]) _ (.cons (.refl _) (.cons (.refl _) (.cons (.refl _) (.cons (.refl _) (.cons (Vle.i64 _ rfl w2) (.nil _)))))) (List.Sublist.refl _) ?_
        (conv => arg 2; whnf); refine wp_ite (fun h3 => ?_) (fun h3 => ?_)
        · have h3 : i + 1 = s.length := by have := of_decide_eq_true h3; rw [S_size] at this; omega
          rw [h3, List.drop_length, textR_end] at hinv
          (repeat ((conv => arg 2; whnf); first | refine wp_ite (fun _ => ?_) (fun h => Bool.noConfusion h) | refine wp_ite (fun h => Bool.noConfusion h) (fun _ => ?_)))
          (conv => arg 2; whnf); refine wp_store' 0 rfl (Nat.le_of_ble_eq_true rfl) rfl ?_
          (conv => arg 2; whnf)
          refine wp_leaf (loop_ret ?_)
          (conv => arg 2; whnf); refine w_ret3cE (cs := wdL wd0) b 0 0 rfl rfl rfl rfl rfl (.refl _) (.refl _) (.refl _) (by rw [hinv]; rfl)
        have h3 : i + 1 < s.length := by have := of_decide_eq_false h3; rw [S_size] at this; omega
        obtain ⟨d, hdc⟩ : ∃ d, s[i + 1]? = some d := ⟨_, List.getElem?_eq_getElem h3⟩
        have hb2 : byteAt (S s) (Int.toNat ((i + 1 : Nat) : Int)) = d := byte_at hdc
        have hd2 := drop_at hdc
        rw [hd2, textR_92] at hinv
        have k34 : (((byteAt (S s) (Int.toNat ((i + 1 : Nat) : Int))).toNat : Int) != 34) = !decide (d = 34) := by rw [hb2]; exact c_int_ne d 34 34 rfl
        have k92 : (((byteAt (S s) (Int.toNat ((i + 1 : Nat) : Int))).toNat : Int) != 92) = !decide (d = 92) := by rw [hb2]; exact c_int_ne d 92 92 rfl
        have hne : (0 : Int) ≤ ((i + 1 : Nat) : Int) ∧ ((i + 1 : Nat) : Int) < (S s).size := by rw [S_size]; omega
        (conv => arg 2; whnf); refine wp_need hne ?_
        by_cases hq : d = 34 ∨ d = 92
        · rw [if_pos hq] at hinv
          have hokd : okCh d = true := by rcases hq with rfl | rfl <;> rfl
          rcases hq with hq | hq
          · (conv => arg 2; whnf); refine wp_ite (fun h4 => by rw [k34, hq] at h4; cases h4) (fun h4 => ?_)
            (repeat ((conv => arg 2; whnf); first | refine wp_ite (fun _ => ?_) (fun h => Bool.noConfusion h) | refine wp_ite (fun h => Bool.noConfusion h) (fun _ => ?_)))
            (conv => arg 2; whnf); refine wp_need hne ?_
            (conv => arg 2; whnf); refine wp_cutR (frL [(0, str s), (1, i64V at_), (4, .loc b 0), (7, str out), (8, i64V (i + 1 : Nat)), (9, byteV d)]) _ (.cons (.refl _) (.cons (.refl _) (.cons (.refl _) (.cons (.refl _) (.cons (.refl _) (.cons (cByteAt hdc rfl rfl) (.nil _))))))) (List.Sublist.refl _) ?_
            (conv => arg 2; whnf); refine wp_need (byteNeed d) ?_
            (conv => arg 2; whnf); refine wp_pcallV (.cons (Vle.agg (.cons (.refl _) (.cons (.refl _) (.cons (byteStr rfl) .nil)))) .nil) (valueis_call ⟨2, 0, [d]⟩ (Nat.le_of_ble_eq_true rfl)) ?_
            rw [addN_addN] at hinv
            (conv => arg 2; whnf); refine wp_ite (fun h => by rw [valIs_one, hokd] at h; cases h) (fun _ => ?_)
            (conv => arg 2; whnf); refine wp_cutR (frL [(0, str s), (1, i64V at_), (4, .loc b 0), (7, str out), (8, i64V (i + 1 : Nat)), (9, byteV d)]) _ (.cons (.refl _) (.cons (.refl _) (.cons (.refl _) (.cons (.refl _) (.cons (.refl _) (.cons (.refl _) (.nil _))))))) (List.Sublist.refl _) ?_
            (conv => arg 2; whnf); refine wp_need (byteNeed d) ?_
            (conv => arg 2; whnf); refine wp_need (by rw [S_size]; show out.length + 1 ≤ _; omega) ?_
            (conv => arg 2; whnf)
            refine wp_leaf (loop_next (s.length - (i + 1 + 1)) _ [.obj b (wdL wd0)] (by omega) (.cons (.refl _) (.cons (.refl _) (.cons (.refl _) (.cons (addByte rfl) (.cons (Vle.inc (i + 1) rfl (by omega)) (.nil _)))))) (List.Sublist.refl _) ⟨i + 1 + 1, out ++ [d], rfl, by omega, by omega, rfl, ?_, by simp; omega, rfl⟩)
            · rw [hinv]
              congr 1; omega
          · (conv => arg 2; whnf); refine wp_ite (fun h4 => ?_) (fun h4 => by rw [k34, hq] at h4; cases h4)
            (conv => arg 2; whnf); refine wp_need hne ?_
            (conv => arg 2; whnf); refine wp_ite (fun h4 => by rw [k92, hq] at h4; cases h4) (fun h4 => ?_)
            (repeat ((conv => arg 2; whnf); first | refine wp_ite (fun _ => ?_) (fun h => Bool.noConfusion h) | refine wp_ite (fun h => Bool.noConfusion h) (fun _ => ?_)))
            (conv => arg 2; whnf); refine wp_need hne ?_
            (conv => arg 2; whnf); refine wp_cutR (frL [(0, str s), (1, i64V at_), (4, .loc b 0), (7, str out), (8, i64V (i + 1 : Nat)), (9, byteV d)]) _ (.cons (.refl _) (.cons (.refl _) (.cons (.refl _) (.cons (.refl _) (.cons (.refl _) (.cons (cByteAt hdc rfl rfl) (.nil _))))))) (List.Sublist.refl _) ?_
            (conv => arg 2; whnf); refine wp_need (byteNeed d) ?_
            (conv => arg 2; whnf); refine wp_pcallV (.cons (Vle.agg (.cons (.refl _) (.cons (.refl _) (.cons (byteStr rfl) .nil)))) .nil) (valueis_call ⟨2, 0, [d]⟩ (Nat.le_of_ble_eq_true rfl)) ?_
            rw [addN_addN] at hinv
            (conv => arg 2; whnf); refine wp_ite (fun h => by rw [valIs_one, hokd] at h; cases h) (fun _ => ?_)
            (conv => arg 2; whnf); refine wp_cutR (frL [(0, str s), (1, i64V at_), (4, .loc b 0), (7, str out), (8, i64V (i + 1 : Nat)), (9, byteV d)]) _ (.cons (.refl _) (.cons (.refl _) (.cons (.refl _) (.cons (.refl _) (.cons (.refl _) (.cons (.refl _) (.nil _))))))) (List.Sublist.refl _) ?_
            (conv => arg 2; whnf); refine wp_need (byteNeed d) ?_
            (conv => arg 2; whnf); refine wp_need (by rw [S_size]; show out.length + 1 ≤ _; omega) ?_
            (conv => arg 2; whnf)
            refine wp_leaf (loop_next (s.length - (i + 1 + 1)) _ [.obj b (wdL wd0)] (by omega) (.cons (.refl _) (.cons (.refl _) (.cons (.refl _) (.cons (addByte rfl) (.cons (Vle.inc (i + 1) rfl (by omega)) (.nil _)))))) (List.Sublist.refl _) ⟨i + 1 + 1, out ++ [d], rfl, by omega, by omega, rfl, ?_, by simp; omega, rfl⟩)
            · rw [hinv]
              congr 1; omega
        · rw [if_neg hq] at hinv
          (conv => arg 2; whnf); refine wp_ite (fun h4 => ?_) (fun h4 => ?_)
          · (conv => arg 2; whnf); refine wp_need hne ?_
            (conv => arg 2; whnf); refine wp_ite (fun h5 => ?_) (fun h5 => ?_)
            · (conv => arg 2; whnf); refine wp_store' 0 rfl (Nat.le_of_ble_eq_true rfl) rfl ?_
              (conv => arg 2; whnf)
              refine wp_leaf (loop_ret ?_)
              (conv => arg 2; whnf); refine w_ret3cE (cs := wdL wd0) b 0 0 rfl rfl rfl rfl rfl (.refl _) (.refl _) (.refl _) (by rw [hinv]; rfl)
            · exfalso
              rw [k92] at h5
              simp at h5
              exact hq (.inr h5)
          · exfalso
            rw [k34] at h4
            simp at h4
            exact hq (.inl h4)
      · have h92 : c ≠ 92 := by rw [c_int_eq c 92 92 rfl] at h2; exact of_decide_eq_false h2
        rw [textR_c _ _ h34 h92] at hinv
        (conv => arg 2; whnf); refine wp_cutR (frL [(0, str s), (1, i64V at_), (4, .loc b 0), (7, str out), (8, i64V i), (9, byteV c)]) _ (.cons (.refl _) (.cons (.refl _) (.cons (.refl _) (.cons (.refl _) (.cons (.refl _) (.cons (.refl _) (.nil _))))))) (List.Sublist.refl _) ?_
        (conv => arg 2; whnf); refine wp_need (byteNeed c) ?_
        (conv => arg 2; whnf); refine wp_pcallV (.cons (Vle.agg (.cons (.refl _) (.cons (.refl _) (.cons (byteStr rfl) .nil)))) .nil) (valueis_call ⟨2, 0, [c]⟩ (Nat.le_of_ble_eq_true rfl)) ?_
        cases hok : okCh c with
        | false =>
          rw [if_neg (okCh_false hok)] at hinv
          (conv => arg 2; whnf); refine wp_ite (fun _ => ?_) (fun h => by rw [valIs_one, hok] at h; cases h)
          (conv => arg 2; whnf); refine wp_store' 0 rfl (Nat.le_of_ble_eq_true rfl) rfl ?_
          (conv => arg 2; whnf)
          refine wp_leaf (loop_ret ?_)
          (conv => arg 2; whnf); refine w_ret3cE (cs := wdL wd0) b 0 0 rfl rfl rfl rfl rfl (.refl _) (.refl _) (.refl _) (by rw [hinv]; rfl)
        | true =>
          have hok' : 32 ≤ c.toNat ∧ c.toNat ≤ 126 := by simpa [okCh] using hok
          rw [if_pos hok', addN_addN] at hinv
          (conv => arg 2; whnf); refine wp_ite (fun h => by rw [valIs_one, hok] at h; cases h) (fun _ => ?_)
          (conv => arg 2; whnf); refine wp_cutR (frL [(0, str s), (1, i64V at_), (4, .loc b 0), (7, str out), (8, i64V i), (9, byteV c)]) _ (.cons (.refl _) (.cons (.refl _) (.cons (.refl _) (.cons (.refl _) (.cons (.refl _) (.cons (.refl _) (.nil _))))))) (List.Sublist.refl _) ?_
          (conv => arg 2; whnf); refine wp_need (byteNeed c) ?_
          (conv => arg 2; whnf); refine wp_need (by rw [S_size]; show out.length + 1 ≤ _; omega) ?_
          (conv => arg 2; whnf)
          refine wp_leaf (loop_next (s.length - (i + 1)) _ [.obj b (wdL wd0)] (by omega) (.cons (.refl _) (.cons (.refl _) (.cons (.refl _) (.cons (addByte rfl) (.cons (Vle.inc (i) rfl (by omega)) (.nil _)))))) (List.Sublist.refl _) ⟨i + 1, out ++ [c], rfl, by omega, by omega, rfl, ?_, by simp; omega, rfl⟩)
          · rw [hinv]
            congr 1; omega
  · have h : i = s.length := by have := of_decide_eq_false h; rw [S_size] at this; omega
    rw [h, List.drop_length, textR.eq_def] at hinv
    (conv => arg 2; whnf)
    refine wp_leaf (loop_exit ?_)
    (conv => arg 2; whnf); refine wp_store' 0 rfl (Nat.le_of_ble_eq_true rfl) rfl ?_
    (conv => arg 2; whnf); refine w_ret3cE (cs := wdL wd0) b 0 0 rfl rfl rfl rfl rfl (.refl _) (.refl _) (.refl _) (by rw [hinv]; rfl)
end Go.Sv
