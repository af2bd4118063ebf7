/- pasternlaw7.WordSigns. -/
import Derived.Test.YtdkbdmfhidimmaaDoorKnown7
import Derived.Test.YtdkbdmfhidimmaaDoorWSigns0
namespace Go.Sv
open Go Go.Proofs

theorem isWd_iff (b : UInt8) : isWd b = true ↔ (b.toNat = 32 ∨ (48 ≤ b.toNat ∧ b.toNat ≤ 57) ∨ (97 ≤ b.toNat ∧ b.toNat ≤ 122) ∨ (65 ≤ b.toNat ∧ b.toNat ≤ 90)) := by
  have e : b = 32 ↔ b.toNat = 32 := by rw [← UInt8.toNat_inj]; rfl
  simp only [isWd, isDg, isSm, isGr, Bool.or_eq_true, Bool.and_eq_true, decide_eq_true_eq, e, or_assoc]
theorem wAt_get {l : List Wd} {i : Nat} (h : i < l.length) : (l.map wdV)[i]? = some (wdV (wAt l i)) := by
  rw [List.getElem?_map, List.getElem?_eq_getElem h, wAt, List.getD_eq_getElem?_getD, List.getElem?_eq_getElem h]; rfl

set_option maxRecDepth 100000 in
set_option maxHeartbeats 1000000 in
theorem wsigns_law (b : UInt8) : PCall Tryd.prog 6 [byteV b] (bV true) := by
  have hs := sign_cut b
  have hlen : (sgnText b).length < 2 ^ 40 := Nat.le_of_ble_eq_true rfl
  obtain ⟨l, e, hcut, hle⟩ : ∃ (l : List Wd) (e : Option Nat), PCall Tryd.prog 12 [str (sgnText b)] (.tup [wslV l, .c (errV e)]) ∧
      ((e = none ∧ (b = 33 ∨ b = 60) ∧ l.length = 3 ∧ (wAt l 1).text = [b, 61]) ∨
       (e = none ∧ ¬ (b = 33 ∨ b = 60) ∧ isSg b = true ∧ l.length = 4 ∧ (wAt l 1).text = [b] ∧ (wAt l 2).text = [61] ∧ (wAt l 1).kind = 5) ∨
       (e = none ∧ ¬ (b = 33 ∨ b = 60) ∧ isSg b = false ∧ isWd b = true ∧ (l.length = 4 ↔ b ≠ 32)) ∨
       (e = some 21 ∧ l = [] ∧ ¬ (b = 33 ∨ b = 60) ∧ isSg b = false ∧ isWd b = false)) := by
    rcases hs with ⟨l, h, h1⟩ | ⟨l, h, h1⟩ | ⟨l, h, h1⟩ | ⟨h, h1⟩
    · exact ⟨l, none, cut_ok hlen h, .inl ⟨rfl, h1⟩⟩
    · exact ⟨l, none, cut_ok hlen h, .inr (.inl ⟨rfl, h1⟩)⟩
    · exact ⟨l, none, cut_ok hlen h, .inr (.inr (.inl ⟨rfl, h1⟩))⟩
    · exact ⟨[], some 21, cut_err hlen h, .inr (.inr (.inr ⟨rfl, rfl, h1⟩))⟩
  refine scall_of (live := []) (ords := [(4, []), (5, []), (11, []), (12, []), (13, []), (14, []), (15, []), (16, []), (17, [])]) Tryd.func6 rfl (by kernel_rfl) (by kernel_rfl) (Nat.le_of_ble_eq_true rfl) ?_
  (conv => arg 2; whnf); refine wp_pcall known7_call ?_
  (conv => arg 2; whnf); refine wp_ite (fun h => by first | cases h | (simp at h; done)) (fun _ => ?_)
  (conv => arg 2; whnf); refine wp_need (byteNeed b) ?_
  (conv => arg 2; whnf); refine wp_cutR (frL [(0, byteV b), (3, str [b])]) [] (.cons (.refl _) (.cons (byteStr rfl) (.nil _))) (List.Sublist.refl _) ?_
  (conv => arg 2; whnf); refine wp_need (Nat.le_of_ble_eq_true rfl) ?_
  (conv => arg 2; whnf); refine wp_need (Nat.le_of_ble_eq_true rfl) ?_
  (conv => arg 2; whnf); refine wp_pcallV (.cons (Vle.of _ rfl (cStr ?_)) .nil) hcut ?_
  · show (S [97, 32] ++ S [b]) ++ S [61, 32, 98] = _
    rw [S_append, S_append]; rfl
  (conv => arg 2; whnf); refine wp_cutR (frL [(0, byteV b), (3, str [b]), (4, wslV l), (5, .c (errV e))]) [] (.cons (.refl _) (.cons (.refl _) (.cons (.refl _) (.cons (.refl _) (.nil _))))) (List.Sublist.refl _) ?_
  (conv => arg 2; whnf); refine wp_loop (fun m fr R => ∃ i : Nat, m = 14 - i ∧ i ≤ 14 ∧ R = [] ∧ fr = frL [(0, byteV b), (3, str [b]), (4, wslV l), (5, .c (errV e)), (6, str signsL), (7, bV ((signsL.take i).any fun c => decide (c = b))), (8, i64V i)])
    14 _ _ (.cons (.refl _) (.cons (.refl _) (.cons (.refl _) (.cons (.refl _) (.cons (.refl _) (.cons (.refl _) (.cons (.refl _) (.nil _)))))))) (List.Sublist.refl _) ⟨0, rfl, Nat.zero_le _, rfl, rfl⟩ ?_
  rintro m fr R ⟨i, rfl, hi, rfl, rfl⟩
  have hsl : signsL.length = 14 := rfl
  (conv => arg 2; whnf); refine wp_ite (fun h => ?_) (fun h => ?_)
  · have h : i < 14 := by have := of_decide_eq_true h; rw [S_size, hsl] at this; omega
    obtain ⟨c, hc⟩ : ∃ c, signsL[i]? = some c := ⟨_, List.getElem?_eq_getElem (by rw [hsl]; exact h)⟩
    have htk : ((signsL.take (i + 1)).any fun c => decide (c = b)) = (((signsL.take i).any fun c => decide (c = b)) || decide (c = b)) := by
      rw [List.take_add_one, hc, List.any_append]; simp
    obtain ⟨g, hg⟩ : ∃ g, g = (signsL.take i).any fun c => decide (c = b) := ⟨_, rfl⟩
    rw [← hg] at htk ⊢
    cases g with
    | true =>
      rw [Bool.true_or] at htk
      (repeat ((conv => arg 2; whnf); first | refine wp_ite (fun _ => ?_) (fun h => Bool.noConfusion h) | refine wp_ite (fun h => Bool.noConfusion h) (fun _ => ?_)))
      (conv => arg 2; whnf)
      exact wp_leaf (loop_next (14 - (i + 1)) _ [] (by omega) (.cons (.refl _) (.cons (.refl _) (.cons (.refl _) (.cons (.refl _) (.cons (.refl _) (.cons (Vle.of (bV true) rfl (congrArg bV htk.symm)) (.cons (Vle.inc i rfl (by omega)) (.nil _)))))))) (List.Sublist.refl _) ⟨i + 1, rfl, h, rfl, rfl⟩)
    | false =>
      rw [Bool.false_or] at htk
      have kq : (((byteAt (S signsL) (Int.toNat (i : Int))).toNat : Int) == (b.toNat : Int)) = decide (c = b) := by rw [Int.toNat_natCast, byte_at hc]; exact c_int_eq c b _ rfl
      (repeat ((conv => arg 2; whnf); first | refine wp_ite (fun _ => ?_) (fun h => Bool.noConfusion h) | refine wp_ite (fun h => Bool.noConfusion h) (fun _ => ?_)))
      (conv => arg 2; whnf); refine wp_need (by rw [S_size, hsl]; omega) ?_
      (conv => arg 2; whnf)
      exact wp_leaf (loop_next (14 - (i + 1)) _ [] (by omega) (.cons (.refl _) (.cons (.refl _) (.cons (.refl _) (.cons (.refl _) (.cons (.refl _) (.cons (Vle.of (V.c (.bool (((byteAt (S signsL) (Int.toNat (i : Int))).toNat : Int) == (b.toNat : Int)))) rfl (cBool (kq.trans htk.symm))) (.cons (Vle.inc i rfl (by omega)) (.nil _)))))))) (List.Sublist.refl _) ⟨i + 1, rfl, h, rfl, rfl⟩)
  have h : i = 14 := by have := of_decide_eq_false h; rw [S_size, hsl] at this; omega
  subst h
  have hsg : ((signsL.take 14).any fun c => decide (c = b)) = isSg b := rfl
  rw [hsg]
  (conv => arg 2; whnf)
  refine wp_leaf (loop_exit ?_)
  (conv => arg 2; whnf); refine wp_cutR (frL [(0, byteV b), (3, str [b]), (4, wslV l), (5, .c (errV e)), (7, bV (isSg b))]) [] (.cons (.refl _) (.cons (.refl _) (.cons (.refl _) (.cons (.refl _) (.cons (.refl _) (.nil _)))))) (List.Sublist.refl _) ?_
  have k33 : ((b.toNat : Int) == 33) = decide (b = 33) := c_int_eq b 33 33 rfl
  have k60 : ((b.toNat : Int) == 60) = decide (b = 60) := c_int_eq b 60 60 rfl
  rcases hle with ⟨rfl, hb, h3, h4⟩ | ⟨rfl, hb, hs, h3, h4, h5, h6⟩ | ⟨rfl, hb, hs, hw, h3⟩ | ⟨rfl, rfl, hb, hs, hw⟩
  · have hget := wAt_get (l := l) (i := 1) (by omega)
    have hl3 : (((l.map wdV).length : Int) == 3) = true := by rw [List.length_map, h3]; rfl
    apply wp_joinT
    case h1 =>
      intro rest
      (conv => arg 2; whnf); refine wp_ite (fun h => ?_) (fun h => ?_)
      · (repeat ((conv => arg 2; whnf); first | refine wp_ite (fun _ => ?_) (fun h => Bool.noConfusion h) | refine wp_ite (fun h => Bool.noConfusion h) (fun _ => ?_)))
        (conv => arg 2; whnf)
        exact wp_cutR (frL [(3, str [b]), (4, wslV l), (5, .c .nilIface)]) [] (.cons (.refl _) (.cons (.refl _) (.cons (.refl _) (.nil _)))) (List.Sublist.refl _) rest
      · (conv => arg 2; whnf); refine wp_ite (fun h' => ?_) (fun h' => ?_)
        · (conv => arg 2; whnf)
          exact wp_cutR (frL [(3, str [b]), (4, wslV l), (5, .c .nilIface)]) [] (.cons (.refl _) (.cons (.refl _) (.cons (.refl _) (.nil _)))) (List.Sublist.refl _) rest
        · exfalso
          rw [k33] at h; rw [k60] at h'
          rcases hb with hb | hb
          · exact of_decide_eq_false h hb
          · exact of_decide_eq_false h' hb
    case rest =>
      (repeat ((conv => arg 2; whnf); first | refine wp_ite (fun _ => ?_) (fun h => Bool.noConfusion h) | refine wp_ite (fun h => Bool.noConfusion h) (fun _ => ?_)))
      (conv => arg 2; whnf); refine wp_ite (fun _ => ?_) (fun h => by rw [hl3] at h; cases h)
      (conv => arg 2; whnf); refine wp_elem 1 (wdV (wAt l 1)) rfl hget (Vle.refl _) ?_
      (conv => arg 2; whnf); refine wp_need (Nat.le_of_ble_eq_true rfl) ?_
      (conv => arg 2; whnf); refine w_retp rfl (Vle.eq (cBool ?_))
      show ((S (wAt l 1).text).toList == (S [b] ++ S [61]).toList) = true
      rw [S_append]
      exact (dec_str _ _).2 h4
  · have hget1 := wAt_get (l := l) (i := 1) (by omega)
    have hget2 := wAt_get (l := l) (i := 2) (by omega)
    have hl4 : (((l.map wdV).length : Int) == 4) = true := by rw [List.length_map, h3]; rfl
    (conv => arg 2; whnf); refine wp_ite (fun h => absurd (of_decide_eq_true (k33 ▸ h)) (fun e => hb (.inl e))) (fun _ => ?_)
    (conv => arg 2; whnf); refine wp_ite (fun h => absurd (of_decide_eq_true (k60 ▸ h)) (fun e => hb (.inr e))) (fun _ => ?_)

    (conv => arg 2; whnf); refine wp_cutR (frL [(3, str [b]), (4, wslV l), (5, .c .nilIface), (7, bV true)]) [] (.cons (.refl _) (.cons (.refl _) (.cons (.refl _) (.cons (Vle.of _ rfl (congrArg bV hs)) (.nil _))))) (List.Sublist.refl _) ?_
    (repeat ((conv => arg 2; whnf); first | refine wp_ite (fun _ => ?_) (fun h => Bool.noConfusion h) | refine wp_ite (fun h => Bool.noConfusion h) (fun _ => ?_)))
    (conv => arg 2; whnf); refine wp_cutR (frL [(3, str [b]), (4, wslV l), (5, .c .nilIface)]) [] (.cons (.refl _) (.cons (.refl _) (.cons (.refl _) (.nil _)))) (List.Sublist.refl _) ?_
    (repeat ((conv => arg 2; whnf); first | refine wp_ite (fun _ => ?_) (fun h => Bool.noConfusion h) | refine wp_ite (fun h => Bool.noConfusion h) (fun _ => ?_)))
    (conv => arg 2; whnf); refine wp_ite (fun _ => ?_) (fun h => by rw [hl4] at h; cases h)
    (conv => arg 2; whnf); refine wp_elem 1 (wdV (wAt l 1)) rfl hget1 (Vle.refl _) ?_
    (conv => arg 2; whnf); refine wp_ite (fun _ => ?_) (fun h => (eqT h h4).elim)
    (conv => arg 2; whnf); refine wp_elem 2 (wdV (wAt l 2)) rfl hget2 (Vle.refl _) ?_
    (conv => arg 2; whnf); refine wp_ite (fun _ => ?_) (fun h => (eqT h h5).elim)
    (conv => arg 2; whnf); refine wp_elem 1 (wdV (wAt l 1)) rfl hget1 (Vle.refl _) ?_
    (conv => arg 2; whnf); refine w_retp rfl (Vle.eq (cBool ?_))
    show (((wAt l 1).kind : Int) == 5) = true
    rw [h6]; rfl
  · have hw := (isWd_iff b).1 hw
    (conv => arg 2; whnf); refine wp_ite (fun h => absurd (of_decide_eq_true (k33 ▸ h)) (fun e => hb (.inl e))) (fun _ => ?_)
    (conv => arg 2; whnf); refine wp_ite (fun h => absurd (of_decide_eq_true (k60 ▸ h)) (fun e => hb (.inr e))) (fun _ => ?_)

    (conv => arg 2; whnf); refine wp_cutR (frL [(0, byteV b), (4, wslV l), (5, .c (errV none)), (7, bV false)]) [] (.cons (.refl _) (.cons (.refl _) (.cons (.refl _) (.cons (Vle.of _ rfl (congrArg bV hs)) (.nil _))))) (List.Sublist.refl _) ?_
    (repeat ((conv => arg 2; whnf); first | refine wp_ite (fun _ => ?_) (fun h => Bool.noConfusion h) | refine wp_ite (fun h => Bool.noConfusion h) (fun _ => ?_)))
    (conv => arg 2; whnf); refine wp_cutR (frL [(0, byteV b), (4, wslV l), (5, .c (errV none))]) [] (.cons (.refl _) (.cons (.refl _) (.cons (.refl _) (.nil _)))) (List.Sublist.refl _) ?_
    apply wp_joinT
    case h1 =>
      intro rest
      (conv => arg 2; whnf); refine wp_ite (fun g1 => ?_) (fun g1 => ?_)
      · (repeat ((conv => arg 2; whnf); first | refine wp_ite (fun _ => ?_) (fun h => Bool.noConfusion h) | refine wp_ite (fun h => Bool.noConfusion h) (fun _ => ?_)))
        (conv => arg 2; whnf)
        exact wp_cutR (frL [(0, byteV b), (4, wslV l), (5, .c .nilIface)]) [] (.cons (.refl _) (.cons (.refl _) (.cons (.refl _) (.nil _)))) (List.Sublist.refl _) rest
      · (conv => arg 2; whnf); refine wp_ite (fun g2 => ?_) (fun g2 => ?_)
        · (conv => arg 2; whnf); refine wp_ite (fun g3 => ?_) (fun g3 => ?_)
          · (repeat ((conv => arg 2; whnf); first | refine wp_ite (fun _ => ?_) (fun h => Bool.noConfusion h) | refine wp_ite (fun h => Bool.noConfusion h) (fun _ => ?_)))
            (conv => arg 2; whnf)
            exact wp_cutR (frL [(0, byteV b), (4, wslV l), (5, .c .nilIface)]) [] (.cons (.refl _) (.cons (.refl _) (.cons (.refl _) (.nil _)))) (List.Sublist.refl _) rest
          · (conv => arg 2; whnf); refine wp_ite (fun g4 => ?_) (fun g4 => ?_)
            · (conv => arg 2; whnf); refine wp_ite (fun g5 => ?_) (fun g5 => ?_)
              · (repeat ((conv => arg 2; whnf); first | refine wp_ite (fun _ => ?_) (fun h => Bool.noConfusion h) | refine wp_ite (fun h => Bool.noConfusion h) (fun _ => ?_)))
                (conv => arg 2; whnf)
                exact wp_cutR (frL [(0, byteV b), (4, wslV l), (5, .c .nilIface)]) [] (.cons (.refl _) (.cons (.refl _) (.cons (.refl _) (.nil _)))) (List.Sublist.refl _) rest
              · (conv => arg 2; whnf); refine wp_ite (fun g6 => ?_) (fun g6 => ?_)
                · (conv => arg 2; whnf); refine wp_ite (fun g7 => ?_) (fun g7 => ?_)
                  ·
                    (conv => arg 2; whnf)
                    exact wp_cutR (frL [(0, byteV b), (4, wslV l), (5, .c .nilIface)]) [] (.cons (.refl _) (.cons (.refl _) (.cons (.refl _) (.nil _)))) (List.Sublist.refl _) rest
                  ·
                    exfalso; clear rest; simp only [beq_eq_false_iff_ne, decide_eq_true_eq, decide_eq_false_iff_not, beq_iff_eq, ne_eq] at *; omega
                · (repeat ((conv => arg 2; whnf); first | refine wp_ite (fun _ => ?_) (fun h => Bool.noConfusion h) | refine wp_ite (fun h => Bool.noConfusion h) (fun _ => ?_)))
                  exfalso; clear rest; simp only [beq_eq_false_iff_ne, decide_eq_true_eq, decide_eq_false_iff_not, beq_iff_eq, ne_eq] at *; omega
            · (repeat ((conv => arg 2; whnf); first | refine wp_ite (fun _ => ?_) (fun h => Bool.noConfusion h) | refine wp_ite (fun h => Bool.noConfusion h) (fun _ => ?_)))
              (conv => arg 2; whnf); refine wp_ite (fun g6 => ?_) (fun g6 => ?_)
              · (conv => arg 2; whnf); refine wp_ite (fun g7 => ?_) (fun g7 => ?_)
                ·
                  (conv => arg 2; whnf)
                  exact wp_cutR (frL [(0, byteV b), (4, wslV l), (5, .c .nilIface)]) [] (.cons (.refl _) (.cons (.refl _) (.cons (.refl _) (.nil _)))) (List.Sublist.refl _) rest
                ·
                  exfalso; clear rest; simp only [beq_eq_false_iff_ne, decide_eq_true_eq, decide_eq_false_iff_not, beq_iff_eq, ne_eq] at *; omega
              · (repeat ((conv => arg 2; whnf); first | refine wp_ite (fun _ => ?_) (fun h => Bool.noConfusion h) | refine wp_ite (fun h => Bool.noConfusion h) (fun _ => ?_)))
                exfalso; clear rest; simp only [beq_eq_false_iff_ne, decide_eq_true_eq, decide_eq_false_iff_not, beq_iff_eq, ne_eq] at *; omega
        · (repeat ((conv => arg 2; whnf); first | refine wp_ite (fun _ => ?_) (fun h => Bool.noConfusion h) | refine wp_ite (fun h => Bool.noConfusion h) (fun _ => ?_)))
          (conv => arg 2; whnf); refine wp_ite (fun g4 => ?_) (fun g4 => ?_)
          · (conv => arg 2; whnf); refine wp_ite (fun g5 => ?_) (fun g5 => ?_)
            · (repeat ((conv => arg 2; whnf); first | refine wp_ite (fun _ => ?_) (fun h => Bool.noConfusion h) | refine wp_ite (fun h => Bool.noConfusion h) (fun _ => ?_)))
              (conv => arg 2; whnf)
              exact wp_cutR (frL [(0, byteV b), (4, wslV l), (5, .c .nilIface)]) [] (.cons (.refl _) (.cons (.refl _) (.cons (.refl _) (.nil _)))) (List.Sublist.refl _) rest
            · (conv => arg 2; whnf); refine wp_ite (fun g6 => ?_) (fun g6 => ?_)
              · (conv => arg 2; whnf); refine wp_ite (fun g7 => ?_) (fun g7 => ?_)
                ·
                  (conv => arg 2; whnf)
                  exact wp_cutR (frL [(0, byteV b), (4, wslV l), (5, .c .nilIface)]) [] (.cons (.refl _) (.cons (.refl _) (.cons (.refl _) (.nil _)))) (List.Sublist.refl _) rest
                ·
                  exfalso; clear rest; simp only [beq_eq_false_iff_ne, decide_eq_true_eq, decide_eq_false_iff_not, beq_iff_eq, ne_eq] at *; omega
              · (repeat ((conv => arg 2; whnf); first | refine wp_ite (fun _ => ?_) (fun h => Bool.noConfusion h) | refine wp_ite (fun h => Bool.noConfusion h) (fun _ => ?_)))
                exfalso; clear rest; simp only [beq_eq_false_iff_ne, decide_eq_true_eq, decide_eq_false_iff_not, beq_iff_eq, ne_eq] at *; omega
          · (repeat ((conv => arg 2; whnf); first | refine wp_ite (fun _ => ?_) (fun h => Bool.noConfusion h) | refine wp_ite (fun h => Bool.noConfusion h) (fun _ => ?_)))
            (conv => arg 2; whnf); refine wp_ite (fun g6 => ?_) (fun g6 => ?_)
            · (conv => arg 2; whnf); refine wp_ite (fun g7 => ?_) (fun g7 => ?_)
              ·
                (conv => arg 2; whnf)
                exact wp_cutR (frL [(0, byteV b), (4, wslV l), (5, .c .nilIface)]) [] (.cons (.refl _) (.cons (.refl _) (.cons (.refl _) (.nil _)))) (List.Sublist.refl _) rest
              ·
                exfalso; clear rest; simp only [beq_eq_false_iff_ne, decide_eq_true_eq, decide_eq_false_iff_not, beq_iff_eq, ne_eq] at *; omega
            · (repeat ((conv => arg 2; whnf); first | refine wp_ite (fun _ => ?_) (fun h => Bool.noConfusion h) | refine wp_ite (fun h => Bool.noConfusion h) (fun _ => ?_)))
              exfalso; clear rest; simp only [beq_eq_false_iff_ne, decide_eq_true_eq, decide_eq_false_iff_not, beq_iff_eq, ne_eq] at *; omega
    case rest =>
      (repeat ((conv => arg 2; whnf); first | refine wp_ite (fun _ => ?_) (fun h => Bool.noConfusion h) | refine wp_ite (fun h => Bool.noConfusion h) (fun _ => ?_)))
      (conv => arg 2; whnf); refine w_retp rfl (Vle.eq (cBool ?_))
      have e : b = 32 ↔ b.toNat = 32 := by rw [← UInt8.toNat_inj]; rfl
      rw [ne_eq, e] at h3
      show ((((l.map wdV).length : Int) == 4) == ((b.toNat : Int) != 32)) = true
      rw [List.length_map, beq_iff_eq, Bool.eq_iff_iff]
      simp only [beq_iff_eq, bne_iff_ne, ne_eq]
      omega
  · have hw : ¬ _ := fun h => Bool.noConfusion (hw.symm.trans ((isWd_iff b).2 h))
    (conv => arg 2; whnf); refine wp_ite (fun h => absurd (of_decide_eq_true (k33 ▸ h)) (fun e => hb (.inl e))) (fun _ => ?_)
    (conv => arg 2; whnf); refine wp_ite (fun h => absurd (of_decide_eq_true (k60 ▸ h)) (fun e => hb (.inr e))) (fun _ => ?_)

    (conv => arg 2; whnf); refine wp_cutR (frL [(0, byteV b), (4, wslV []), (5, .c (errV (some 21))), (7, bV false)]) [] (.cons (.refl _) (.cons (.refl _) (.cons (.refl _) (.cons (Vle.of _ rfl (congrArg bV hs)) (.nil _))))) (List.Sublist.refl _) ?_
    (repeat ((conv => arg 2; whnf); first | refine wp_ite (fun _ => ?_) (fun h => Bool.noConfusion h) | refine wp_ite (fun h => Bool.noConfusion h) (fun _ => ?_)))
    (conv => arg 2; whnf); refine wp_cutR (frL [(0, byteV b), (4, wslV []), (5, .c (errV (some 21)))]) [] (.cons (.refl _) (.cons (.refl _) (.cons (.refl _) (.nil _)))) (List.Sublist.refl _) ?_
    apply wp_joinT
    case h1 =>
      intro rest
      (conv => arg 2; whnf); refine wp_ite (fun g1 => ?_) (fun g1 => ?_)
      · (repeat ((conv => arg 2; whnf); first | refine wp_ite (fun _ => ?_) (fun h => Bool.noConfusion h) | refine wp_ite (fun h => Bool.noConfusion h) (fun _ => ?_)))
        exfalso; clear rest; simp only [beq_eq_false_iff_ne, decide_eq_true_eq, decide_eq_false_iff_not, beq_iff_eq, ne_eq] at *; omega
      · (conv => arg 2; whnf); refine wp_ite (fun g2 => ?_) (fun g2 => ?_)
        · (conv => arg 2; whnf); refine wp_ite (fun g3 => ?_) (fun g3 => ?_)
          · (repeat ((conv => arg 2; whnf); first | refine wp_ite (fun _ => ?_) (fun h => Bool.noConfusion h) | refine wp_ite (fun h => Bool.noConfusion h) (fun _ => ?_)))
            exfalso; clear rest; simp only [beq_eq_false_iff_ne, decide_eq_true_eq, decide_eq_false_iff_not, beq_iff_eq, ne_eq] at *; omega
          · (conv => arg 2; whnf); refine wp_ite (fun g4 => ?_) (fun g4 => ?_)
            · (conv => arg 2; whnf); refine wp_ite (fun g5 => ?_) (fun g5 => ?_)
              · (repeat ((conv => arg 2; whnf); first | refine wp_ite (fun _ => ?_) (fun h => Bool.noConfusion h) | refine wp_ite (fun h => Bool.noConfusion h) (fun _ => ?_)))
                exfalso; clear rest; simp only [beq_eq_false_iff_ne, decide_eq_true_eq, decide_eq_false_iff_not, beq_iff_eq, ne_eq] at *; omega
              · (conv => arg 2; whnf); refine wp_ite (fun g6 => ?_) (fun g6 => ?_)
                · (conv => arg 2; whnf); refine wp_ite (fun g7 => ?_) (fun g7 => ?_)
                  ·
                    exfalso; clear rest; simp only [beq_eq_false_iff_ne, decide_eq_true_eq, decide_eq_false_iff_not, beq_iff_eq, ne_eq] at *; omega
                  ·
                    (conv => arg 2; whnf)
                    exact wp_cutR (frL [(4, wslV []), (5, .c (errV (some 21)))]) [] (.cons (.refl _) (.cons (.refl _) (.nil _))) (List.Sublist.refl _) rest
                · (repeat ((conv => arg 2; whnf); first | refine wp_ite (fun _ => ?_) (fun h => Bool.noConfusion h) | refine wp_ite (fun h => Bool.noConfusion h) (fun _ => ?_)))
                  (conv => arg 2; whnf)
                  exact wp_cutR (frL [(4, wslV []), (5, .c (errV (some 21)))]) [] (.cons (.refl _) (.cons (.refl _) (.nil _))) (List.Sublist.refl _) rest
            · (repeat ((conv => arg 2; whnf); first | refine wp_ite (fun _ => ?_) (fun h => Bool.noConfusion h) | refine wp_ite (fun h => Bool.noConfusion h) (fun _ => ?_)))
              (conv => arg 2; whnf); refine wp_ite (fun g6 => ?_) (fun g6 => ?_)
              · (conv => arg 2; whnf); refine wp_ite (fun g7 => ?_) (fun g7 => ?_)
                ·
                  exfalso; clear rest; simp only [beq_eq_false_iff_ne, decide_eq_true_eq, decide_eq_false_iff_not, beq_iff_eq, ne_eq] at *; omega
                ·
                  (conv => arg 2; whnf)
                  exact wp_cutR (frL [(4, wslV []), (5, .c (errV (some 21)))]) [] (.cons (.refl _) (.cons (.refl _) (.nil _))) (List.Sublist.refl _) rest
              · (repeat ((conv => arg 2; whnf); first | refine wp_ite (fun _ => ?_) (fun h => Bool.noConfusion h) | refine wp_ite (fun h => Bool.noConfusion h) (fun _ => ?_)))
                (conv => arg 2; whnf)
                exact wp_cutR (frL [(4, wslV []), (5, .c (errV (some 21)))]) [] (.cons (.refl _) (.cons (.refl _) (.nil _))) (List.Sublist.refl _) rest
        · (repeat ((conv => arg 2; whnf); first | refine wp_ite (fun _ => ?_) (fun h => Bool.noConfusion h) | refine wp_ite (fun h => Bool.noConfusion h) (fun _ => ?_)))
          (conv => arg 2; whnf); refine wp_ite (fun g4 => ?_) (fun g4 => ?_)
          · (conv => arg 2; whnf); refine wp_ite (fun g5 => ?_) (fun g5 => ?_)
            · (repeat ((conv => arg 2; whnf); first | refine wp_ite (fun _ => ?_) (fun h => Bool.noConfusion h) | refine wp_ite (fun h => Bool.noConfusion h) (fun _ => ?_)))
              exfalso; clear rest; simp only [beq_eq_false_iff_ne, decide_eq_true_eq, decide_eq_false_iff_not, beq_iff_eq, ne_eq] at *; omega
            · (conv => arg 2; whnf); refine wp_ite (fun g6 => ?_) (fun g6 => ?_)
              · (conv => arg 2; whnf); refine wp_ite (fun g7 => ?_) (fun g7 => ?_)
                ·
                  exfalso; clear rest; simp only [beq_eq_false_iff_ne, decide_eq_true_eq, decide_eq_false_iff_not, beq_iff_eq, ne_eq] at *; omega
                ·
                  (conv => arg 2; whnf)
                  exact wp_cutR (frL [(4, wslV []), (5, .c (errV (some 21)))]) [] (.cons (.refl _) (.cons (.refl _) (.nil _))) (List.Sublist.refl _) rest
              · (repeat ((conv => arg 2; whnf); first | refine wp_ite (fun _ => ?_) (fun h => Bool.noConfusion h) | refine wp_ite (fun h => Bool.noConfusion h) (fun _ => ?_)))
                (conv => arg 2; whnf)
                exact wp_cutR (frL [(4, wslV []), (5, .c (errV (some 21)))]) [] (.cons (.refl _) (.cons (.refl _) (.nil _))) (List.Sublist.refl _) rest
          · (repeat ((conv => arg 2; whnf); first | refine wp_ite (fun _ => ?_) (fun h => Bool.noConfusion h) | refine wp_ite (fun h => Bool.noConfusion h) (fun _ => ?_)))
            (conv => arg 2; whnf); refine wp_ite (fun g6 => ?_) (fun g6 => ?_)
            · (conv => arg 2; whnf); refine wp_ite (fun g7 => ?_) (fun g7 => ?_)
              ·
                exfalso; clear rest; simp only [beq_eq_false_iff_ne, decide_eq_true_eq, decide_eq_false_iff_not, beq_iff_eq, ne_eq] at *; omega
              ·
                (conv => arg 2; whnf)
                exact wp_cutR (frL [(4, wslV []), (5, .c (errV (some 21)))]) [] (.cons (.refl _) (.cons (.refl _) (.nil _))) (List.Sublist.refl _) rest
            · (repeat ((conv => arg 2; whnf); first | refine wp_ite (fun _ => ?_) (fun h => Bool.noConfusion h) | refine wp_ite (fun h => Bool.noConfusion h) (fun _ => ?_)))
              (conv => arg 2; whnf)
              exact wp_cutR (frL [(4, wslV []), (5, .c (errV (some 21)))]) [] (.cons (.refl _) (.cons (.refl _) (.nil _))) (List.Sublist.refl _) rest
    case rest =>
      (conv => arg 2; whnf); refine wp_pcall (is_call (some 21) 21) ?_
      (conv => arg 2; whnf); refine wp_ite (fun _ => ?_) (fun h => absurd h (by decide))
      (conv => arg 2; whnf); refine w_retp rfl (.refl _)
end Go.Sv
