/- pasternlaw7.WordTexts. -/
import Derived.Test.YtdkbdmfhidimmaaDoorKnown7
import Derived.Test.YtdkbdmfhidimmaaDoorWTexts0
namespace Go.Sv
open Go Go.Proofs

theorem esc_le (s : List UInt8) : (esc s).length ≤ 2 * s.length := by
  induction s with
  | nil => simp [esc]
  | cons c s ih =>
    have : (esc (c :: s)).length = (escB c).length + (esc s).length := by simp [esc]
    have h2 : (escB c).length ≤ 2 := by unfold escB; split <;> simp
    simp only [List.length_cons]; omega

set_option maxRecDepth 100000 in
set_option maxHeartbeats 1000000 in
theorem wtexts_law (s : List UInt8) : PCall Tryd.prog 5 [str s] (bV true) := by
  refine scall_of (live := []) (ords := [(5, []), (12, []), (13, []), (14, []), (15, [])]) Tryd.func5 rfl (by kernel_rfl) (by kernel_rfl) (Nat.le_of_ble_eq_true rfl) ?_
  (conv => arg 2; whnf); refine wp_pcall known7_call ?_
  (conv => arg 2; whnf); refine wp_ite (fun h => by first | cases h | (simp at h; done)) (fun _ => ?_)
  (conv => arg 2; whnf); refine wp_ite (fun h40 => ?_) (fun h40 => ?_)
  · (conv => arg 2; whnf); refine w_retp rfl (.refl _)
  have h40 : s.length ≤ 40 := by have := of_decide_eq_false h40; rw [S_size] at this; omega
  (conv => arg 2; whnf); refine wp_cutR (frL [(0, str s)]) [] (.cons (.refl _) (.nil _)) (List.Sublist.refl _) ?_
  (conv => arg 2; whnf); refine wp_loop (fun m fr R => ∃ i : Nat, m = s.length - i ∧ i ≤ s.length ∧ R = [] ∧ fr = frL [(0, str s), (3, str (esc (s.take i))), (4, bV ((s.take i).all okCh)), (5, i64V i)])
    s.length _ _ (.cons (.refl _) (.cons (.refl _) (.cons (.refl _) (.cons (.refl _) (.nil _))))) (List.Sublist.refl _) ⟨0, rfl, Nat.zero_le _, rfl, rfl⟩ ?_
  rintro m fr R ⟨i, rfl, hi, rfl, rfl⟩
  (conv => arg 2; whnf); refine wp_ite (fun h => ?_) (fun h => ?_)
  · have h : i < s.length := by have := of_decide_eq_true h; rw [S_size] at this; omega
    obtain ⟨c, hc⟩ : ∃ c, s[i]? = some c := ⟨_, List.getElem?_eq_getElem h⟩
    have hb : byteAt (S s) (Int.toNat (i : Int)) = c := byte_at hc
    have hne : (0 : Int) ≤ (i : Int) ∧ (i : Int) < (S s).size := by rw [S_size]; omega
    have hesc := esc_le (s.take i)
    rw [List.length_take] at hesc
    have htk : s.take (i + 1) = s.take i ++ [c] := by rw [List.take_add_one, hc]; rfl
    have hsz1 : (S (esc (s.take i))).size + 1 ≤ 4611686018427387904 := by rw [S_size]; omega
    obtain ⟨pre, hpre⟩ : ∃ pre : List UInt8, pre = if c = 34 ∨ c = 92 then [92] else [] := ⟨_, rfl⟩
    have hpl : pre.length ≤ 1 := by rw [hpre]; split <;> simp
    have heb : escB c = pre ++ [c] := by rw [hpre, escB]; split <;> rfl
    have hpre1 : c = 34 ∨ c = 92 → pre = [92] := fun h => by rw [hpre, if_pos h]
    have hpre0 : c ≠ 34 → c ≠ 92 → pre = [] := fun h h' => by rw [hpre, if_neg (by simp [h, h'])]
    have happ0 : pre = [] → esc (s.take i) = esc (s.take i) ++ pre := fun h => by rw [h, List.append_nil]
    obtain ⟨g, hg⟩ : ∃ g, g = (s.take i).all okCh := ⟨_, rfl⟩
    rw [← hg]
    have hg' : (s.take (i + 1)).all okCh = (g && okCh c) := by rw [htk, List.all_append, ← hg]; simp
    have k34 : (((byteAt (S s) (Int.toNat (i : Int))).toNat : Int) == 34) = decide (c = 34) := by rw [hb]; exact c_int_eq c 34 34 rfl
    have k92 : (((byteAt (S s) (Int.toNat (i : Int))).toNat : Int) == 92) = decide (c = 92) := by rw [hb]; exact c_int_eq c 92 92 rfl
    have kge : decide (((byteAt (S s) (Int.toNat (i : Int))).toNat : Int) ≥ 32) = decide (32 ≤ c.toNat) := by rw [hb]; exact decide_eq_decide.2 (by omega)
    have kle : decide (((byteAt (S s) (Int.toNat (i : Int))).toNat : Int) ≤ 126) = decide (c.toNat ≤ 126) := by rw [hb]; exact decide_eq_decide.2 (by omega)
    have w1 : IntKind.i64.wrap ((i : Int) + 1) = ((i + 1 : Nat) : Int) := wadd (by omega) (by omega) (by omega)
    obtain ⟨g2, hg2⟩ : ∃ g2, g2 = (g && okCh c) := ⟨_, rfl⟩
    have hokf : g = false → false = g2 := fun h => by rw [hg2, h]; rfl
    have hok1 : g = true → decide (32 ≤ c.toNat) = true → decide (c.toNat ≤ 126) = g2 := fun hg h => by rw [hg2, hg, okCh, h]; rfl
    have hok0 : g = true → decide (32 ≤ c.toNat) = false → false = g2 := fun hg h => by rw [hg2, hg, okCh, h]; rfl
    (conv => arg 2; whnf); refine wp_need hne ?_
    apply wp_joinT
    case h1 =>
      intro rest
      (conv => arg 2; whnf); refine wp_ite (fun h1 => ?_) (fun h1 => ?_)
      · rw [k34] at h1
        have hp := hpre1 (.inl (of_decide_eq_true h1))
        (repeat ((conv => arg 2; whnf); first | refine wp_ite (fun _ => ?_) (fun h => Bool.noConfusion h) | refine wp_ite (fun h => Bool.noConfusion h) (fun _ => ?_)))
        (conv => arg 2; whnf); refine wp_need hsz1 ?_
        (conv => arg 2; whnf)
        exact wp_cutR (frL [(0, str s), (3, str (esc (s.take i) ++ pre)), (4, bV g), (5, i64V i)]) [] (.cons (.refl _) (.cons (by rw [hp]; exact addStr _ _ rfl) (.cons (.refl _) (.cons (.refl _) (.nil _))))) (List.Sublist.refl _) rest
      · rw [k34] at h1
        (conv => arg 2; whnf); refine wp_need hne ?_
        (conv => arg 2; whnf); refine wp_ite (fun h2 => ?_) (fun h2 => ?_)
        · rw [k92] at h2
          have hp := hpre1 (.inr (of_decide_eq_true h2))
          (conv => arg 2; whnf); refine wp_need hsz1 ?_
          (conv => arg 2; whnf)
          exact wp_cutR (frL [(0, str s), (3, str (esc (s.take i) ++ pre)), (4, bV g), (5, i64V i)]) [] (.cons (.refl _) (.cons (by rw [hp]; exact addStr _ _ rfl) (.cons (.refl _) (.cons (.refl _) (.nil _))))) (List.Sublist.refl _) rest
        · rw [k92] at h2
          have hp := hpre0 (of_decide_eq_false h1) (of_decide_eq_false h2)
          (conv => arg 2; whnf)
          exact wp_cutR (frL [(0, str s), (3, str (esc (s.take i) ++ pre)), (4, bV g), (5, i64V i)]) [] (.cons (.refl _) (.cons (Vle.eq (congrArg str (happ0 hp))) (.cons (.refl _) (.cons (.refl _) (.nil _))))) (List.Sublist.refl _) rest
    case rest =>
      apply wp_joinT
      case h1 =>
        intro rest
        cases g with
        | false =>
          (repeat ((conv => arg 2; whnf); first | refine wp_ite (fun _ => ?_) (fun h => Bool.noConfusion h) | refine wp_ite (fun h => Bool.noConfusion h) (fun _ => ?_)))
          (conv => arg 2; whnf)
          exact wp_cutR (frL [(0, str s), (3, str (esc (s.take i) ++ pre)), (4, bV g2), (5, i64V i)]) [] (.cons (.refl _) (.cons (.refl _) (.cons (Vle.of _ rfl (cBool (hokf rfl))) (.cons (.refl _) (.nil _))))) (List.Sublist.refl _) rest
        | true =>
          (repeat ((conv => arg 2; whnf); first | refine wp_ite (fun _ => ?_) (fun h => Bool.noConfusion h) | refine wp_ite (fun h => Bool.noConfusion h) (fun _ => ?_)))
          (conv => arg 2; whnf); refine wp_need hne ?_
          (conv => arg 2; whnf); refine wp_ite (fun h1 => ?_) (fun h1 => ?_)
          · rw [kge] at h1
            (repeat ((conv => arg 2; whnf); first | refine wp_ite (fun _ => ?_) (fun h => Bool.noConfusion h) | refine wp_ite (fun h => Bool.noConfusion h) (fun _ => ?_)))
            (conv => arg 2; whnf); refine wp_need hne ?_
            (conv => arg 2; whnf)
            exact wp_cutR (frL [(0, str s), (3, str (esc (s.take i) ++ pre)), (4, bV g2), (5, i64V i)]) [] (.cons (.refl _) (.cons (.refl _) (.cons (Vle.of _ rfl (cBool (kle.trans (hok1 rfl h1)))) (.cons (.refl _) (.nil _))))) (List.Sublist.refl _) rest
          · rw [kge] at h1
            (repeat ((conv => arg 2; whnf); first | refine wp_ite (fun _ => ?_) (fun h => Bool.noConfusion h) | refine wp_ite (fun h => Bool.noConfusion h) (fun _ => ?_)))
            (conv => arg 2; whnf)
            exact wp_cutR (frL [(0, str s), (3, str (esc (s.take i) ++ pre)), (4, bV g2), (5, i64V i)]) [] (.cons (.refl _) (.cons (.refl _) (.cons (Vle.of _ rfl (cBool (hok0 rfl h1))) (.cons (.refl _) (.nil _))))) (List.Sublist.refl _) rest
      case rest =>
        (conv => arg 2; whnf); refine wp_need (by rw [w1, S_size]; omega) ?_
        (conv => arg 2; whnf); refine wp_need (by rw [w1, S_extract, S_size, S_size, List.length_append]; have := List.length_drop (i := i) (l := s.take (i + 1)); simp; omega) ?_
        (conv => arg 2; whnf)
        refine wp_leaf (loop_next (s.length - (i + 1)) _ [] (by omega) (.cons (.refl _) (.cons (Vle.of (V.c (.string (S (esc (s.take i) ++ pre) ++ (S s).extract (Int.toNat (i : Int)) (Int.toNat (IntKind.i64.wrap ((i : Int) + 1)))))) rfl (cStr ?_)) (.cons (Vle.of (bV g2) rfl (congrArg bV (hg2.trans hg'.symm))) (.cons (Vle.inc i rfl (by omega)) (.nil _))))) (List.Sublist.refl _) ⟨i + 1, rfl, h, rfl, rfl⟩)
        show S (esc (s.take i) ++ pre) ++ (S s).extract (Int.toNat (i : Int)) (Int.toNat (IntKind.i64.wrap ((i : Int) + 1))) = S (esc (s.take (i + 1)))
        rw [w1, S_extract, Int.toNat_natCast, Int.toNat_natCast, S_append, htk, esc_app, heb]
        have e : (s.take i ++ [c]).drop i = [c] := by
          rw [List.drop_append_of_le_length (by rw [List.length_take]; omega), List.drop_eq_nil_of_le (by rw [List.length_take]; omega)]; rfl
        rw [e, List.append_assoc]
  have h : i = s.length := by have := of_decide_eq_false h; rw [S_size] at this; omega
  subst h
  have hesc := esc_le s
  rw [List.take_length]
  have hcut := cut_quoted s
  have hql : (quoted s).length < 2 ^ 40 := by rw [quoted]; simp; omega
  (conv => arg 2; whnf)
  refine wp_leaf (loop_exit ?_)
  (conv => arg 2; whnf); refine wp_cutR (frL [(0, str s), (3, str (esc s)), (4, bV (s.all okCh))]) [] (.cons (.refl _) (.cons (.refl _) (.cons (.refl _) (.nil _)))) (List.Sublist.refl _) ?_
  (conv => arg 2; whnf); refine wp_need (by rw [S_size]; show 1 + _ ≤ _; omega) ?_
  (conv => arg 2; whnf); refine wp_need (by rw [show (⟨#[34]⟩ : ByteArray) = S [34] from rfl, S_append, S_size]; show _ + 1 ≤ _; simp; omega) ?_
  have hq : (S [34] ++ S (esc s)) ++ S [34] = S (quoted s) := by rw [S_append, S_append]; rfl
  cases hall : s.all okCh with
  | false =>
    rw [hall, if_neg (by decide)] at hcut
    (conv => arg 2; whnf); refine wp_pcallV (.cons (Vle.of _ rfl (cStr hq)) .nil) (cut_err hql hcut) ?_
    (conv => arg 2; whnf); refine wp_cutR (frL [(0, str s), (4, bV false), (6, wslV []), (7, .c (errV (some 21)))]) [] (.cons (.refl _) (.cons (.refl _) (.cons (.refl _) (.cons (.refl _) (.nil _))))) (List.Sublist.refl _) ?_
    (repeat ((conv => arg 2; whnf); first | refine wp_ite (fun _ => ?_) (fun h => Bool.noConfusion h) | refine wp_ite (fun h => Bool.noConfusion h) (fun _ => ?_)))
    (conv => arg 2; whnf); refine wp_pcall (is_call (some 21) 21) ?_
    (conv => arg 2; whnf); refine w_retp rfl (.refl _)
  | true =>
    rw [hall, if_pos rfl] at hcut
    by_cases h16 : 16 < s.length
    · rw [if_pos h16] at hcut
      (conv => arg 2; whnf); refine wp_pcallV (.cons (Vle.of _ rfl (cStr hq)) .nil) (cut_err hql hcut) ?_
      (conv => arg 2; whnf); refine wp_cutR (frL [(0, str s), (4, bV true), (6, wslV []), (7, .c (errV (some 12)))]) [] (.cons (.refl _) (.cons (.refl _) (.cons (.refl _) (.cons (.refl _) (.nil _))))) (List.Sublist.refl _) ?_
      (repeat ((conv => arg 2; whnf); first | refine wp_ite (fun _ => ?_) (fun h => Bool.noConfusion h) | refine wp_ite (fun h => Bool.noConfusion h) (fun _ => ?_)))
      (conv => arg 2; whnf); refine wp_ite (fun _ => ?_) (fun h => by have := of_decide_eq_false h; rw [S_size] at this; omega)
      (conv => arg 2; whnf); refine wp_pcall (is_call (some 12) 12) ?_
      (conv => arg 2; whnf); refine w_retp rfl (.refl _)
    · rw [if_neg h16] at hcut
      (conv => arg 2; whnf); refine wp_pcallV (.cons (Vle.of _ rfl (cStr hq)) .nil) (cut_ok hql hcut) ?_
      (conv => arg 2; whnf); refine wp_cutR (frL [(0, str s), (4, bV true), (6, wslV [⟨3, s, 0, 0⟩]), (7, .c .nilIface)]) [] (.cons (.refl _) (.cons (.refl _) (.cons (.refl _) (.cons (.refl _) (.nil _))))) (List.Sublist.refl _) ?_
      (repeat ((conv => arg 2; whnf); first | refine wp_ite (fun _ => ?_) (fun h => Bool.noConfusion h) | refine wp_ite (fun h => Bool.noConfusion h) (fun _ => ?_)))
      (conv => arg 2; whnf); refine wp_ite (fun h => by have := of_decide_eq_true h; rw [S_size] at this; omega) (fun _ => ?_)
      (repeat ((conv => arg 2; whnf); first | refine wp_ite (fun _ => ?_) (fun h => Bool.noConfusion h) | refine wp_ite (fun h => Bool.noConfusion h) (fun _ => ?_)))
      (conv => arg 2; whnf); refine wp_elem 0 (wdV ⟨3, s, 0, 0⟩) rfl rfl (Vle.refl _) ?_
      (repeat ((conv => arg 2; whnf); first | refine wp_ite (fun _ => ?_) (fun h => Bool.noConfusion h) | refine wp_ite (fun h => Bool.noConfusion h) (fun _ => ?_)))
      (conv => arg 2; whnf); refine wp_elem 0 (wdV ⟨3, s, 0, 0⟩) rfl rfl (Vle.refl _) ?_
      (conv => arg 2; whnf); refine w_retp rfl (Vle.eq (cBool ((dec_str s s).2 rfl)))
end Go.Sv
