/- Parts of the proof, one behind the other. -/
import Derived.Test.YtdkbdmfhidimmaaDoorMgRowShowUnlike4
import Derived.Lib.Join
/- What a value is, as the reference has it. -/
namespace Go.Sv
open Go Go.Proofs

set_option maxRecDepth 100000 in
theorem plain_call (s : List UInt8) (hs : s.length < 2 ^ 60) : PCall Tryd.prog 61 [str s] (bV (isTextB s)) := by
  refine scall_of (live := []) (ords := []) Tryd.func61 rfl (by kernel_rfl) (by kernel_rfl) (Nat.le_of_ble_eq_true rfl) ?_
  (conv => arg 2; whnf); refine wp_loop (fun m fr R => ∃ n : Nat, m = s.length - n ∧ n ≤ s.length ∧ R = [] ∧ (s.take n).all okCh = true ∧ fr = frL [(0, str s), (3, i64V n)])
    s.length _ _ (.cons (.refl _) (.cons (.refl _) (.nil _))) (List.Sublist.refl _) ⟨0, rfl, Nat.zero_le _, rfl, rfl, rfl⟩ ?_
  rintro m fr R ⟨n, rfl, hn, rfl, ha, rfl⟩
  (conv => arg 2; whnf); refine wp_ite (fun h => ?_) (fun h => ?_)
  · have h : n < s.length := by have := of_decide_eq_true h; rw [S_size] at this; omega
    obtain ⟨c, hc⟩ : ∃ c, s[n]? = some c := ⟨_, List.getElem?_eq_getElem h⟩
    have hb : byteAt (S s) (Int.toNat (n : Int)) = c := byte_at hc
    have hsplit : s = s.take n ++ c :: s.drop (n + 1) := by rw [← drop_at hc, List.take_append_drop]
    (conv => arg 2; whnf); refine wp_need (by rw [S_size]; omega) ?_
    rw [hb]
    (conv => arg 2; whnf); refine wp_ite (fun h1 => ?_) (fun h1 => ?_)
    · have h1 : c.toNat < 32 := by have := of_decide_eq_true h1; omega
      (repeat ((conv => arg 2; whnf); first | refine wp_ite (fun _ => ?_) (fun h => Bool.noConfusion h) | refine wp_ite (fun h => Bool.noConfusion h) (fun _ => ?_)))
      (conv => arg 2; whnf)
      refine wp_leaf (loop_ret ?_)
      (conv => arg 2; whnf); refine w_retp rfl (Vle.eq (cBool ?_))
      rw [hsplit, isTextB]
      have : okCh c = false := by rw [okCh, decide_eq_false (by omega : ¬ 32 ≤ c.toNat), Bool.false_and]
      simp [this]
    · have h1 : 32 ≤ c.toNat := by have := of_decide_eq_false h1; omega
      (conv => arg 2; whnf); refine wp_need (by rw [S_size]; omega) ?_
      rw [hb]
      (conv => arg 2; whnf); refine wp_ite (fun h2 => ?_) (fun h2 => ?_)
      · have h2 : 126 < c.toNat := by have := of_decide_eq_true h2; omega
        (repeat ((conv => arg 2; whnf); first | refine wp_ite (fun _ => ?_) (fun h => Bool.noConfusion h) | refine wp_ite (fun h => Bool.noConfusion h) (fun _ => ?_)))
        (conv => arg 2; whnf)
        refine wp_leaf (loop_ret ?_)
        (conv => arg 2; whnf); refine w_retp rfl (Vle.eq (cBool ?_))
        rw [hsplit, isTextB]
        have : okCh c = false := by rw [okCh, decide_eq_false (by omega : ¬ c.toNat ≤ 126), Bool.and_false]
        simp [this]
      · have h2 : c.toNat ≤ 126 := by have := of_decide_eq_false h2; omega
        (repeat ((conv => arg 2; whnf); first | refine wp_ite (fun _ => ?_) (fun h => Bool.noConfusion h) | refine wp_ite (fun h => Bool.noConfusion h) (fun _ => ?_)))
        (conv => arg 2; whnf)
        refine wp_leaf (loop_next (s.length - (n + 1)) _ _ (by omega) (.cons (.refl _) (.cons (Vle.inc n rfl (by omega)) (.nil _))) (List.Sublist.refl _) ⟨n + 1, rfl, h, rfl, ?_, rfl⟩)
        rw [List.take_add_one, hc, List.all_append, ha]
        have : okCh c = true := by rw [okCh, decide_eq_true h1, decide_eq_true h2]; rfl
        simp [this]
  · have h : n = s.length := by have := of_decide_eq_false h; rw [S_size] at this; omega
    subst h
    rw [List.take_length] at ha
    (repeat ((conv => arg 2; whnf); first | refine wp_ite (fun _ => ?_) (fun h => Bool.noConfusion h) | refine wp_ite (fun h => Bool.noConfusion h) (fun _ => ?_)))
    (conv => arg 2; whnf)
    refine wp_leaf (loop_exit ?_)
    (conv => arg 2; whnf); refine w_retp rfl (Vle.eq (cBool ?_))
    rw [isTextB, ha, Bool.true_and]
    exact decide_eq_decide.2 (by rw [S_size]; omega)

set_option maxRecDepth 100000 in
theorem refvalue_call (v : Val) (hs : v.s.length < 2 ^ 60) : PCall Tryd.prog 39 [valV v] (bV (valIs v)) := by
  obtain ⟨k, n, s⟩ := v
  refine scall_of (live := []) (ords := []) Tryd.func39 rfl (by kernel_rfl) (by kernel_rfl) (Nat.le_of_ble_eq_true rfl) ?_
  (conv => arg 2; whnf); refine wp_ite (fun h1 => ?_) (fun h1 => ?_)
  · have h1 : k = 1 := by simpa using h1
    (conv => arg 2; whnf); refine w_retp rfl (Vle.eq (cBool ?_))
    rw [valIs, if_pos h1]; exact nilS
  have h1 : k ≠ 1 := by simpa using h1
  (conv => arg 2; whnf); refine wp_ite (fun h2 => ?_) (fun h2 => ?_)
  · have h2 : k = 2 := by simpa using h2
    (conv => arg 2; whnf); refine wp_ite (fun h3 => ?_) (fun h3 => ?_)
    · have h3 : n = 0 := by simpa using h3
      (conv => arg 2; whnf); refine wp_pcall (plain_call s hs) ?_
      (conv => arg 2; whnf); refine w_retp rfl (Vle.eq (cBool ?_))
      rw [valIs, if_neg h1, if_pos h2, decide_eq_true h3]; rfl
    · have h3 : n ≠ 0 := by simpa using h3
      (conv => arg 2; whnf); refine w_retp rfl (Vle.eq (cBool ?_))
      rw [valIs, if_neg h1, if_pos h2, decide_eq_false h3]; rfl
  have h2 : k ≠ 2 := by simpa using h2
  (conv => arg 2; whnf); refine wp_ite (fun h3 => ?_) (fun h3 => ?_)
  · have h3 : k = 3 := by simpa using h3
    (conv => arg 2; whnf); refine wp_ite (fun h4 => ?_) (fun h4 => ?_)
    · have h4 : n = 0 := by simpa using h4
      (repeat ((conv => arg 2; whnf); first | refine wp_ite (fun _ => ?_) (fun h => Bool.noConfusion h) | refine wp_ite (fun h => Bool.noConfusion h) (fun _ => ?_)))
      (conv => arg 2; whnf); refine w_retp rfl (Vle.eq (cBool ?_))
      rw [valIs, if_neg h1, if_neg h2, if_pos h3, decide_eq_true h4]; exact nilS
    · have h4 : n ≠ 0 := by simpa using h4
      (conv => arg 2; whnf); refine wp_ite (fun h5 => ?_) (fun h5 => ?_)
      · have h5 : n = 1 := by simpa using h5
        (conv => arg 2; whnf); refine w_retp rfl (Vle.eq (cBool ?_))
        rw [valIs, if_neg h1, if_neg h2, if_pos h3, decide_eq_false h4, decide_eq_true h5]; exact nilS
      · have h5 : n ≠ 1 := by simpa using h5
        (conv => arg 2; whnf); refine w_retp rfl (Vle.eq (cBool ?_))
        rw [valIs, if_neg h1, if_neg h2, if_pos h3, decide_eq_false h4, decide_eq_false h5]; rfl
  have h3 : k ≠ 3 := by simpa using h3
  (conv => arg 2; whnf); refine w_retp rfl (Vle.eq (cBool ?_))
  rw [valIs, if_neg h1, if_neg h2, if_neg h3]
end Go.Sv
/- What a condition is, as the reference has it. -/
namespace Go.Sv
open Go Go.Proofs

theorem str_eq (s : List UInt8) : ((S s).toList == (⟨#[]⟩ : ByteArray).toList) = decide (s = []) := nilS
theorem val_e0 (x : Ex) : (x.val.kind == 0 && (x.val.n == 0 && ((S x.val.s).toList == (⟨#[]⟩ : ByteArray).toList && true))) = !hasV x := by
  rw [val_eq0, hasV]; simp
theorem shapedN_bad {k : Nat} {x : Ex} (h : x.op < 1 ∨ 12 < x.op ∨ x.kids.length ≠ kidsN x.op) : shapedN k x = false := by
  cases k with
  | zero => rfl
  | succ k => rw [shapedN, if_pos h]
theorem shapedN_lit {k : Nat} {x : Ex} (h : ¬ (x.op < 1 ∨ 12 < x.op ∨ x.kids.length ≠ kidsN x.op)) (h2 : x.op = 1) : shapedN (k + 1) x = (valIs x.val && !hasF x) := by
  rw [shapedN, if_neg h, if_pos h2]
theorem shapedN_fld {k : Nat} {x : Ex} (h : ¬ (x.op < 1 ∨ 12 < x.op ∨ x.kids.length ≠ kidsN x.op)) (h2 : x.op = 2) : shapedN (k + 1) x = (!hasV x && (isNm x.al && isNm x.fd)) := by
  rw [shapedN, if_neg h, if_neg (by omega), if_pos h2]
theorem shapedN_in {k : Nat} {x : Ex} (h : ¬ (x.op < 1 ∨ 12 < x.op ∨ x.kids.length ≠ kidsN x.op)) (h2 : x.op ≠ 1) (h3 : x.op ≠ 2) : shapedN (k + 1) x = (x.kids.all (shapedN k) && (!hasV x && !hasF x)) := by
  rw [shapedN, if_neg h, if_neg h2, if_neg h3]

set_option maxRecDepth 100000 in
theorem refshaped_call : ∀ (k : Nat) (x : Ex) (at_ : Nat), at_ + k = 6 → ExOk (k + 1) x → PCall Tryd.prog 48 [.agg (exC x), i64V at_] (bV (shapedN k x)) := by
  intro k
  induction k with
  | zero =>
    intro x at_ hat hok
    have fk := refkids_call x.op
    refine scall_of (live := []) (ords := []) Tryd.func48 rfl (by kernel_rfl) (by kernel_rfl) (Nat.le_of_ble_eq_true rfl) ?_
    (conv => arg 2; whnf); refine wp_ite (fun h1 => ?_) (fun h1 => ?_)
    · (repeat ((conv => arg 2; whnf); first | refine wp_ite (fun _ => ?_) (fun h => Bool.noConfusion h) | refine wp_ite (fun h => Bool.noConfusion h) (fun _ => ?_)))
      (conv => arg 2; whnf); refine w_retp rfl (.refl _)
    (conv => arg 2; whnf); refine wp_ite (fun h2 => ?_) (fun h2 => ?_)
    · (repeat ((conv => arg 2; whnf); first | refine wp_ite (fun _ => ?_) (fun h => Bool.noConfusion h) | refine wp_ite (fun h => Bool.noConfusion h) (fun _ => ?_)))
      (conv => arg 2; whnf); refine w_retp rfl (.refl _)
    (conv => arg 2; whnf); refine wp_pc fk ?_
    (conv => arg 2; whnf); refine wp_ite (fun h3 => ?_) (fun h3 => ?_)
    · (repeat ((conv => arg 2; whnf); first | refine wp_ite (fun _ => ?_) (fun h => Bool.noConfusion h) | refine wp_ite (fun h => Bool.noConfusion h) (fun _ => ?_)))
      (conv => arg 2; whnf); refine w_retp rfl (.refl _)
    (conv => arg 2; whnf); refine wp_ite (fun h4 => ?_) (fun h4 => ?_)
    · (conv => arg 2; whnf); refine w_retp rfl (.refl _)
    · have h4 : ¬ (5 < (at_ : Int)) := of_decide_eq_false h4
      omega
  | succ k ih =>
    intro x at_ hat hok
    have fk := refkids_call x.op
    have fv := refvalue_call x.val hok.1
    have fa := refname_call x.al hok.2.1
    have ff := refname_call x.fd hok.2.2.1
    have hl := hok.2.2.2.1
    have hv := val_e0 x
    have ha0 := str_eq x.al
    have hf0 := str_eq x.fd
    have hF1 : decide (x.al = []) = false → (!hasF x) = false := fun h => by rw [hasF, h]; rfl
    have hF2 : decide (x.al = []) = true → (!hasF x) = decide (x.fd = []) := fun h => by rw [hasF, h]; simp
    refine scall_of (live := []) (ords := [(4, [])]) Tryd.func48 rfl (by kernel_rfl) (by kernel_rfl) (Nat.le_of_ble_eq_true rfl) ?_
    (conv => arg 2; whnf); refine wp_ite (fun h1 => ?_) (fun h1 => ?_)
    · have h1 : x.op < 1 := of_decide_eq_true h1
      (repeat ((conv => arg 2; whnf); first | refine wp_ite (fun _ => ?_) (fun h => Bool.noConfusion h) | refine wp_ite (fun h => Bool.noConfusion h) (fun _ => ?_)))
      (conv => arg 2; whnf); refine w_retp rfl (Vle.eq (cBool (shapedN_bad (.inl h1)).symm))
    have h1 : ¬ x.op < 1 := of_decide_eq_false h1
    (conv => arg 2; whnf); refine wp_ite (fun h2 => ?_) (fun h2 => ?_)
    · have h2 : 12 < x.op := of_decide_eq_true h2
      (repeat ((conv => arg 2; whnf); first | refine wp_ite (fun _ => ?_) (fun h => Bool.noConfusion h) | refine wp_ite (fun h => Bool.noConfusion h) (fun _ => ?_)))
      (conv => arg 2; whnf); refine w_retp rfl (Vle.eq (cBool (shapedN_bad (.inr (.inl h2))).symm))
    have h2 : ¬ 12 < x.op := of_decide_eq_false h2
    (conv => arg 2; whnf); refine wp_pc fk ?_
    (conv => arg 2; whnf); refine wp_ite (fun h3 => ?_) (fun h3 => ?_)
    · have h3 : x.kids.length ≠ kidsN x.op := by
        intro e
        simp [e] at h3
      (repeat ((conv => arg 2; whnf); first | refine wp_ite (fun _ => ?_) (fun h => Bool.noConfusion h) | refine wp_ite (fun h => Bool.noConfusion h) (fun _ => ?_)))
      (conv => arg 2; whnf); refine w_retp rfl (Vle.eq (cBool (shapedN_bad (.inr (.inr h3))).symm))
    have h3 : x.kids.length = kidsN x.op := by
      simp at h3
      omega
    have hb : ¬ (x.op < 1 ∨ 12 < x.op ∨ x.kids.length ≠ kidsN x.op) := by omega
    (conv => arg 2; whnf); refine wp_ite (fun h4 => ?_) (fun h4 => ?_)
    · have h4 : 5 < (at_ : Int) := of_decide_eq_true h4
      omega
    (conv => arg 2; whnf); refine wp_need valEqB ?_
    apply wp_joinT
    case h1 =>
      intro rest
      (conv => arg 2; whnf); refine wp_ite (fun h5 => ?_) (fun h5 => ?_)
      · (conv => arg 2; whnf)
        exact wp_cutR (frL [(1, i64V at_), (2, .pt (some 7) (.agg (exC x)) 0), (5, bV (!hasV x)), (6, bV (!hasF x))]) [] (.cons (.refl _) (.cons (.refl _) (.cons (Vle.eq (cBool hv)) (.cons (Vle.eq (cBool (hf0.trans (hF2 (ha0.symm.trans h5)).symm))) (.nil _))))) (List.Sublist.refl _) rest
      · (repeat ((conv => arg 2; whnf); first | refine wp_ite (fun _ => ?_) (fun h => Bool.noConfusion h) | refine wp_ite (fun h => Bool.noConfusion h) (fun _ => ?_)))
        (conv => arg 2; whnf)
        exact wp_cutR (frL [(1, i64V at_), (2, .pt (some 7) (.agg (exC x)) 0), (5, bV (!hasV x)), (6, bV (!hasF x))]) [] (.cons (.refl _) (.cons (.refl _) (.cons (Vle.eq (cBool hv)) (.cons (Vle.eq (cBool (hF1 (ha0.symm.trans h5)).symm)) (.nil _))))) (List.Sublist.refl _) rest
    case rest =>
      (conv => arg 2; whnf); refine wp_ite (fun h5 => ?_) (fun h5 => ?_)
      · have h5 : x.op = 1 := by simpa using h5
        (conv => arg 2; whnf); refine wp_pcall fv ?_
        (conv => arg 2; whnf); refine wp_ite (fun h6 => ?_) (fun h6 => ?_)
        · (conv => arg 2; whnf); refine w_retp rfl (Vle.eq (cBool ?_))
          rw [shapedN_lit hb h5, h6]; rfl
        · (conv => arg 2; whnf); refine w_retp rfl (Vle.eq (cBool ?_))
          rw [shapedN_lit hb h5, h6]; rfl
      have h5 : x.op ≠ 1 := by simpa using h5
      (conv => arg 2; whnf); refine wp_ite (fun h6 => ?_) (fun h6 => ?_)
      · have h6 : x.op = 2 := by simpa using h6
        (conv => arg 2; whnf); refine wp_ite (fun h7 => ?_) (fun h7 => ?_)
        · (conv => arg 2; whnf); refine wp_pcall fa ?_
          (conv => arg 2; whnf); refine wp_ite (fun h8 => ?_) (fun h8 => ?_)
          · (conv => arg 2; whnf); refine wp_pcall ff ?_
            (conv => arg 2; whnf); refine w_retp rfl (Vle.eq (cBool ?_))
            rw [shapedN_fld hb h6, h7, h8]; rfl
          · (repeat ((conv => arg 2; whnf); first | refine wp_ite (fun _ => ?_) (fun h => Bool.noConfusion h) | refine wp_ite (fun h => Bool.noConfusion h) (fun _ => ?_)))
            (conv => arg 2; whnf); refine w_retp rfl (Vle.eq (cBool ?_))
            rw [shapedN_fld hb h6, h7, h8]; rfl
        · (repeat ((conv => arg 2; whnf); first | refine wp_ite (fun _ => ?_) (fun h => Bool.noConfusion h) | refine wp_ite (fun h => Bool.noConfusion h) (fun _ => ?_)))
          (conv => arg 2; whnf); refine w_retp rfl (Vle.eq (cBool ?_))
          rw [shapedN_fld hb h6, h7]; rfl
      have h6 : x.op ≠ 2 := by simpa using h6
      have hin := shapedN_in (k := k) hb h5 h6
      (conv => arg 2; whnf); refine wp_loop (fun m fr R => ∃ n : Nat, m = x.kids.length - n ∧ n ≤ x.kids.length ∧ R = [] ∧ (x.kids.take n).all (shapedN k) = true ∧ fr = frL [(1, i64V at_), (2, .pt (some 7) (.agg (exC x)) 0), (5, bV (!hasV x)), (6, bV (!hasF x)), (7, i64V n)])
        x.kids.length _ _ (.cons (.refl _) (.cons (.refl _) (.cons (.refl _) (.cons (.refl _) (.cons (.refl _) (.nil _)))))) (List.Sublist.refl _) ⟨0, rfl, Nat.zero_le _, rfl, rfl, rfl⟩ ?_
      rintro m fr R ⟨n, rfl, hn, rfl, hall, rfl⟩
      (conv => arg 2; whnf); refine wp_ite (fun h => ?_) (fun h => ?_)
      · have h : n < x.kids.length := by
          have := of_decide_eq_true h
          rw [List.length_map] at this; omega
        obtain ⟨y, hy⟩ : ∃ y, x.kids[n]? = some y := ⟨_, List.getElem?_eq_getElem h⟩
        have hc := ih y (at_ + 1) (by omega) (exOk_kid hok hy)
        (conv => arg 2; whnf); refine wp_elem n (.agg (exC y)) rfl (kid_at hy) (Vle.refl _) ?_
        (conv => arg 2; whnf); refine wp_pcallV (.cons (.refl _) (.cons (Vle.i64 _ rfl (wadd (by omega : (at_ : Int) + 1 = ((at_ + 1 : Nat) : Int)) (by omega) (by omega))) .nil)) hc ?_
        (conv => arg 2; whnf); refine wp_ite (fun h7 => ?_) (fun h7 => ?_)
        · have h7 : shapedN k y = false := by simpa using h7
          (conv => arg 2; whnf)
          refine wp_leaf (loop_ret ?_)
          (conv => arg 2; whnf); refine w_retp rfl (Vle.eq (cBool ?_))
          rw [hin]
          have : x.kids.all (shapedN k) = false := by rw [List.all_eq_false]; exact ⟨y, List.mem_of_getElem? hy, by simp [h7]⟩
          rw [this]; rfl
        · have h7 : shapedN k y = true := by simpa using h7
          (conv => arg 2; whnf)
          refine wp_leaf (loop_next (x.kids.length - (n + 1)) _ _ (by omega) (.cons (.refl _) (.cons (.refl _) (.cons (.refl _) (.cons (.refl _) (.cons (Vle.inc n rfl (by omega)) (.nil _)))))) (List.Sublist.refl _) ⟨n + 1, rfl, h, rfl, ?_, rfl⟩)
          rw [List.take_add_one, hy, List.all_append, hall]
          simp [h7]
      · have h : n = x.kids.length := by
          have := of_decide_eq_false h
          rw [List.length_map] at this; omega
        subst h
        rw [List.take_length] at hall
        rw [hall, Bool.true_and] at hin
        (conv => arg 2; whnf)
        refine wp_leaf (loop_exit ?_)
        (conv => arg 2; whnf); refine wp_ite (fun h7 => ?_) (fun h7 => ?_)
        · (conv => arg 2; whnf); refine w_retp rfl (Vle.eq (cBool ?_))
          rw [hin, h7]; rfl
        · (conv => arg 2; whnf); refine w_retp rfl (Vle.eq (cBool ?_))
          rw [hin, h7]; rfl

set_option maxRecDepth 100000 in
theorem refisexpr_call (x : Ex) (hok : ExOk 20 x) (hok6 : ExOk 6 x) (hn : (nodesN 20 x).length ≤ 2 ^ 40) : PCall Tryd.prog 25 [.agg (exC x)] (bV (isExR x)) := by
  have hc := refshaped_call 5 x 1 rfl hok6
  have hd := refNodes_call x hok hn
  refine scall_of (live := []) (ords := []) Tryd.func25 rfl (by kernel_rfl) (by kernel_rfl) (Nat.le_of_ble_eq_true rfl) ?_
  (conv => arg 2; whnf); refine wp_pcall hc ?_
  (conv => arg 2; whnf); refine wp_ite (fun h1 => ?_) (fun h1 => ?_)
  · (conv => arg 2; whnf); refine wp_pcall hd ?_
    (conv => arg 2; whnf); refine w_retp rfl (Vle.eq (cBool ?_))
    rw [isExR, h1, Bool.true_and]
    exact decide_eq_decide.2 (by rw [List.length_map]; omega)
  · (repeat ((conv => arg 2; whnf); first | refine wp_ite (fun _ => ?_) (fun h => Bool.noConfusion h) | refine wp_ite (fun h => Bool.noConfusion h) (fun _ => ?_)))
    (conv => arg 2; whnf); refine w_retp rfl (Vle.eq (cBool ?_))
    rw [isExR, h1]; rfl
end Go.Sv
/- Both say the same of a condition. -/
namespace Go.Sv
open Go Go.Proofs

theorem shapedN_op {k : Nat} {x : Ex} (h : shapedN k x = true) : x.op ≠ 0 := by
  intro e
  rw [shapedN_bad (.inl (by omega))] at h
  cases h
theorem le_foldl_max : ∀ (l : List Nat) (b : Nat), b ≤ l.foldl max b
  | [], b => Nat.le_refl _
  | a :: l, b => Nat.le_trans (Nat.le_max_left b a) (le_foldl_max l _)
theorem mem_foldl_max : ∀ (l : List Nat) (b a : Nat), a ∈ l → a ≤ l.foldl max b
  | c :: l, b, a, h => by
    rcases List.mem_cons.1 h with rfl | h
    · exact Nat.le_trans (Nat.le_max_right b a) (le_foldl_max l _)
    · exact mem_foldl_max l _ a h
theorem maxL_le_iff {l : List Nat} {k : Nat} : maxL l ≤ k ↔ ∀ a ∈ l, a ≤ k :=
  ⟨fun h a ha => Nat.le_trans (mem_foldl_max l 0 a ha) h, maxL_le⟩
theorem nodes_all {j : Nat} {x : Ex} (h : x.op ≠ 0) : (nodesN (j + 1) x).all nodeB = true ↔ nodeB x = true ∧ ∀ y ∈ x.kids, (nodesN j y).all nodeB = true := by
  rw [nodesN_kids h, List.all_cons, Bool.and_eq_true, List.all_flatMap, List.all_eq_true]
theorem depth_iff {j k : Nat} {x : Ex} (h : x.op ≠ 0) : depthN (j + 1) x ≤ k + 1 ↔ ∀ y ∈ x.kids, depthN j y ≤ k := by
  rw [depthN_kids h, Nat.add_le_add_iff_right, maxL_le_iff]
  simp

theorem shaped_iff : ∀ (k j : Nat), k < j → ∀ x : Ex, x.op ≠ 0 → (shapedN k x = true ↔ depthN j x ≤ k ∧ (nodesN j x).all nodeB = true)
  | 0, j + 1, _, x, h0 => by
    refine ⟨fun h => (Bool.noConfusion h), fun h => ?_⟩
    have := h.1
    rw [depthN_kids h0] at this
    omega
  | k + 1, j + 1, hj, x, h0 => by
    rw [depth_iff h0, nodes_all h0]
    by_cases hb : x.op < 1 ∨ 12 < x.op ∨ x.kids.length ≠ kidsN x.op
    · rw [shapedN_bad hb, nodeB_bad hb]; simp
    have hlen : x.kids.length = kidsN x.op := by omega
    by_cases h1 : x.op = 1
    · have hk : x.kids = [] := List.length_eq_zero_iff.1 (by rw [hlen, h1]; rfl)
      rw [shapedN_lit hb h1, nodeB_lit hb (by rw [hk]; rfl) h1, hk]; simp
    by_cases h2 : x.op = 2
    · have hk : x.kids = [] := List.length_eq_zero_iff.1 (by rw [hlen, h2]; rfl)
      rw [shapedN_fld hb h2, nodeB_fld hb (by rw [hk]; rfl) h2, hk]; simp
    have ih := shaped_iff k j (by omega)
    rw [shapedN_in hb h1 h2]
    cases hany : x.kids.any (fun k => decide (k.op = 0)) with
    | true =>
      rw [nodeB_kid hany]
      obtain ⟨y, hy, hy0⟩ := List.any_eq_true.1 hany
      have hy0 : y.op = 0 := of_decide_eq_true hy0
      have : x.kids.all (shapedN k) = false := by
        rw [List.all_eq_false]; exact ⟨y, hy, fun h => shapedN_op h hy0⟩
      rw [this]; simp
    | false =>
      rw [nodeB_in hb hany h1 h2, Bool.and_eq_true, List.all_eq_true]
      have hne : ∀ y ∈ x.kids, y.op ≠ 0 := fun y hy e => by
        have := List.any_eq_false.1 hany y hy
        exact this (decide_eq_true e)
      constructor
      · rintro ⟨ha, hn⟩
        exact ⟨fun y hy => ((ih y (hne y hy)).1 (ha y hy)).1, hn, fun y hy => ((ih y (hne y hy)).1 (ha y hy)).2⟩
      · rintro ⟨ha, hn, hc⟩
        exact ⟨fun y hy => (ih y (hne y hy)).2 ⟨ha y hy, hc y hy⟩, hn⟩

theorem isEx_same (x : Ex) : isExR x = isExB x := by
  rw [Bool.eq_iff_iff, isExR, isExB]
  by_cases h0 : x.op = 0
  · rw [shapedN_bad (.inl (by omega)), nodesN_op h0]; simp
  have hpos : 0 < (nodesN 20 x).length := by rw [nodesN_kids h0]; simp
  simp only [Bool.and_eq_true, decide_eq_true_eq]
  rw [shaped_iff 5 20 (by omega) x h0]
  constructor
  · rintro ⟨⟨h1, h2⟩, h3⟩; exact ⟨⟨⟨h1, h3⟩, h2⟩, hpos⟩
  · rintro ⟨⟨⟨h1, h3⟩, h2⟩, _⟩; exact ⟨⟨h1, h2⟩, h3⟩
end Go.Sv
/- Signs. -/
namespace Go.Sv
open Go Go.Proofs

def signT (op : Int) : List UInt8 :=
  if op = 3 then [43] else if op = 4 then [45] else if op = 5 then [42] else if op = 6 then [61] else if op = 7 then [33, 61]
  else if op = 8 then [60] else if op = 9 then [60, 61] else if op = 10 then [65, 78, 68] else [79, 82]

set_option maxRecDepth 100000 in
theorem sign_call (op : Int) : PCall Tryd.prog 65 [i64V op] (str (signT op)) := by
  refine scall_of (live := []) (ords := []) Tryd.func65 rfl (by kernel_rfl) (by kernel_rfl) (Nat.le_of_ble_eq_true rfl) ?_
  (conv => arg 2; whnf); refine wp_ite (fun h3 => ?_) (fun h3 => ?_)
  · obtain rfl : op = 3 := by simpa using h3
    (conv => arg 2; whnf); refine w_retp rfl (Vle.eq rfl)
  (conv => arg 2; whnf); refine wp_ite (fun h4 => ?_) (fun h4 => ?_)
  · obtain rfl : op = 4 := by simpa using h4
    (conv => arg 2; whnf); refine w_retp rfl (Vle.eq rfl)
  (conv => arg 2; whnf); refine wp_ite (fun h5 => ?_) (fun h5 => ?_)
  · obtain rfl : op = 5 := by simpa using h5
    (conv => arg 2; whnf); refine w_retp rfl (Vle.eq rfl)
  (conv => arg 2; whnf); refine wp_ite (fun h6 => ?_) (fun h6 => ?_)
  · obtain rfl : op = 6 := by simpa using h6
    (conv => arg 2; whnf); refine w_retp rfl (Vle.eq rfl)
  (conv => arg 2; whnf); refine wp_ite (fun h7 => ?_) (fun h7 => ?_)
  · obtain rfl : op = 7 := by simpa using h7
    (conv => arg 2; whnf); refine w_retp rfl (Vle.eq rfl)
  (conv => arg 2; whnf); refine wp_ite (fun h8 => ?_) (fun h8 => ?_)
  · obtain rfl : op = 8 := by simpa using h8
    (conv => arg 2; whnf); refine w_retp rfl (Vle.eq rfl)
  (conv => arg 2; whnf); refine wp_ite (fun h9 => ?_) (fun h9 => ?_)
  · obtain rfl : op = 9 := by simpa using h9
    (conv => arg 2; whnf); refine w_retp rfl (Vle.eq rfl)
  (conv => arg 2; whnf); refine wp_ite (fun h10 => ?_) (fun h10 => ?_)
  · obtain rfl : op = 10 := by simpa using h10
    (conv => arg 2; whnf); refine w_retp rfl (Vle.eq rfl)
  have e : signT op = [79, 82] := by
    simp at h3 h4 h5 h6 h7 h8 h9 h10
    rw [signT, if_neg h3, if_neg h4, if_neg h5, if_neg h6, if_neg h7, if_neg h8, if_neg h9, if_neg h10]
  (conv => arg 2; whnf); refine w_retp rfl (Vle.eq ?_)
  rw [e]; rfl

set_option maxRecDepth 100000 in
theorem refsign_call (op : Int) (h1 : 3 ≤ op) (h2 : op ≤ 11) : PCall Tryd.prog 66 [i64V op] (str (signT op)) := by
  have h : op = 3 ∨ op = 4 ∨ op = 5 ∨ op = 6 ∨ op = 7 ∨ op = 8 ∨ op = 9 ∨ op = 10 ∨ op = 11 := by omega
  rcases h with rfl | rfl | rfl | rfl | rfl | rfl | rfl | rfl | rfl
  all_goals
    refine scall_of (live := []) (ords := []) Tryd.func66 rfl (by kernel_rfl) (by kernel_rfl) (Nat.le_of_ble_eq_true rfl) ?_
    (repeat ((conv => arg 2; whnf); first | refine wp_ite (fun _ => ?_) (fun h => Bool.noConfusion h) | refine wp_ite (fun h => Bool.noConfusion h) (fun _ => ?_)))
    (conv => arg 2; whnf); refine wp_need ⟨by decide, by decide⟩ ?_
    (conv => arg 2; whnf); refine w_retp rfl (Vle.eq rfl)
end Go.Sv
/- The text of a condition. -/
namespace Go.Sv
open Go Go.Proofs

def notL : List UInt8 := [40, 78, 79, 84, 32]
def toldN (sv : Val → List UInt8) : Nat → Ex → List UInt8
  | 0, _ => []
  | k + 1, x =>
    if x.op = 1 then sv x.val
    else if x.op = 2 then x.al ++ [46] ++ x.fd
    else if x.op = 12 then (match x.kids with
      | [a] => notL ++ toldN sv k a ++ [41]
      | _ => [])
    else match x.kids with
      | [a, b] => [40] ++ toldN sv k a ++ [32] ++ signT x.op ++ [32] ++ toldN sv k b ++ [41]
      | _ => []

theorem toldN_1 {sv : Val → List UInt8} {k : Nat} {v : Val} {a f : List UInt8} {l : List Ex} : toldN sv (k + 1) (.mk 1 v a f l) = sv v := by rw [toldN, if_pos (show Ex.op _ = 1 from rfl)]; rfl
theorem toldN_2 {sv : Val → List UInt8} {k : Nat} {v : Val} {a f : List UInt8} {l : List Ex} : toldN sv (k + 1) (.mk 2 v a f l) = a ++ [46] ++ f := by
  rw [toldN, if_neg (show ¬ Ex.op (.mk 2 v a f l) = 1 from (by decide : ¬ (2 : Int) = 1)), if_pos (show Ex.op _ = 2 from rfl)]; rfl
theorem toldN_12 {sv : Val → List UInt8} {k : Nat} {v : Val} {a f : List UInt8} {x : Ex} : toldN sv (k + 1) (.mk 12 v a f [x]) = notL ++ toldN sv k x ++ [41] := by
  rw [toldN, if_neg (show ¬ Ex.op (.mk 12 v a f [x]) = 1 from (by decide : ¬ (12 : Int) = 1)), if_neg (show ¬ Ex.op (.mk 12 v a f [x]) = 2 from (by decide : ¬ (12 : Int) = 2)), if_pos (show Ex.op _ = 12 from rfl)]; rfl
theorem toldN_op {sv : Val → List UInt8} {k : Nat} {o : Int} {v : Val} {a f : List UInt8} {x y : Ex} (h1 : o ≠ 1) (h2 : o ≠ 2) (h3 : o ≠ 12) :
    toldN sv (k + 1) (.mk o v a f [x, y]) = [40] ++ toldN sv k x ++ [32] ++ signT o ++ [32] ++ toldN sv k y ++ [41] := by
  rw [toldN, if_neg (show ¬ Ex.op (.mk o v a f [x, y]) = 1 from h1), if_neg (show ¬ Ex.op (.mk o v a f [x, y]) = 2 from h2), if_neg (show ¬ Ex.op (.mk o v a f [x, y]) = 12 from h3)]; rfl

theorem shape_cases {k : Nat} {o : Int} {v : Val} {a f : List UInt8} {l : List Ex} (h : shapedN (k + 1) (.mk o v a f l) = true) :
    o = 1 ∨ o = 2 ∨ (o = 12 ∧ ∃ x, l = [x] ∧ shapedN k x = true) ∨ (3 ≤ o ∧ o ≤ 11 ∧ ∃ x y, l = [x, y] ∧ shapedN k x = true ∧ shapedN k y = true) := by
  by_cases h1 : o = 1
  · exact .inl h1
  by_cases h2 : o = 2
  · exact .inr (.inl h2)
  have hb : ¬ (o < 1 ∨ 12 < o ∨ l.length ≠ kidsN o) := fun hb => by
    rw [shapedN_bad (x := .mk o v a f l) hb] at h; cases h
  rw [shapedN_in (x := .mk o v a f l) hb h1 h2, Bool.and_eq_true, List.all_eq_true] at h
  have hl : l.length = kidsN o := by omega
  have hs : ∀ x ∈ l, shapedN k x = true := h.1
  by_cases h3 : o = 12
  · rw [kidsN_12 h3] at hl
    obtain ⟨x, rfl⟩ := List.length_eq_one_iff.1 hl
    exact .inr (.inr (.inl ⟨h3, x, rfl, hs x (by simp)⟩))
  · rw [kidsN_2 (by omega) (by omega)] at hl
    obtain ⟨x, y, rfl⟩ : ∃ x y, l = [x, y] := by
      rcases l with _ | ⟨x, _ | ⟨y, _ | ⟨z, l⟩⟩⟩
      · cases hl
      · cases hl
      · exact ⟨x, y, rfl⟩
      · simp at hl
    exact .inr (.inr (.inr ⟨by omega, by omega, x, y, rfl, hs x (by simp), hs y (by simp)⟩))

theorem map1 (x : Ex) : ([x].map exV)[0]? = some (.agg (exC x)) := by rw [← exV_eq]; rfl
theorem map20 (x y : Ex) : ([x, y].map exV)[0]? = some (.agg (exC x)) := by rw [← exV_eq]; rfl
theorem map21 (x y : Ex) : ([x, y].map exV)[1]? = some (.agg (exC y)) := by rw [← exV_eq]; rfl
theorem cat3 (a b c : List UInt8) : V.c (.string (S a ++ S b ++ S c)) = str (a ++ b ++ c) := by rw [S_append, S_append]; rfl
theorem cat7 (a b c d e f g : List UInt8) : V.c (.string (S a ++ S b ++ S c ++ S d ++ S e ++ S f ++ S g)) = str (a ++ b ++ c ++ d ++ e ++ f ++ g) := by simp only [S_append]; rfl

/-- A value of 64 bits, of a short text. -/
def ValSm (v : Val) : Prop := v.s.length < 2 ^ 40 ∧ -9223372036854775808 ≤ v.n ∧ v.n < 9223372036854775808
/-- Short texts, so many levels deep. -/
def ExSm : Nat → Ex → Prop
  | 0, _ => True
  | k + 1, x => ValSm x.val ∧ x.al.length < 2 ^ 40 ∧ x.fd.length < 2 ^ 40 ∧ ∀ y ∈ x.kids, ExSm k y
theorem need2 {a b : List UInt8} (h : a.length + b.length ≤ 4611686018427387904) : (S a).size + (S b).size ≤ 4611686018427387904 := by simp only [S_size]; exact h
theorem need3 {a b c : List UInt8} (h : a.length + b.length + c.length ≤ 4611686018427387904) : (S a ++ S b).size + (S c).size ≤ 4611686018427387904 := by simp only [S_append, S_size, List.length_append]; exact h
theorem need4 {a b c d : List UInt8} (h : a.length + b.length + c.length + d.length ≤ 4611686018427387904) : (S a ++ S b ++ S c).size + (S d).size ≤ 4611686018427387904 := by simp only [S_append, S_size, List.length_append]; exact h
theorem need5 {a b c d e : List UInt8} (h : a.length + b.length + c.length + d.length + e.length ≤ 4611686018427387904) : (S a ++ S b ++ S c ++ S d).size + (S e).size ≤ 4611686018427387904 := by simp only [S_append, S_size, List.length_append]; exact h
theorem need6 {a b c d e f : List UInt8} (h : a.length + b.length + c.length + d.length + e.length + f.length ≤ 4611686018427387904) : (S a ++ S b ++ S c ++ S d ++ S e).size + (S f).size ≤ 4611686018427387904 := by simp only [S_append, S_size, List.length_append]; exact h
theorem need7 {a b c d e f g : List UInt8} (h : a.length + b.length + c.length + d.length + e.length + f.length + g.length ≤ 4611686018427387904) : (S a ++ S b ++ S c ++ S d ++ S e ++ S f).size + (S g).size ≤ 4611686018427387904 := by simp only [S_append, S_size, List.length_append]; exact h
theorem signT_len (o : Int) : (signT o).length ≤ 3 := by
  unfold signT
  repeat' split
  all_goals decide
theorem toldN_len {sv : Val → List UInt8} (hB : ∀ v : Val, ValSm v → (sv v).length ≤ 2 ^ 42) : ∀ (k : Nat) (x : Ex), ExSm k x → shapedN k x = true → (toldN sv k x).length ≤ 2 ^ (42 + 2 * k)
  | 0, _, _, h => by cases h
  | k + 1, .mk o v a f l, hok, hsh => by
    have hp : 2 ^ (42 + 2 * (k + 1)) = 4 * 2 ^ (42 + 2 * k) := by rw [show 42 + 2 * (k + 1) = (42 + 2 * k) + 2 by omega, Nat.pow_add]; omega
    have hq : 2 ^ 42 ≤ 2 ^ (42 + 2 * k) := Nat.pow_le_pow_right (by omega) (by omega)
    have ha : a.length < 2 ^ 40 := hok.2.1
    have hf : f.length < 2 ^ 40 := hok.2.2.1
    rcases shape_cases hsh with rfl | rfl | ⟨rfl, x, rfl, hx⟩ | ⟨h3, h11, x, y, rfl, hx, hy⟩
    · rw [toldN_1]
      have := hB v hok.1
      omega
    · rw [toldN_2]
      simp only [List.length_append, List.length_cons, List.length_nil]
      omega
    · rw [toldN_12]
      have := toldN_len hB k x (hok.2.2.2 x (by simp [Ex.kids])) hx
      simp only [List.length_append, List.length_cons, List.length_nil, notL]
      omega
    · rw [toldN_op (by omega) (by omega) (by omega)]
      have h1 := toldN_len hB k x (hok.2.2.2 x (by simp [Ex.kids])) hx
      have h2 := toldN_len hB k y (hok.2.2.2 y (by simp [Ex.kids])) hy
      have h3 := signT_len o
      simp only [List.length_append, List.length_cons, List.length_nil]
      omega
theorem toldN_len5 {sv : Val → List UInt8} (hB : ∀ v : Val, ValSm v → (sv v).length ≤ 2 ^ 42) {k : Nat} (hk : k ≤ 5) {x : Ex} (h1 : ExSm k x) (h2 : shapedN k x = true) : (toldN sv k x).length ≤ 2 ^ 52 :=
  Nat.le_trans (toldN_len hB k x h1 h2) (Nat.pow_le_pow_right (by omega) (by omega))

set_option maxRecDepth 100000 in
theorem told_call (sv : Val → List UInt8) (hV : ∀ v : Val, ValSm v → PCall Tryd.prog 19 [valV v] (str (sv v)))
    (hB : ∀ v : Val, ValSm v → (sv v).length ≤ 2 ^ 42) : ∀ (k : Nat) (x : Ex), k ≤ 5 → ExOk k x → ExSm k x → shapedN k x = true → PCall Tryd.prog 41 [.agg (exC x)] (str (toldN sv k x)) := by
  intro k
  induction k with
  | zero => intro x _ _ _ h; cases h
  | succ k ih =>
    rintro ⟨o, v, a, f, l⟩ hk5 hok hsm hsh
    have ha : a.length < 2 ^ 40 := hsm.2.1
    have hf : f.length < 2 ^ 40 := hsm.2.2.1
    have hv := hV v hsm.1
    rcases shape_cases hsh with rfl | rfl | ⟨rfl, x, rfl, hx⟩ | ⟨h3, h11, x, y, rfl, hx, hy⟩
    · rw [toldN_1]
      refine scall_of (live := []) (ords := []) Tryd.func41 rfl (by kernel_rfl) (by kernel_rfl) (Nat.le_of_ble_eq_true rfl) ?_
      (repeat ((conv => arg 2; whnf); first | refine wp_ite (fun _ => ?_) (fun h => Bool.noConfusion h) | refine wp_ite (fun h => Bool.noConfusion h) (fun _ => ?_)))
      (conv => arg 2; whnf); refine wp_pcall hv ?_
      (conv => arg 2; whnf); refine w_retp rfl (.refl _)
    · rw [toldN_2]
      refine scall_of (live := []) (ords := []) Tryd.func41 rfl (by kernel_rfl) (by kernel_rfl) (Nat.le_of_ble_eq_true rfl) ?_
      (repeat ((conv => arg 2; whnf); first | refine wp_ite (fun _ => ?_) (fun h => Bool.noConfusion h) | refine wp_ite (fun h => Bool.noConfusion h) (fun _ => ?_)))
      (conv => arg 2; whnf); refine wp_need (need2 (a := a) (b := [46]) (by simp only [List.length_cons, List.length_nil, notL]; omega)) ?_
      (conv => arg 2; whnf); refine wp_need (need3 (a := a) (b := [46]) (c := f) (by simp only [List.length_cons, List.length_nil, notL]; omega)) ?_
      (conv => arg 2; whnf); refine w_retp rfl (Vle.eq (cat3 a [46] f))
    · rw [toldN_12]
      have hc := ih x (by omega) (hok.2.2.2.2 x (by simp [Ex.kids])) (hsm.2.2.2 x (by simp [Ex.kids])) hx
      have lx := toldN_len5 hB (by omega) (hsm.2.2.2 x (by simp [Ex.kids])) hx
      refine scall_of (live := []) (ords := []) Tryd.func41 rfl (by kernel_rfl) (by kernel_rfl) (Nat.le_of_ble_eq_true rfl) ?_
      (repeat ((conv => arg 2; whnf); first | refine wp_ite (fun _ => ?_) (fun h => Bool.noConfusion h) | refine wp_ite (fun h => Bool.noConfusion h) (fun _ => ?_)))
      (conv => arg 2; whnf); refine wp_elem 0 (.agg (exC x)) rfl (map1 x) (Vle.refl _) ?_
      (conv => arg 2; whnf); refine wp_pcall hc ?_
      (conv => arg 2; whnf); refine wp_need (need2 (a := notL) (b := toldN sv k x) (by simp only [List.length_cons, List.length_nil, notL]; omega)) ?_
      (conv => arg 2; whnf); refine wp_need (need3 (a := notL) (b := toldN sv k x) (c := [41]) (by simp only [List.length_cons, List.length_nil, notL]; omega)) ?_
      (conv => arg 2; whnf); refine w_retp rfl (Vle.eq (cat3 notL _ [41]))
    · have n1 : o ≠ 1 := by omega
      have n2 : o ≠ 2 := by omega
      have n12 : o ≠ 12 := by omega
      rw [toldN_op n1 n2 n12]
      have hc := ih x (by omega) (hok.2.2.2.2 x (by simp [Ex.kids])) (hsm.2.2.2 x (by simp [Ex.kids])) hx
      have lx := toldN_len5 hB (by omega) (hsm.2.2.2 x (by simp [Ex.kids])) hx
      have hd := ih y (by omega) (hok.2.2.2.2 y (by simp [Ex.kids])) (hsm.2.2.2 y (by simp [Ex.kids])) hy
      have ly := toldN_len5 hB (by omega) (hsm.2.2.2 y (by simp [Ex.kids])) hy
      have ls := signT_len o
      have hs := sign_call o
      refine scall_of (live := []) (ords := []) Tryd.func41 rfl (by kernel_rfl) (by kernel_rfl) (Nat.le_of_ble_eq_true rfl) ?_
      (conv => arg 2; whnf); refine wp_ite (fun h => (n1 (eq_of_beq h)).elim) (fun _ => ?_)
      (conv => arg 2; whnf); refine wp_ite (fun h => (n2 (eq_of_beq h)).elim) (fun _ => ?_)
      (conv => arg 2; whnf); refine wp_ite (fun h => (n12 (eq_of_beq h)).elim) (fun _ => ?_)
      (repeat ((conv => arg 2; whnf); first | refine wp_ite (fun _ => ?_) (fun h => Bool.noConfusion h) | refine wp_ite (fun h => Bool.noConfusion h) (fun _ => ?_)))
      (conv => arg 2; whnf); refine wp_elem 0 (.agg (exC x)) rfl (map20 x y) (Vle.refl _) ?_
      (conv => arg 2; whnf); refine wp_pc hc ?_
      (conv => arg 2; whnf); refine wp_need (need2 (a := [40]) (b := toldN sv k x) (by simp only [List.length_cons, List.length_nil, notL]; omega)) ?_
      (conv => arg 2; whnf); refine wp_need (need3 (a := [40]) (b := toldN sv k x) (c := [32]) (by simp only [List.length_cons, List.length_nil, notL]; omega)) ?_
      (conv => arg 2; whnf); refine wp_pc hs ?_
      (conv => arg 2; whnf); refine wp_need (need4 (a := [40]) (b := toldN sv k x) (c := [32]) (d := signT o) (by simp only [List.length_cons, List.length_nil, notL]; omega)) ?_
      (conv => arg 2; whnf); refine wp_need (need5 (a := [40]) (b := toldN sv k x) (c := [32]) (d := signT o) (e := [32]) (by simp only [List.length_cons, List.length_nil, notL]; omega)) ?_
      (conv => arg 2; whnf); refine wp_elem 1 (.agg (exC y)) rfl (map21 x y) (Vle.refl _) ?_
      (conv => arg 2; whnf); refine wp_pc hd ?_
      (conv => arg 2; whnf); refine wp_need (need6 (a := [40]) (b := toldN sv k x) (c := [32]) (d := signT o) (e := [32]) (f := toldN sv k y) (by simp only [List.length_cons, List.length_nil, notL]; omega)) ?_
      (conv => arg 2; whnf); refine wp_need (need7 (a := [40]) (b := toldN sv k x) (c := [32]) (d := signT o) (e := [32]) (f := toldN sv k y) (g := [41]) (by simp only [List.length_cons, List.length_nil, notL]; omega)) ?_
      (conv => arg 2; whnf); refine w_retp rfl (Vle.eq (cat7 [40] _ [32] _ [32] _ [41]))

set_option maxRecDepth 100000 in
theorem refshow_call (sv : Val → List UInt8) (hV : ∀ v : Val, ValSm v → PCall Tryd.prog 20 [valV v] (str (sv v)))
    (hB : ∀ v : Val, ValSm v → (sv v).length ≤ 2 ^ 42) : ∀ (k : Nat) (x : Ex), k ≤ 5 → ExOk k x → ExSm k x → shapedN k x = true → PCall Tryd.prog 42 [.agg (exC x)] (str (toldN sv k x)) := by
  intro k
  induction k with
  | zero => intro x _ _ _ h; cases h
  | succ k ih =>
    rintro ⟨o, v, a, f, l⟩ hk5 hok hsm hsh
    have ha : a.length < 2 ^ 40 := hsm.2.1
    have hf : f.length < 2 ^ 40 := hsm.2.2.1
    have hv := hV v hsm.1
    rcases shape_cases hsh with rfl | rfl | ⟨rfl, x, rfl, hx⟩ | ⟨h3, h11, x, y, rfl, hx, hy⟩
    · rw [toldN_1]
      refine scall_of (live := []) (ords := []) Tryd.func42 rfl (by kernel_rfl) (by kernel_rfl) (Nat.le_of_ble_eq_true rfl) ?_
      (repeat ((conv => arg 2; whnf); first | refine wp_ite (fun _ => ?_) (fun h => Bool.noConfusion h) | refine wp_ite (fun h => Bool.noConfusion h) (fun _ => ?_)))
      (conv => arg 2; whnf); refine wp_pcall hv ?_
      (conv => arg 2; whnf); refine w_retp rfl (.refl _)
    · rw [toldN_2]
      refine scall_of (live := []) (ords := []) Tryd.func42 rfl (by kernel_rfl) (by kernel_rfl) (Nat.le_of_ble_eq_true rfl) ?_
      (repeat ((conv => arg 2; whnf); first | refine wp_ite (fun _ => ?_) (fun h => Bool.noConfusion h) | refine wp_ite (fun h => Bool.noConfusion h) (fun _ => ?_)))
      (conv => arg 2; whnf); refine wp_need (need2 (a := a) (b := [46]) (by simp only [List.length_cons, List.length_nil, notL]; omega)) ?_
      (conv => arg 2; whnf); refine wp_need (need3 (a := a) (b := [46]) (c := f) (by simp only [List.length_cons, List.length_nil, notL]; omega)) ?_
      (conv => arg 2; whnf); refine w_retp rfl (Vle.eq (cat3 a [46] f))
    · rw [toldN_12]
      have hc := ih x (by omega) (hok.2.2.2.2 x (by simp [Ex.kids])) (hsm.2.2.2 x (by simp [Ex.kids])) hx
      have lx := toldN_len5 hB (by omega) (hsm.2.2.2 x (by simp [Ex.kids])) hx
      refine scall_of (live := []) (ords := []) Tryd.func42 rfl (by kernel_rfl) (by kernel_rfl) (Nat.le_of_ble_eq_true rfl) ?_
      (repeat ((conv => arg 2; whnf); first | refine wp_ite (fun _ => ?_) (fun h => Bool.noConfusion h) | refine wp_ite (fun h => Bool.noConfusion h) (fun _ => ?_)))
      (conv => arg 2; whnf); refine wp_elem 0 (.agg (exC x)) rfl (map1 x) (Vle.refl _) ?_
      (conv => arg 2; whnf); refine wp_pcall hc ?_
      (conv => arg 2; whnf); refine wp_need (need2 (a := notL) (b := toldN sv k x) (by simp only [List.length_cons, List.length_nil, notL]; omega)) ?_
      (conv => arg 2; whnf); refine wp_need (need3 (a := notL) (b := toldN sv k x) (c := [41]) (by simp only [List.length_cons, List.length_nil, notL]; omega)) ?_
      (conv => arg 2; whnf); refine w_retp rfl (Vle.eq (cat3 notL _ [41]))
    · have n1 : o ≠ 1 := by omega
      have n2 : o ≠ 2 := by omega
      have n12 : o ≠ 12 := by omega
      rw [toldN_op n1 n2 n12]
      have hc := ih x (by omega) (hok.2.2.2.2 x (by simp [Ex.kids])) (hsm.2.2.2 x (by simp [Ex.kids])) hx
      have lx := toldN_len5 hB (by omega) (hsm.2.2.2 x (by simp [Ex.kids])) hx
      have hd := ih y (by omega) (hok.2.2.2.2 y (by simp [Ex.kids])) (hsm.2.2.2 y (by simp [Ex.kids])) hy
      have ly := toldN_len5 hB (by omega) (hsm.2.2.2 y (by simp [Ex.kids])) hy
      have ls := signT_len o
      have hs := refsign_call o h3 h11
      refine scall_of (live := []) (ords := []) Tryd.func42 rfl (by kernel_rfl) (by kernel_rfl) (Nat.le_of_ble_eq_true rfl) ?_
      (conv => arg 2; whnf); refine wp_ite (fun h => (n1 (eq_of_beq h)).elim) (fun _ => ?_)
      (conv => arg 2; whnf); refine wp_ite (fun h => (n2 (eq_of_beq h)).elim) (fun _ => ?_)
      (conv => arg 2; whnf); refine wp_ite (fun h => (n12 (eq_of_beq h)).elim) (fun _ => ?_)
      (conv => arg 2; whnf); refine wp_elem 0 (.agg (exC x)) rfl (map20 x y) (Vle.refl _) ?_
      (conv => arg 2; whnf); refine wp_pc hc ?_
      (conv => arg 2; whnf); refine wp_need (need2 (a := [40]) (b := toldN sv k x) (by simp only [List.length_cons, List.length_nil, notL]; omega)) ?_
      (conv => arg 2; whnf); refine wp_need (need3 (a := [40]) (b := toldN sv k x) (c := [32]) (by simp only [List.length_cons, List.length_nil, notL]; omega)) ?_
      (conv => arg 2; whnf); refine wp_pc hs ?_
      (conv => arg 2; whnf); refine wp_need (need4 (a := [40]) (b := toldN sv k x) (c := [32]) (d := signT o) (by simp only [List.length_cons, List.length_nil, notL]; omega)) ?_
      (conv => arg 2; whnf); refine wp_need (need5 (a := [40]) (b := toldN sv k x) (c := [32]) (d := signT o) (e := [32]) (by simp only [List.length_cons, List.length_nil, notL]; omega)) ?_
      (conv => arg 2; whnf); refine wp_elem 1 (.agg (exC y)) rfl (map21 x y) (Vle.refl _) ?_
      (conv => arg 2; whnf); refine wp_pc hd ?_
      (conv => arg 2; whnf); refine wp_need (need6 (a := [40]) (b := toldN sv k x) (c := [32]) (d := signT o) (e := [32]) (f := toldN sv k y) (by simp only [List.length_cons, List.length_nil, notL]; omega)) ?_
      (conv => arg 2; whnf); refine wp_need (need7 (a := [40]) (b := toldN sv k x) (c := [32]) (d := signT o) (e := [32]) (f := toldN sv k y) (g := [41]) (by simp only [List.length_cons, List.length_nil, notL]; omega)) ?_
      (conv => arg 2; whnf); refine w_retp rfl (Vle.eq (cat7 [40] _ [32] _ [32] _ [41]))
end Go.Sv
/- The same conditions, as the reference has it: one level. -/
namespace Go.Sv
open Go Go.Proofs

theorem val_eqD (u v : Val) : (u.kind == v.kind && (u.n == v.n && ((S u.s).toList == (S v.s).toList && true))) = decide (u = v) := by
  rw [strEq]
  cases u with
  | mk k n s =>
    cases v with
    | mk k' n' s' => rw [Bool.eq_iff_iff]; simp
def headB (a b : Ex) : Bool := decide (a.op = b.op) && (decide (a.val = b.val) && (decide (a.al = b.al) && (decide (a.fd = b.fd) && decide (a.kids.length = b.kids.length))))
theorem headB_false {a b : Ex} (h : a.op ≠ b.op ∨ a.val ≠ b.val ∨ a.al ≠ b.al ∨ a.fd ≠ b.fd ∨ a.kids.length ≠ b.kids.length) : headB a b = false := by
  rw [headB]
  rcases h with h | h | h | h | h <;> simp [h]
theorem headB_true {a b : Ex} (h1 : a.op = b.op) (h2 : a.val = b.val) (h3 : a.al = b.al) (h4 : a.fd = b.fd) (h5 : a.kids.length = b.kids.length) : headB a b = true := by
  rw [headB]; simp [h1, h2, h3, h4, h5]

set_option maxRecDepth 100000 in
theorem refsame_step (a b : Ex) (r : Nat → Bool) (hl : a.kids.length < 2 ^ 60)
    (hr : ∀ n y z, a.kids[n]? = some y → b.kids[n]? = some z → PCall Tryd.prog 26 [.agg (exC y), .agg (exC z)] (bV (r n))) :
    PCall Tryd.prog 26 [.agg (exC a), .agg (exC b)] (bV (headB a b && (List.range a.kids.length).all r)) := by
  have hv := val_eqD a.val b.val
  have hal := strEq a.al b.al
  have hfd := strEq a.fd b.fd
  refine scall_of (live := []) (ords := []) Tryd.func26 rfl (by kernel_rfl) (by kernel_rfl) (Nat.le_of_ble_eq_true rfl) ?_
  (conv => arg 2; whnf); refine wp_ite (fun h1 => ?_) (fun h1 => ?_)
  · have h1 : a.op ≠ b.op := by simpa using h1
    (repeat ((conv => arg 2; whnf); first | refine wp_ite (fun _ => ?_) (fun h => Bool.noConfusion h) | refine wp_ite (fun h => Bool.noConfusion h) (fun _ => ?_)))
    (conv => arg 2; whnf); refine w_retp rfl (Vle.eq (cBool ?_))
    rw [headB_false (.inl h1)]; rfl
  have h1 : a.op = b.op := by simpa using h1
  (conv => arg 2; whnf); refine wp_need valEqB ?_
  (conv => arg 2; whnf); refine wp_ite (fun h2 => ?_) (fun h2 => ?_)
  · have h2 : a.val ≠ b.val := by
      rw [hv] at h2; simpa using h2
    (repeat ((conv => arg 2; whnf); first | refine wp_ite (fun _ => ?_) (fun h => Bool.noConfusion h) | refine wp_ite (fun h => Bool.noConfusion h) (fun _ => ?_)))
    (conv => arg 2; whnf); refine w_retp rfl (Vle.eq (cBool ?_))
    rw [headB_false (.inr (.inl h2))]; rfl
  have h2 : a.val = b.val := by
    rw [hv] at h2; simpa using h2
  (conv => arg 2; whnf); refine wp_ite (fun h3 => ?_) (fun h3 => ?_)
  · have h3 : a.al ≠ b.al := by
      rw [hal] at h3; simpa using h3
    (repeat ((conv => arg 2; whnf); first | refine wp_ite (fun _ => ?_) (fun h => Bool.noConfusion h) | refine wp_ite (fun h => Bool.noConfusion h) (fun _ => ?_)))
    (conv => arg 2; whnf); refine w_retp rfl (Vle.eq (cBool ?_))
    rw [headB_false (.inr (.inr (.inl h3)))]; rfl
  have h3 : a.al = b.al := by
    rw [hal] at h3; simpa using h3
  (conv => arg 2; whnf); refine wp_ite (fun h4 => ?_) (fun h4 => ?_)
  · have h4 : a.fd ≠ b.fd := by
      rw [hfd] at h4; simpa using h4
    (repeat ((conv => arg 2; whnf); first | refine wp_ite (fun _ => ?_) (fun h => Bool.noConfusion h) | refine wp_ite (fun h => Bool.noConfusion h) (fun _ => ?_)))
    (conv => arg 2; whnf); refine w_retp rfl (Vle.eq (cBool ?_))
    rw [headB_false (.inr (.inr (.inr (.inl h4))))]; rfl
  have h4 : a.fd = b.fd := by
    rw [hfd] at h4; simpa using h4
  (conv => arg 2; whnf); refine wp_ite (fun h5 => ?_) (fun h5 => ?_)
  · have h5 : a.kids.length ≠ b.kids.length := by
      intro e
      simp [e] at h5
    (conv => arg 2; whnf); refine w_retp rfl (Vle.eq (cBool ?_))
    rw [headB_false (.inr (.inr (.inr (.inr h5))))]; rfl
  have h5 : a.kids.length = b.kids.length := by
    simp at h5
    omega
  rw [headB_true h1 h2 h3 h4 h5, Bool.true_and]
  (conv => arg 2; whnf); refine wp_loop (fun m fr R => ∃ n : Nat, m = a.kids.length - n ∧ n ≤ a.kids.length ∧ R = [] ∧ (List.range n).all r = true ∧ fr = frL [(2, .pt (some 7) (.agg (exC a)) 0), (3, .pt (some 7) (.agg (exC b)) 0), (5, i64V n)])
    a.kids.length _ _ (.cons (.refl _) (.cons (.refl _) (.cons (.refl _) (.nil _)))) (List.Sublist.refl _) ⟨0, rfl, Nat.zero_le _, rfl, rfl, rfl⟩ ?_
  rintro m fr R ⟨n, rfl, hn, rfl, hall, rfl⟩
  (conv => arg 2; whnf); refine wp_ite (fun h => ?_) (fun h => ?_)
  · have h : n < a.kids.length := by
      have := of_decide_eq_true h
      rw [List.length_map] at this; omega
    obtain ⟨y, hy⟩ : ∃ y, a.kids[n]? = some y := ⟨_, List.getElem?_eq_getElem h⟩
    obtain ⟨z, hz⟩ : ∃ z, b.kids[n]? = some z := ⟨_, List.getElem?_eq_getElem (by omega)⟩
    have hc := hr n y z hy hz
    (conv => arg 2; whnf); refine wp_elem n (.agg (exC y)) rfl (kid_at hy) (Vle.refl _) ?_
    (conv => arg 2; whnf); refine wp_elem n (.agg (exC z)) rfl (kid_at hz) (Vle.refl _) ?_
    (conv => arg 2; whnf); refine wp_pc hc ?_
    (conv => arg 2; whnf); refine wp_ite (fun h6 => ?_) (fun h6 => ?_)
    · have h6 : r n = false := by simpa using h6
      (conv => arg 2; whnf)
      refine wp_leaf (loop_ret ?_)
      (conv => arg 2; whnf); refine w_retp rfl (Vle.eq (cBool ?_))
      symm
      rw [List.all_eq_false]; exact ⟨n, List.mem_range.2 h, by simp [h6]⟩
    · have h6 : r n = true := by simpa using h6
      (conv => arg 2; whnf)
      refine wp_leaf (loop_next (a.kids.length - (n + 1)) _ _ (by omega) (.cons (.refl _) (.cons (.refl _) (.cons (Vle.inc n rfl (by omega)) (.nil _)))) (List.Sublist.refl _) ⟨n + 1, rfl, h, rfl, ?_, rfl⟩)
      rw [List.range_succ, List.all_append, hall]
      simp [h6]
  · have h : n = a.kids.length := by
      have := of_decide_eq_false h
      rw [List.length_map] at this; omega
    subst h
    (conv => arg 2; whnf)
    refine wp_leaf (loop_exit ?_)
    (conv => arg 2; whnf); refine w_retp rfl (Vle.eq (cBool hall.symm))
end Go.Sv
/- The same conditions: one level. -/
namespace Go.Sv
open Go Go.Proofs

theorem exs_at {l : List Ex} {y : Ex} {n : Nat} (h : l[n]? = some y) : (l.map exV)[n]? = some (.agg (exC y)) := by rw [List.getElem?_map, h, ← exV_eq]; rfl

set_option maxRecDepth 100000 in
theorem equalfn_call (l l' : List Ex) (r : Nat → Bool) (hl : l.length < 2 ^ 60)
    (hr : ∀ n y z, l[n]? = some y → l'[n]? = some z → PCall Tryd.prog 106 [.agg (exC y), .agg (exC z)] (bV (r n))) :
    PCall Tryd.prog 126 [exsV l, exsV l', .fn (.func 106) [] []] (bV (decide (l.length = l'.length) && (List.range l.length).all r)) := by
  refine scall_of (live := []) (ords := []) Tryd.func126 rfl (by kernel_rfl) (by kernel_rfl) (Nat.le_of_ble_eq_true rfl) ?_
  (conv => arg 2; whnf); refine wp_ite (fun h1 => ?_) (fun h1 => ?_)
  · have h1 : l.length ≠ l'.length := by
      intro e
      simp [e] at h1
    (conv => arg 2; whnf); refine w_retp rfl (Vle.eq (cBool ?_))
    rw [decide_eq_false h1]; rfl
  have h1 : l.length = l'.length := by
    simp at h1
    omega
  rw [decide_eq_true h1, Bool.true_and]
  (conv => arg 2; whnf); refine wp_loop (fun m fr R => ∃ n : Nat, m = l.length - n ∧ n ≤ l.length ∧ R = [] ∧ (List.range n).all r = true ∧ fr = frL [(1, exsV l'), (2, .fn (.func 106) [] []), (15, exsV l), (16, i64V l.length), (17, i64V n)])
    l.length _ _ (.cons (.refl _) (.cons (.refl _) (.cons (.refl _) (.cons (Vle.eq ?_) (.cons (.refl _) (.nil _)))))) (List.Sublist.refl _) ⟨0, rfl, Nat.zero_le _, rfl, rfl, rfl⟩ ?_
  · show V.c (.int .i64 (l.map exV).length) = _
    rw [List.length_map]; rfl
  rintro m fr R ⟨n, rfl, hn, rfl, hall, rfl⟩
  (conv => arg 2; whnf); refine wp_ite (fun h => ?_) (fun h => ?_)
  · have h : n < l.length := by have := of_decide_eq_true h; omega
    obtain ⟨y, hy⟩ : ∃ y, l[n]? = some y := ⟨_, List.getElem?_eq_getElem h⟩
    obtain ⟨z, hz⟩ : ∃ z, l'[n]? = some z := ⟨_, List.getElem?_eq_getElem (by omega)⟩
    have hc := hr n y z hy hz
    (conv => arg 2; whnf); refine wp_elem n (.agg (exC y)) rfl (exs_at hy) (Vle.refl _) ?_
    (conv => arg 2; whnf); refine wp_allocE exZ rfl fun b => ?_
    (conv => arg 2; whnf); refine wp_storeE (cs := exZ) 0 0 (exC y) rfl rfl (VleL.refl _) (Nat.le_refl _) rfl (R' := [.obj b (exC y)]) rfl ?_
    (conv => arg 2; whnf); refine wp_elem n (.agg (exC z)) rfl (exs_at hz) (Vle.refl _) ?_
    (conv => arg 2; whnf); refine wp_allocE exZ rfl fun c => ?_
    (conv => arg 2; whnf); refine wp_storeE (cs := exZ) 1 0 (exC z) rfl rfl (VleL.refl _) (Nat.le_refl _) rfl (R' := [.obj b (exC y), .obj c (exC z)]) rfl ?_
    (conv => arg 2; whnf); refine wp_load (cs := exC y) 0 rfl rfl ?_
    (conv => arg 2; whnf); refine wp_load (cs := exC z) 1 rfl rfl ?_
    (conv => arg 2; whnf); refine wp_pcall hc ?_
    (conv => arg 2; whnf); refine wp_ite (fun h6 => ?_) (fun h6 => ?_)
    · have h6 : r n = false := by simpa using h6
      (conv => arg 2; whnf)
      refine wp_leaf (loop_ret ?_)
      (conv => arg 2; whnf); refine w_retp rfl (Vle.eq (cBool ?_))
      symm
      rw [List.all_eq_false]; exact ⟨n, List.mem_range.2 h, by simp [h6]⟩
    · have h6 : r n = true := by simpa using h6
      (conv => arg 2; whnf)
      refine wp_leaf (loop_next (l.length - (n + 1)) _ _ (by omega) (.cons (.refl _) (.cons (.refl _) (.cons (.refl _) (.cons (.refl _) (.cons (Vle.inc n rfl (by omega)) (.nil _)))))) (List.nil_sublist _) ⟨n + 1, rfl, h, rfl, ?_, rfl⟩)
      rw [List.range_succ, List.all_append, hall]
      simp [h6]
  · have h : n = l.length := by have := of_decide_eq_false h; omega
    subst h
    (conv => arg 2; whnf)
    refine wp_leaf (loop_exit ?_)
    (conv => arg 2; whnf); refine w_retp rfl (Vle.eq (cBool hall.symm))

theorem headB_split {a b : Ex} (h1 : a.op = b.op) (h2 : a.val = b.val) (h3 : a.al = b.al) (h4 : a.fd = b.fd) : headB a b = decide (a.kids.length = b.kids.length) := by
  rw [headB]; simp [h1, h2, h3, h4]

set_option maxRecDepth 100000 in
theorem same_step (a b : Ex) (r : Nat → Bool) (hl : a.kids.length < 2 ^ 60)
    (hr : ∀ n y z, a.kids[n]? = some y → b.kids[n]? = some z → PCall Tryd.prog 106 [.agg (exC y), .agg (exC z)] (bV (r n))) :
    PCall Tryd.prog 106 [.agg (exC a), .agg (exC b)] (bV (headB a b && (List.range a.kids.length).all r)) := by
  have hv := val_eqD a.val b.val
  have hal := strEq a.al b.al
  have hfd := strEq a.fd b.fd
  have he := equalfn_call a.kids b.kids r hl hr
  refine scall_of (live := []) (ords := []) Tryd.func106 rfl (by kernel_rfl) (by kernel_rfl) (Nat.le_of_ble_eq_true rfl) ?_
  (conv => arg 2; whnf); refine wp_ite (fun h1 => ?_) (fun h1 => ?no1)
  case no1 =>
    have h1 : a.op ≠ b.op := by simpa using h1
    (repeat ((conv => arg 2; whnf); first | refine wp_ite (fun _ => ?_) (fun h => Bool.noConfusion h) | refine wp_ite (fun h => Bool.noConfusion h) (fun _ => ?_)))
    (conv => arg 2; whnf); refine w_retp rfl (Vle.eq (cBool ?_))
    rw [headB_false (.inl h1)]; rfl
  have h1 : a.op = b.op := by simpa using h1
  (conv => arg 2; whnf); refine wp_need valEqB ?_
  (conv => arg 2; whnf); refine wp_ite (fun h2 => ?_) (fun h2 => ?no2)
  case no2 =>
    have h2 : a.val ≠ b.val := by
      rw [hv] at h2; simpa using h2
    (repeat ((conv => arg 2; whnf); first | refine wp_ite (fun _ => ?_) (fun h => Bool.noConfusion h) | refine wp_ite (fun h => Bool.noConfusion h) (fun _ => ?_)))
    (conv => arg 2; whnf); refine w_retp rfl (Vle.eq (cBool ?_))
    rw [headB_false (.inr (.inl h2))]; rfl
  have h2 : a.val = b.val := by
    rw [hv] at h2; simpa using h2
  (conv => arg 2; whnf); refine wp_ite (fun h3 => ?_) (fun h3 => ?no3)
  case no3 =>
    have h3 : a.al ≠ b.al := by
      rw [hal] at h3; simpa using h3
    (repeat ((conv => arg 2; whnf); first | refine wp_ite (fun _ => ?_) (fun h => Bool.noConfusion h) | refine wp_ite (fun h => Bool.noConfusion h) (fun _ => ?_)))
    (conv => arg 2; whnf); refine w_retp rfl (Vle.eq (cBool ?_))
    rw [headB_false (.inr (.inr (.inl h3)))]; rfl
  have h3 : a.al = b.al := by
    rw [hal] at h3; simpa using h3
  (conv => arg 2; whnf); refine wp_ite (fun h4 => ?_) (fun h4 => ?no4)
  case no4 =>
    have h4 : a.fd ≠ b.fd := by
      rw [hfd] at h4; simpa using h4
    (repeat ((conv => arg 2; whnf); first | refine wp_ite (fun _ => ?_) (fun h => Bool.noConfusion h) | refine wp_ite (fun h => Bool.noConfusion h) (fun _ => ?_)))
    (conv => arg 2; whnf); refine w_retp rfl (Vle.eq (cBool ?_))
    rw [headB_false (.inr (.inr (.inr (.inl h4))))]; rfl
  have h4 : a.fd = b.fd := by
    rw [hfd] at h4; simpa using h4
  (conv => arg 2; whnf); refine wp_pcall he ?_
  (conv => arg 2; whnf); refine w_retp rfl (Vle.eq (cBool ?_))
  rw [headB_split h1 h2 h3 h4]
end Go.Sv
/- Texts that rise. -/
namespace Go.Sv
open Go Go.Proofs

def ltS (x y : List UInt8) : Bool := Op.bytesLess (S x).toList (S y).toList
def riseB (l : List (List UInt8)) : Bool := (List.range (l.length - 1)).all fun i => ltS (l.getD i []) (l.getD (i + 1) [])
theorem getD_of {l : List (List UInt8)} {i : Nat} {x : List UInt8} (h : l[i]? = some x) : l.getD i [] = x := by rw [List.getD_eq_getElem?_getD, h]; rfl

set_option maxRecDepth 100000 in
theorem refrise_call (l : List (List UInt8)) (hl : l.length < 2 ^ 60) : PCall Tryd.prog 51 [.sl none (l.map str) .no] (bV (riseB l)) := by
  refine scall_of (live := []) (ords := []) Tryd.func51 rfl (by kernel_rfl) (by kernel_rfl) (Nat.le_of_ble_eq_true rfl) ?_
  (conv => arg 2; whnf); refine wp_loop (fun m fr R => ∃ n : Nat, m = l.length - n ∧ n ≤ l.length - 1 ∧ R = [] ∧ ((List.range n).all fun i => ltS (l.getD i []) (l.getD (i + 1) [])) = true ∧ fr = frL [(0, .sl none (l.map str) .no), (3, i64V (n + 1 : Nat))])
    l.length _ _ (.cons (.refl _) (.cons (.refl _) (.nil _))) (List.Sublist.refl _) ⟨0, rfl, Nat.zero_le _, rfl, rfl, rfl⟩ ?_
  rintro m fr R ⟨n, rfl, hn, rfl, hall, rfl⟩
  (conv => arg 2; whnf); refine wp_ite (fun h => ?_) (fun h => ?_)
  · have h : n + 1 < l.length := by
      have := of_decide_eq_true h
      rw [List.length_map] at this; omega
    obtain ⟨y, hy⟩ : ∃ y, l[n + 1]? = some y := ⟨_, List.getElem?_eq_getElem h⟩
    obtain ⟨x, hx⟩ : ∃ x, l[n]? = some x := ⟨_, List.getElem?_eq_getElem (by omega)⟩
    (conv => arg 2; whnf); refine wp_elem n (str x) (wsub (by omega : ((n + 1 : Nat) : Int) - 1 = (n : Int)) (by omega) (by omega)) (by rw [List.getElem?_map, hx]; rfl) (Vle.refl _) ?_
    (conv => arg 2; whnf); refine wp_elem (n + 1) (str y) rfl (by rw [List.getElem?_map, hy]; rfl) (Vle.refl _) ?_
    (conv => arg 2; whnf); refine wp_ite (fun h1 => ?_) (fun h1 => ?_)
    · have h1 : ltS x y = false := by simpa [ltS] using h1
      (conv => arg 2; whnf)
      refine wp_leaf (loop_ret ?_)
      (conv => arg 2; whnf); refine w_retp rfl (Vle.eq (cBool ?_))
      symm
      rw [riseB, List.all_eq_false]
      exact ⟨n, List.mem_range.2 (by omega), by rw [getD_of hx, getD_of hy, h1]; simp⟩
    · have h1 : ltS x y = true := by simpa [ltS] using h1
      (conv => arg 2; whnf)
      refine wp_leaf (loop_next (l.length - (n + 1)) _ _ (by omega) (.cons (.refl _) (.cons (Vle.inc (n + 1) rfl (by omega)) (.nil _))) (List.Sublist.refl _) ⟨n + 1, rfl, by omega, rfl, ?_, rfl⟩)
      rw [List.range_succ, List.all_append, hall]
      simp only [List.all_cons, List.all_nil]
      rw [getD_of hx, getD_of hy, h1]; rfl
  · have h : n = l.length - 1 := by
      have := of_decide_eq_false h
      rw [List.length_map] at this; omega
    subst h
    (conv => arg 2; whnf)
    refine wp_leaf (loop_exit ?_)
    (conv => arg 2; whnf); refine w_retp rfl (Vle.eq (cBool hall.symm))
end Go.Sv
/- Texts that rise, as the program has it. -/
namespace Go.Sv
open Go Go.Proofs

def pairsL (l : List (List UInt8)) : List (List V) := (List.range (l.length - 1)).map fun i => [str (l.getD i []), str (l.getD (i + 1) [])]
theorem pairs_at {l : List (List UInt8)} {n : Nat} (h : n < l.length - 1) : (pairsL l)[n]? = some [str (l.getD n []), str (l.getD (n + 1) [])] := by
  rw [pairsL, List.getElem?_map, List.getElem?_range h]; rfl

set_option maxRecDepth 100000 in
theorem pairs_call (l : List (List UInt8)) : PCall Tryd.prog 125 [.agg [.sl none (l.map str) .no]] (.fn (.func 138) [] [.pt (some 1) (.agg [.sl none (l.map str) .no]) 0]) := by
  refine scall_of (live := []) (ords := []) Tryd.func125 rfl (by kernel_rfl) (by kernel_rfl) (Nat.le_of_ble_eq_true rfl) ?_
  (conv => arg 2; whnf); refine w_retp rfl (Vle.eq ?_)
  rfl

set_option maxRecDepth 100000 in
theorem pairs_iter (l : List (List UInt8)) (hl : l.length < 2 ^ 60) : Iter Tryd.prog 138 [] [.pt (some 1) (.agg [.sl none (l.map str) .no]) 0] (pairsL l) := by
  refine ⟨⟨_, _, Tryd.func138, rfl, by kernel_rfl⟩, fun y I E R0 h0 hy => ?_⟩
  refine scall_of (live := [23]) (ords := []) Tryd.func138 rfl (by kernel_rfl) (by kernel_rfl) (Nat.le_of_ble_eq_true rfl) ?_
  (conv => arg 2; whnf); refine wp_loop (fun m fr R => ∃ n : Nat, m = l.length - n ∧ n ≤ l.length - 1 ∧ I n R ∧ fr = frL [(0, .fn (.yield y) [] []), (1, .pt (some 1) (.agg [.sl none (l.map str) .no]) 0), (3, i64V (n + 1 : Nat))])
    l.length _ _ (.cons (.refl _) (.cons (.refl _) (.cons (.refl _) (.nil _)))) (List.Sublist.refl _) ⟨0, rfl, Nat.zero_le _, h0, rfl⟩ ?_
  rintro m fr R ⟨n, rfl, hn, hI, rfl⟩
  (conv => arg 2; whnf); refine wp_ite (fun h => ?_) (fun h => ?_)
  · have h : n + 1 < l.length := by
      have := of_decide_eq_true h
      rw [List.length_map] at this; omega
    obtain ⟨b, hb⟩ : ∃ y, l[n + 1]? = some y := ⟨_, List.getElem?_eq_getElem h⟩
    obtain ⟨a, ha⟩ : ∃ x, l[n]? = some x := ⟨_, List.getElem?_eq_getElem (by omega)⟩
    have hp := pairs_at (l := l) (n := n) (by omega)
    rw [getD_of ha, getD_of hb] at hp
    (conv => arg 2; whnf); refine wp_elem n (str a) (wsub (by omega : ((n + 1 : Nat) : Int) - 1 = (n : Int)) (by omega) (by omega)) (by rw [List.getElem?_map, ha]; rfl) (Vle.refl _) ?_
    (conv => arg 2; whnf); refine wp_elem (n + 1) (str b) rfl (by rw [List.getElem?_map, hb]; rfl) (Vle.refl _) ?_
    (conv => arg 2; whnf); refine wp_yld (hy _ _ _ hp hI) ?_
    rintro b' R' (⟨rfl, hI2⟩ | ⟨rfl, hE⟩)
    · (repeat ((conv => arg 2; whnf); first | refine wp_ite (fun _ => ?_) (fun h => Bool.noConfusion h) | refine wp_ite (fun h => Bool.noConfusion h) (fun _ => ?_)))
      (conv => arg 2; whnf)
      refine wp_leaf (loop_next (l.length - (n + 1)) _ _ (by omega) (.cons (.refl _) (.cons (.refl _) (.cons (Vle.inc (n + 1) rfl (by omega)) (.nil _)))) (List.Sublist.refl _) ⟨n + 1, rfl, by omega, hI2, rfl⟩)
    · (repeat ((conv => arg 2; whnf); first | refine wp_ite (fun _ => ?_) (fun h => Bool.noConfusion h) | refine wp_ite (fun h => Bool.noConfusion h) (fun _ => ?_)))
      (conv => arg 2; whnf)
      refine wp_leaf (loop_ret ?_)
      (conv => arg 2; whnf); refine w_ret0 rfl (List.Sublist.refl _) (.inr hE)
  · have h : n = l.length - 1 := by
      have := of_decide_eq_false h
      rw [List.length_map] at this; omega
    subst h
    (conv => arg 2; whnf)
    refine wp_leaf (loop_exit ?_)
    (conv => arg 2; whnf); refine w_norm0 rfl (List.Sublist.refl _) (.inl ?_)
    rw [pairsL, List.length_map, List.length_range]; exact hI

set_option maxRecDepth 100000 in
theorem rise_call (l : List (List UInt8)) (hl : l.length < 2 ^ 60) : PCall Tryd.prog 105 [.sl none (l.map str) .no] (bV (riseB l)) := by
  have hit := pairs_iter l hl
  refine scall_of (live := []) (ords := []) Tryd.func105 rfl (by kernel_rfl) (by kernel_rfl) (Nat.le_of_ble_eq_true rfl) ?_
  (conv => arg 2; whnf); refine wp_allocE [bV false] rfl fun c => ?_
  (conv => arg 2; whnf); refine wp_pcall (pairs_call l) ?_
  (conv => arg 2; whnf); refine wp_range hit (fun i R' => R' = [.obj c [bV false]] ∧ ((List.range i).all fun i => ltS (l.getD i []) (l.getD (i + 1) [])) = true) ⟨rfl, rfl⟩ ?_ ?_ ?_
  · intro i args hi
    rw [pairsL, List.getElem?_map, Option.map_eq_some_iff] at hi
    obtain ⟨z, _, rfl⟩ := hi
    rfl
  · rintro i args R1 hi ⟨rfl, hall⟩
    have hlt : i < l.length - 1 := by
      have := (List.getElem?_eq_some_iff.1 hi).1
      rw [pairsL, List.length_map, List.length_range] at this; exact this
    rw [pairs_at hlt] at hi
    obtain rfl := Option.some.inj hi
    (conv => arg 2; whnf); refine wp_ite (fun h1 => ?_) (fun h1 => ?_)
    · have h1 : ltS (l.getD i []) (l.getD (i + 1) []) = false := by simpa [ltS] using h1
      (conv => arg 2; whnf); refine wp_storeE (cs := [bV false]) 0 0 [bV false] rfl rfl (VleL.refl _) (Nat.le_refl _) rfl (R' := [.obj c [bV false]]) rfl ?_
      (conv => arg 2; whnf)
      refine wp_leaf ?_
      show (Tree.leaf Exit.ret _).wp Tryd.prog _ (Ends _ _ _)
      refine w_ret1c c 0 0 rfl rfl rfl rfl rfl (Vle.eq (cBool ?_))
      symm
      rw [riseB, List.all_eq_false]
      exact ⟨i, List.mem_range.2 hlt, by rw [h1]; simp⟩
    · have h1 : ltS (l.getD i []) (l.getD (i + 1) []) = true := by simpa [ltS] using h1
      (conv => arg 2; whnf)
      refine wp_leaf ⟨rfl, ?_⟩
      rw [List.range_succ, List.all_append, hall]
      simp only [List.all_cons, List.all_nil]
      rw [h1]; rfl
  · rintro R1 ⟨rfl, hall⟩
    rw [pairsL, List.length_map, List.length_range] at hall
    (conv => arg 2; whnf); refine wp_storeE (cs := [bV false]) 0 0 [bV true] rfl rfl (VleL.refl _) (Nat.le_refl _) rfl (R' := [.obj c [bV true]]) rfl ?_
    (conv => arg 2; whnf); refine w_ret1c c 0 0 rfl rfl rfl rfl rfl (Vle.eq (cBool hall.symm))
end Go.Sv
/- The same texts, as the reference has it. -/
namespace Go.Sv
open Go Go.Proofs

theorem take_next {l m : List (List UInt8)} {n : Nat} {x : List UInt8} (h : l.take n = m.take n) (hx : l[n]? = some x) (hy : m[n]? = some x) : l.take (n + 1) = m.take (n + 1) := by
  rw [List.take_add_one, List.take_add_one, h, hx, hy]

set_option maxRecDepth 100000 in
theorem sametexts_call (l m : List (List UInt8)) (hl : l.length < 2 ^ 60) : PCall Tryd.prog 77 [.sl none (l.map str) .no, .sl none (m.map str) .no] (bV (decide (l = m))) := by
  refine scall_of (live := []) (ords := []) Tryd.func77 rfl (by kernel_rfl) (by kernel_rfl) (Nat.le_of_ble_eq_true rfl) ?_
  (conv => arg 2; whnf); refine wp_ite (fun h1 => ?_) (fun h1 => ?_)
  · have h1 : l.length ≠ m.length := by
      intro e
      simp [e] at h1
    (conv => arg 2; whnf); refine w_retp rfl (Vle.eq (cBool ?_))
    symm
    exact decide_eq_false (fun e => h1 (by rw [e]))
  have h1 : l.length = m.length := by
    simp at h1
    omega
  (conv => arg 2; whnf); refine wp_loop (fun k fr R => ∃ n : Nat, k = l.length - n ∧ n ≤ l.length ∧ R = [] ∧ l.take n = m.take n ∧ fr = frL [(0, .sl none (l.map str) .no), (1, .sl none (m.map str) .no), (5, i64V n)])
    l.length _ _ (.cons (.refl _) (.cons (.refl _) (.cons (.refl _) (.nil _)))) (List.Sublist.refl _) ⟨0, rfl, Nat.zero_le _, rfl, rfl, rfl⟩ ?_
  rintro k fr R ⟨n, rfl, hn, rfl, ht, rfl⟩
  (conv => arg 2; whnf); refine wp_ite (fun h => ?_) (fun h => ?_)
  · have h : n < l.length := by
      have := of_decide_eq_true h
      rw [List.length_map] at this; omega
    obtain ⟨x, hx⟩ : ∃ x, l[n]? = some x := ⟨_, List.getElem?_eq_getElem h⟩
    obtain ⟨y, hy⟩ : ∃ y, m[n]? = some y := ⟨_, List.getElem?_eq_getElem (by omega)⟩
    have hxy := strEq x y
    (conv => arg 2; whnf); refine wp_elem n (str x) rfl (by rw [List.getElem?_map, hx]; rfl) (Vle.refl _) ?_
    (conv => arg 2; whnf); refine wp_elem n (str y) rfl (by rw [List.getElem?_map, hy]; rfl) (Vle.refl _) ?_
    (conv => arg 2; whnf); refine wp_ite (fun h2 => ?_) (fun h2 => ?_)
    · have h2 : x ≠ y := by
        rw [hxy] at h2; simpa using h2
      (conv => arg 2; whnf)
      refine wp_leaf (loop_ret ?_)
      (conv => arg 2; whnf); refine w_retp rfl (Vle.eq (cBool ?_))
      symm
      exact decide_eq_false (fun e => h2 (by subst e; exact Option.some.inj (hx.symm.trans hy)))
    · have h2 : x = y := by
        rw [hxy] at h2; simpa using h2
      subst h2
      (conv => arg 2; whnf)
      refine wp_leaf (loop_next (l.length - (n + 1)) _ _ (by omega) (.cons (.refl _) (.cons (.refl _) (.cons (Vle.inc n rfl (by omega)) (.nil _)))) (List.Sublist.refl _) ⟨n + 1, rfl, h, rfl, take_next ht hx hy, rfl⟩)
  · have h : n = l.length := by
      have := of_decide_eq_false h
      rw [List.length_map] at this; omega
    subst h
    have e : l = m := by
      rw [List.take_length] at ht
      rw [ht, h1, List.take_length]
    (conv => arg 2; whnf)
    refine wp_leaf (loop_exit ?_)
    (conv => arg 2; whnf); refine w_retp rfl (Vle.eq (cBool (decide_eq_true e).symm))
end Go.Sv
/- Texts written in quotes and read. -/
namespace Go.Sv
open Go

def escB (c : UInt8) : List UInt8 := if c = 34 ∨ c = 92 then [92, c] else [c]
def esc (s : List UInt8) : List UInt8 := s.flatMap escB
theorem esc_app (s : List UInt8) (c : UInt8) : esc (s ++ [c]) = esc s ++ escB c := by simp [esc]
theorem textR_esc : ∀ (s out : List UInt8), textR out (esc s ++ [34]) =
    if s.all okCh then (if 16 < out.length + s.length then .error 12 else .ok (out ++ s, (esc s).length + 1)) else .error 21
  | [], out => by rw [show esc [] ++ [34] = [34] from rfl, textR_34]; simp [esc]
  | c :: s, out => by
    have ih := textR_esc s (out ++ [c])
    have e1 : esc (c :: s) ++ [34] = escB c ++ (esc s ++ [34]) := by simp [esc]
    have e2 : (esc (c :: s)).length = (escB c).length + (esc s).length := by simp [esc]
    have hl : (out ++ [c]).length + s.length = out.length + (c :: s).length := by simp; omega
    rw [hl] at ih
    rw [e1, e2]
    by_cases hq : c = 34 ∨ c = 92
    · have hok : okCh c = true := by rcases hq with rfl | rfl <;> rfl
      rw [escB, if_pos hq]
      show textR out (92 :: c :: (esc s ++ [34])) = _
      rw [textR_92, if_pos hq, ih, List.all_cons, hok, Bool.true_and]
      split
      · split
        · rfl
        · simp [addN]; omega
      · rfl
    · rw [escB, if_neg hq]
      show textR out (c :: (esc s ++ [34])) = _
      rw [textR_c _ _ (fun h => hq (.inl h)) (fun h => hq (.inr h)), List.all_cons]
      cases hok : okCh c with
      | false => rw [if_neg (by simpa [okCh] using hok)]; simp
      | true =>
        rw [if_pos (by simpa [okCh] using hok), ih, Bool.true_and]
        split
        · split
          · rfl
          · simp [addN]; omega
        · rfl
def quoted (s : List UInt8) : List UInt8 := 34 :: (esc s ++ [34])
theorem cut_quoted (s : List UInt8) : cutW (quoted s) = if s.all okCh then (if 16 < s.length then .error 12 else .ok [⟨3, s, 0, 0⟩]) else .error 21 := by
  have h := textR_esc s []
  rw [List.length_nil, Nat.zero_add, List.nil_append] at h
  have hx : nextR (quoted s) = textE (textR [] (esc s ++ [34])) := by
    rw [quoted, nextR_cons, if_neg (by decide), if_neg (by decide), if_neg (by simp [isDg]), if_pos (by decide)]; rfl
  have hi : itemsF (quoted s).length 0 (quoted s) = match nextR (quoted s) with
      | .error e => [(wd0, some e)]
      | .ok x => (x.wd 0, none) :: itemsF (esc s ++ [34]).length (0 + x.len) ((quoted s).drop x.len) := rfl
  rw [cutW, hi, hx, h]
  cases s.all okCh with
  | false => rfl
  | true =>
    by_cases h16 : 16 < s.length
    · rw [if_pos rfl, if_pos rfl, if_pos h16, if_pos h16]; rfl
    · have hd : (quoted s).drop ((esc s).length + 1 + 1) = [] := List.drop_eq_nil_of_le (by simp [quoted])
      rw [if_pos rfl, if_pos rfl, if_neg h16, if_neg h16]
      show collect [] ((⟨3, s, 0, 0⟩, none) :: itemsF (esc s ++ [34]).length _ ((quoted s).drop ((esc s).length + 1 + 1))) = _
      rw [hd]
      cases (esc s ++ [34]).length <;> rfl
end Go.Sv
/- Numbers written and read. -/
namespace Go.Sv
open Go

/-- A number, digit by digit. -/
def natD (n : Nat) : List UInt8 := if h : n < 10 then [UInt8.ofNat (48 + n)] else natD (n / 10) ++ [UInt8.ofNat (48 + n % 10)]
termination_by n
decreasing_by omega
def decD (n : Int) : List UInt8 := if n < 0 then 45 :: natD n.natAbs else natD n.natAbs
def digV : Nat → List UInt8 → Nat
  | acc, [] => acc
  | acc, c :: l => digV (acc * 10 + (c.toNat - 48)) l
theorem digV_le : ∀ (l : List UInt8) (acc : Nat), acc ≤ digV acc l
  | [], _ => Nat.le_refl _
  | c :: l, acc => by
    exact Nat.le_trans (by omega) (digV_le l (acc * 10 + (c.toNat - 48)))
theorem digV_app : ∀ (l : List UInt8) (acc : Nat) (c : UInt8), digV acc (l ++ [c]) = digV acc l * 10 + (c.toNat - 48)
  | [], _, _ => rfl
  | d :: l, acc, c => digV_app l (acc * 10 + (d.toNat - 48)) c
theorem digB (n : Nat) (h : n < 10) : (UInt8.ofNat (48 + n)).toNat = 48 + n := by rw [UInt8.toNat_ofNat']; omega
theorem natD_dig (n : Nat) : (∀ c ∈ natD n, isDg c = true) ∧ natD n ≠ [] ∧ digV 0 (natD n) = n := by
  induction n using Nat.strongRecOn with
  | _ n ih =>
    rw [natD]
    split
    · rename_i h
      refine ⟨fun c hc => ?_, by simp, ?_⟩
      · rw [List.mem_singleton.1 hc]
        rw [isDg, digB n h, decide_eq_true (by omega), decide_eq_true (by omega)]; rfl
      · show 0 * 10 + ((UInt8.ofNat (48 + n)).toNat - 48) = n
        rw [digB n h]; omega
    · rename_i h
      obtain ⟨h1, h2, h3⟩ := ih (n / 10) (by omega)
      refine ⟨fun c hc => ?_, by simp, ?_⟩
      · rcases List.mem_append.1 hc with hc | hc
        · exact h1 c hc
        · rw [List.mem_singleton.1 hc]
          rw [isDg, digB (n % 10) (by omega), decide_eq_true (by omega), decide_eq_true (by omega)]; rfl
      · rw [digV_app, h3, digB _ (by omega)]; omega
theorem parse_digits : ∀ (l : List UInt8) (acc : Nat), (∀ c ∈ l, isDg c = true) → digV acc l ≤ 2 ^ 63 → Lib.parseUintM (2 ^ 64 - 1) acc l = .ok (digV acc l)
  | [], _, _, _ => rfl
  | c :: l, acc, h, hv => by
    have hc : 48 ≤ c.toNat ∧ c.toNat ≤ 57 := by simpa [isDg] using h c (by simp)
    have hv' : digV (acc * 10 + (c.toNat - 48)) l ≤ 2 ^ 63 := hv
    have h1 := Nat.le_trans (digV_le l (acc * 10 + (c.toNat - 48))) hv'
    have hr := parse_digits l _ (fun d hd => h d (by simp [hd])) hv'
    clear hv hv'
    rw [Lib.parseUintM, if_pos hc, if_neg (by omega), if_neg (by omega)]
    exact hr
theorem span_all {p : UInt8 → Bool} : ∀ {l : List UInt8}, (∀ c ∈ l, p c = true) → spanN p l = l.length
  | [], _ => rfl
  | c :: l, h => by rw [spanN_cons (h c (by simp)), span_all fun d hd => h d (by simp [hd])]; rfl
theorem parse_dec (n : Int) (h1 : -9223372036854775808 ≤ n) (h2 : n < 9223372036854775808) : Lib.parseIntB 64 (decD n) = .ok n := by
  obtain ⟨d1, d2, d3⟩ := natD_dig n.natAbs
  have hp := parse_digits (natD n.natAbs) 0 d1 (by rw [d3]; omega)
  rw [d3] at hp
  unfold decD
  split
  · rename_i h
    rw [Lib.parseIntB]
    rw [if_pos (.inr rfl), Lib.parseUintB, if_neg d2, hp]
    simp only
    rw [if_neg (by simp), if_neg (by omega), if_pos (by decide)]
    congr 1; omega
  · rename_i h
    cases hl : natD n.natAbs with
    | nil => exact absurd hl d2
    | cons c r =>
      have hc : 48 ≤ c.toNat ∧ c.toNat ≤ 57 := by simpa [isDg] using d1 c (by rw [hl]; simp)
      rw [hl] at hp
      rw [Lib.parseIntB]
      rw [if_neg (by omega), Lib.parseUintB, if_neg (by simp), hp]
      simp only
      rw [if_neg (by omega), if_neg (by omega), if_neg (by omega)]
      congr 1; omega
theorem dec_shape (n : Int) : ∃ c r, decD n = c :: r ∧ (∀ d ∈ r, isDg d = true) ∧ (isDg c = true ∨ (c = 45 ∧ r ≠ [])) := by
  obtain ⟨d1, d2, d3⟩ := natD_dig n.natAbs
  unfold decD
  split
  · exact ⟨45, _, rfl, d1, .inr ⟨rfl, d2⟩⟩
  · cases hl : natD n.natAbs with
    | nil => exact absurd hl d2
    | cons c r =>
      rw [hl] at d1
      exact ⟨c, r, rfl, fun d hd => d1 d (by simp [hd]), .inl (d1 c (by simp))⟩
theorem dg_not {c : UInt8} (h : isDg c = true) : isSm c = false ∧ isGr c = false ∧ c ≠ 32 := by
  have hc : 48 ≤ c.toNat ∧ c.toNat ≤ 57 := by simpa [isDg] using h
  refine ⟨by simp [isSm]; omega, by simp [isGr]; omega, ?_⟩
  rintro rfl; revert hc; decide
theorem cut_dec (n : Int) (h1 : -9223372036854775808 ≤ n) (h2 : n < 9223372036854775808) : cutW (decD n) = .ok [⟨2, [], n, 0⟩] := by
  have hp := parse_dec n h1 h2
  obtain ⟨c, r, e, hr, hc⟩ := dec_shape n
  rw [e] at hp ⊢
  have hn : numR (c :: r) = .ok ⟨2, [], n, (c :: r).length⟩ := by
    rw [numR, List.drop_succ_cons, List.drop_zero, span_all hr, List.take_of_length_le (by simp; omega), hp]
    simp [numE, Nat.add_comm]
  have hx : nextR (c :: r) = .ok ⟨2, [], n, (c :: r).length⟩ := by
    rw [nextR_cons]
    rcases hc with hc | ⟨rfl, hne⟩
    · obtain ⟨a1, a2, _⟩ := dg_not hc
      rw [a1, a2, hc, if_neg (by decide), if_neg (by decide), if_pos (Bool.true_or _), hn]
    · cases r with
      | nil => exact absurd rfl hne
      | cons d r' =>
        rw [if_neg (by decide), if_neg (by decide), if_pos (by simp [hr d (by simp)]), hn]
  have hne : c ≠ 32 := by
    rcases hc with hc | ⟨rfl, _⟩
    · exact (dg_not hc).2.2
    · decide
  have hi : itemsF (c :: r).length 0 (c :: r) = [(⟨2, [], n, 0⟩, none)] := by
    show itemsF (r.length + 1) 0 (c :: r) = _
    rw [show itemsF (r.length + 1) 0 (c :: r) = if c = 32 then itemsF r.length (0 + 1) r else match nextR (c :: r) with
      | .error e => [(wd0, some e)]
      | .ok x => (x.wd 0, none) :: itemsF r.length (0 + x.len) ((c :: r).drop x.len) from rfl, if_neg hne, hx]
    simp only
    rw [List.drop_length]
    cases r.length <;> rfl
  rw [cutW, hi]; rfl
end Go.Sv
/- Patterns and all texts, as plain functions. -/
namespace Go.Sv
open Go

def trueL : List UInt8 := [84, 82, 85, 69]
def falseL : List UInt8 := [70, 65, 76, 83, 69]
def showV (v : Val) : List UInt8 :=
  if valIs v then (if v.kind = 1 then decD v.n else if v.kind = 2 then quoted v.s else if v.n = 1 then trueL else falseL) else []
theorem showV_no {v : Val} (h : valIs v = false) : showV v = [] := by rw [showV, h]; rfl
theorem showV_1 {v : Val} (h : valIs v = true) (h1 : v.kind = 1) : showV v = decD v.n := by rw [showV, if_pos h, if_pos h1]
theorem showV_2 {v : Val} (h : valIs v = true) (h1 : v.kind = 2) : showV v = quoted v.s := by rw [showV, if_pos h, if_neg (by omega), if_pos h1]
theorem showV_t {v : Val} (h : valIs v = true) (h1 : v.kind ≠ 1) (h2 : v.kind ≠ 2) (h3 : v.n = 1) : showV v = trueL := by rw [showV, if_pos h, if_neg h1, if_neg h2, if_pos h3]
theorem showV_f {v : Val} (h : valIs v = true) (h1 : v.kind ≠ 1) (h2 : v.kind ≠ 2) (h3 : v.n ≠ 1) : showV v = falseL := by rw [showV, if_pos h, if_neg h1, if_neg h2, if_neg h3]

theorem natD_len : ∀ (k n : Nat), n < 10 ^ (k + 1) → (natD n).length ≤ k + 1
  | 0, n, h => by rw [natD, dif_pos (by omega)]; simp
  | k + 1, n, h => by
    rw [natD]
    split
    · simp
    · have := natD_len k (n / 10) (by rw [Nat.pow_succ] at h; omega)
      simp only [List.length_append, List.length_cons, List.length_nil]; omega
theorem decD_len21 (n : Int) (h1 : -9223372036854775808 ≤ n) (h2 : n < 9223372036854775808) : (decD n).length ≤ 21 := by
  have := natD_len 19 n.natAbs (by omega)
  unfold decD
  split
  · rw [List.length_cons]; omega
  · omega
theorem escB_len (c : UInt8) : (escB c).length ≤ 2 := by unfold escB; split <;> simp
theorem esc_len : ∀ s : List UInt8, (esc s).length ≤ 2 * s.length
  | [] => by simp [esc]
  | c :: s => by
    have h := esc_len s
    have h2 := escB_len c
    have : esc (c :: s) = escB c ++ esc s := by simp [esc]
    rw [this, List.length_append, List.length_cons]; omega
theorem showV_len (v : Val) (h : ValSm v) : (showV v).length ≤ 2 ^ 42 := by
  obtain ⟨h0, h1, h2⟩ := h
  unfold showV
  split
  · split
    · have := decD_len21 v.n h1 h2; omega
    · split
      · have := esc_len v.s
        simp only [quoted, List.length_cons, List.length_append, List.length_nil]; omega
      · split <;> decide
  · simp

/-- An element; a pattern. -/
structure El where
  al : List UInt8
  ty : List (List UInt8)
  plus : Bool
  nt : Bool
  cond : Ex
structure Pa where
  els : List El
  within : Int
  by_ : List UInt8
  any : Bool
def el0 : El := ⟨[], [], false, false, ex0⟩
def elC (e : El) : List V := str e.al :: .sl none (e.ty.map str) .no :: bV e.plus :: bV e.nt :: exC e.cond
def elV (e : El) : V := .agg (elC e)
def elsV (l : List El) : V := .sl (some 11) (l.map elV) .no
def paC (p : Pa) : List V := [elsV p.els, i64V p.within, str p.by_, bV p.any]

def zeroB (x : Ex) : Bool := headB x ex0
theorem zeroB_iff {x : Ex} : zeroB x = true ↔ x = ex0 := by
  obtain ⟨o, v, a, f, l⟩ := x
  constructor
  · intro h
    simp only [zeroB, headB, Bool.and_eq_true] at h
    obtain ⟨h1, h2, h3, h4, h5⟩ := h
    have e1 : o = 0 := of_decide_eq_true h1
    have e2 : v = val0 := of_decide_eq_true h2
    have e3 : a = [] := of_decide_eq_true h3
    have e4 : f = [] := of_decide_eq_true h4
    have h6 : l.length = 0 := of_decide_eq_true h5
    have e5 : l = [] := List.length_eq_zero_iff.1 h6
    rw [e1, e2, e3, e4, e5]; rfl
  · intro h; rw [h]; rfl
theorem zeroB_0 : zeroB ex0 = true := zeroB_iff.2 rfl

/-- What an element may be, by itself; where it stands. -/
def isElB (e : El) : Bool := isNm e.al && (decide (1 ≤ e.ty.length) && (decide (e.ty.length ≤ 3) && (riseB e.ty && (!(e.plus && e.nt) && (e.ty.all isNm && (zeroB e.cond || isExB e.cond))))))
def twiceB (l : List El) (i : Nat) (a : List UInt8) : Bool := (l.take i).any fun x => decide (x.al = a)
def ntAt (l : List El) (i : Nat) : Bool := (l.map (·.nt)).getD i false
def okAtB (l : List El) (i : Nat) (e : El) : Bool := isElB e && (!twiceB l i e.al && !(e.nt && (decide (0 < i) && ntAt l (i - 1))))
def isPaB (p : Pa) : Bool :=
  decide (1 ≤ p.els.length) && (decide (p.els.length ≤ 5) && (!ntAt p.els 0 && (!ntAt p.els (p.els.length - 1) && (decide (0 ≤ p.within) && (decide (p.within ≤ 1000) && ((decide (p.by_ = []) || isNm p.by_) &&
    (List.range p.els.length).all fun i => okAtB p.els i (p.els.getD i el0)))))))

/-- Texts. -/
def elT (e : El) : List UInt8 :=
  (if e.nt then [33] else []) ++ (e.al ++ [58] ++ Lib.join e.ty [124] ++ (if e.plus then [43] else []) ++ (if e.cond.op = 0 then [] else [91] ++ toldN showV 5 e.cond ++ [93]))
def seqL : List UInt8 := [83, 69, 81, 40]
def withinL : List UInt8 := [41, 32, 87, 73, 84, 72, 73, 78, 32]
def byL : List UInt8 := [32, 66, 89, 32]
def anyL : List UInt8 := [32, 65, 78, 89]
def paT (p : Pa) : List UInt8 :=
  seqL ++ Lib.join (p.els.map elT) [44, 32] ++ withinL ++ decD p.within ++ (if p.by_ = [] then [] else byL ++ p.by_) ++ (if p.any then anyL else [])
end Go.Sv
