/- Parts of the proof, one behind the other. -/
import Derived.Test.YtonnbjcbjjigiaaGreatDoorMgRowStepTells11
import Derived.Test.YtonnbjcbjjigiaaGreatDoorMgRowStepTells8
import Derived.Test.YtonnbjcbjjigiaaGreatDoorMgRowStepTells7
import Derived.Test.YtonnbjcbjjigiaaGreatDoorMgRowStepTells10
namespace Go.Sv
open Go Go.Proofs
theorem cmpI_lt {x y : Int} : cmpI x y < 0 ↔ x < y := by
  rcases cmpI_cases x y with ⟨h, e⟩ | ⟨h, e⟩ | ⟨h, e⟩ <;> rw [e] <;> simp <;> omega
theorem cmpI_ne {x y : Int} : cmpI x y ≠ 0 ↔ x ≠ y := by
  rcases cmpI_cases x y with ⟨h, e⟩ | ⟨h, e⟩ | ⟨h, e⟩ <;> rw [e] <;> simp <;> omega
theorem ordR_cons (x y : Bd) (a b : List Bd) : ordR (x :: a) (y :: b) = orI (ordBd x y) (ordR a b) := rfl
theorem less_at {x y : Bd} {a b : List Bd} (h : x.at_ ≠ y.at_) : lessR (x :: a) (y :: b) = decide (x.at_ < y.at_) := by
  have h1 : cmpI x.at_ y.at_ ≠ 0 := cmpI_ne.2 h
  have h2 : ordBd x y = cmpI x.at_ y.at_ := if_pos h1
  rw [lessR, ordR_cons, h2, show orI (cmpI x.at_ y.at_) (ordR a b) = cmpI x.at_ y.at_ from if_pos h1]
  rw [Bool.eq_iff_iff, decide_eq_true_iff, decide_eq_true_iff, cmpI_lt]
theorem less_el {x y : Bd} {a b : List Bd} (h : x.at_ = y.at_) (h' : x.elem ≠ y.elem) : lessR (x :: a) (y :: b) = decide ((x.elem : Int) < y.elem) := by
  have h0 : ¬ cmpI x.at_ y.at_ ≠ 0 := fun e => cmpI_ne.1 e h
  have h1 : cmpI (x.elem : Int) y.elem ≠ 0 := cmpI_ne.2 (by omega)
  have h2 : ordBd x y = cmpI x.elem y.elem := if_neg h0
  rw [lessR, ordR_cons, h2, show orI (cmpI (x.elem : Int) y.elem) (ordR a b) = cmpI x.elem y.elem from if_pos h1]
  rw [Bool.eq_iff_iff, decide_eq_true_iff, decide_eq_true_iff, cmpI_lt]
theorem less_eq {x y : Bd} {a b : List Bd} (h : x.at_ = y.at_) (h' : x.elem = y.elem) : lessR (x :: a) (y :: b) = lessR a b := by
  have h2 : ordBd x y = 0 := ordBd_zero.2 (by cases x; cases y; simp at h h'; simp [h, h'])
  rw [lessR, ordR_cons, h2]; rfl
theorem less_end {a b : List Bd} (h : a = [] ∨ b = []) : lessR a b = decide ((a.length : Int) < b.length) := by
  rcases h with rfl | rfl
  · cases b with
    | nil => rfl
    | cons y b =>
      have : ((0 : Nat) : Int) < ((y :: b).length : Int) := by simp only [List.length_cons]; omega
      rw [List.length_nil, decide_eq_true this]; rfl
  · cases a with
    | nil => rfl
    | cons x a =>
      have : ¬ ((x :: a).length : Int) < ((0 : Nat) : Int) := by simp only [List.length_cons]; omega
      rw [List.length_nil, decide_eq_false this]; rfl
set_option maxRecDepth 100000 in
set_option maxHeartbeats 2000000 in
theorem rless_call (a b : List Bd) (ha : a.length < 2 ^ 60) (hb : b.length < 2 ^ 60) : PCall Tryz.prog 59 [bdsV a, bdsV b] (bV (lessR a b)) := by
  refine scall_of (live := []) (ords := [(4, []), (8, [])]) Tryz.func59 rfl (by kernel_rfl) (by kernel_rfl) (Nat.le_of_ble_eq_true rfl) ?_
  (conv=>arg 2;whnf);refine wp_loop (fun m fr R => ∃ n : Nat, m = a.length - n ∧ n ≤ a.length ∧ n ≤ b.length ∧ R = [] ∧ lessR a b = lessR (a.drop n) (b.drop n) ∧ fr = frL [(0, bdsV a), (1, bdsV b), (5, i64V n)])
    a.length _ _ (.cons (.refl _) (.cons (.refl _) (.cons (.refl _) (.nil _)))) (List.Sublist.refl _) ⟨0, rfl, Nat.zero_le _, Nat.zero_le _, rfl, rfl, rfl⟩ ?_
  rintro m fr R ⟨n, rfl, hna, hnb, rfl, hl, rfl⟩
  have hend : n = a.length ∨ n = b.length → decide (((a.map bdV).length : Int) < ((b.map bdV).length : Int)) = lessR a b := fun h => by
    rw [hl, less_end (h.imp (fun e => by rw [e, List.drop_length]) (fun e => by rw [e, List.drop_length])), List.length_drop, List.length_drop, List.length_map, List.length_map]
    rw [Bool.eq_iff_iff, decide_eq_true_iff, decide_eq_true_iff]; omega
  apply @wp_joinT _ (decide (((a.map bdV).length : Int) < ((b.map bdV).length : Int)) = lessR a b → _)
  case h1 =>
    intro rest
    (conv=>arg 2;whnf);refine wp_ite (fun h => ?_) (fun h => ?_)
    · have h : n < a.length := by
        have := of_decide_eq_true h
        rw [List.length_map] at this; omega
      (conv=>arg 2;whnf);refine wp_ite (fun hq => ?_) (fun hq => ?_)
      · have h' : n < b.length := by
          have := of_decide_eq_true hq
          rw [List.length_map] at this; omega
        obtain ⟨x, hx⟩ : ∃ x, a[n]? = some x := ⟨_, List.getElem?_eq_getElem h⟩
        obtain ⟨y, hy⟩ : ∃ y, b[n]? = some y := ⟨_, List.getElem?_eq_getElem h'⟩
        rw [drop_at hx, drop_at hy] at hl
        (conv=>arg 2;whnf)
        refine wp_cutR (frL [(0, bdsV a), (1, bdsV b), (5, i64V n)]) [] (.cons (.refl _) (.cons (.refl _) (.cons (.refl _) (.nil _)))) (List.nil_sublist _) ?_
        (conv=>arg 2;whnf);refine wp_elem n (bdV x) rfl (bds_at hx) (Vle.refl _) ?_
        (conv=>arg 2;whnf);refine wp_elem n (bdV y) rfl (bds_at hy) (Vle.refl _) ?_
        (conv=>arg 2;whnf);refine wp_ite (fun h1 => ?_) (fun h1 => ?_)
        · have h1 : x.at_ ≠ y.at_ := bne_iff_ne.1 h1
          have hr := hl.trans (less_at h1)
          (conv=>arg 2;whnf);refine wp_elem n (bdV x) rfl (bds_at hx) (Vle.refl _) ?_
          (conv=>arg 2;whnf);refine wp_elem n (bdV y) rfl (bds_at hy) (Vle.refl _) ?_
          (conv=>arg 2;whnf)
          refine wp_leaf (loop_ret ?_)
          (conv=>arg 2;whnf);refine w_ret1 rfl (Vle.eq (cBool hr.symm)) (List.nil_sublist _) rfl
        · have h1 : x.at_ = y.at_ := bne_eq_false_iff_eq.1 h1
          (conv=>arg 2;whnf);refine wp_elem n (bdV x) rfl (bds_at hx) (Vle.refl _) ?_
          (conv=>arg 2;whnf);refine wp_elem n (bdV y) rfl (bds_at hy) (Vle.refl _) ?_
          (conv=>arg 2;whnf);refine wp_ite (fun h2 => ?_) (fun h2 => ?_)
          · have h2 : x.elem ≠ y.elem := fun e => bne_iff_ne.1 h2 (by rw [e])
            have hr := hl.trans (less_el h1 h2)
            (conv=>arg 2;whnf);refine wp_elem n (bdV x) rfl (bds_at hx) (Vle.refl _) ?_
            (conv=>arg 2;whnf);refine wp_elem n (bdV y) rfl (bds_at hy) (Vle.refl _) ?_
            (conv=>arg 2;whnf)
            refine wp_leaf (loop_ret ?_)
            (conv=>arg 2;whnf);refine w_ret1 rfl (Vle.eq (cBool hr.symm)) (List.nil_sublist _) rfl
          · have h2 : x.elem = y.elem := by have := bne_eq_false_iff_eq.1 h2; omega
            have hr := hl.trans (less_eq h1 h2)
            (conv=>arg 2;whnf)
            exact wp_leaf (loop_next (a.length - (n + 1)) _ [] (by omega) (.cons (.refl _) (.cons (.refl _) (.cons (Vle.inc n rfl (by omega)) (.nil _)))) (List.Sublist.refl _) ⟨n + 1, rfl, h, h', rfl, hr, rfl⟩)
      · have h' : n = b.length := by
          have := of_decide_eq_false hq
          rw [List.length_map] at this; omega
        (conv=>arg 2;whnf)
        refine wp_leaf (loop_exit ?_)
        (conv=>arg 2;whnf)
        exact wp_cutR (frL [(0, bdsV a), (1, bdsV b)]) [] (.cons (.refl _) (.cons (.refl _) (.nil _))) (List.nil_sublist _) (rest (hend (.inr h')))
    · have h : n = a.length := by
        have := of_decide_eq_false h
        rw [List.length_map] at this; omega
      (repeat ((conv=>arg 2;whnf);first|refine wp_it rfl ?_|refine wp_if rfl ?_))
      (conv=>arg 2;whnf)
      refine wp_leaf (loop_exit ?_)
      (conv=>arg 2;whnf)
      exact wp_cutR (frL [(0, bdsV a), (1, bdsV b)]) [] (.cons (.refl _) (.cons (.refl _) (.nil _))) (List.nil_sublist _) (rest (hend (.inl h)))
  case rest =>
    intro hr
    (conv=>arg 2;whnf);refine w_ret1 rfl (Vle.eq (cBool hr)) (List.nil_sublist _) rfl
theorem bdEqB : structEqB Tryz.prog 90 = true := by kernel_rfl
theorem bd_eq (a b : Bd) : (((a.elem : Int) == (b.elem : Int)) && ((a.at_ == b.at_) && true)) = decide (a = b) := by
  cases a; cases b
  rw [Bool.eq_iff_iff]; simp
  omega
theorem takes_next {α : Type} {a b : List α} {n : Nat} {x y : α} (h : a.take n = b.take n) (hx : a[n]? = some x) (hy : b[n]? = some y) (e : x = y) : a.take (n + 1) = b.take (n + 1) := by
  rw [List.take_add_one, List.take_add_one, h, hx, hy, e]
theorem ne_at {α : Type} {a b : List α} {n : Nat} {x y : α} (hx : a[n]? = some x) (hy : b[n]? = some y) (e : x ≠ y) : a ≠ b := fun h => by
  rw [h, hy] at hx; exact e (Option.some.inj hx).symm
set_option maxRecDepth 100000 in
theorem rsameb_call (a b : List Bd) (ha : a.length < 2 ^ 60) (hb : b.length < 2 ^ 60) : PCall Tryz.prog 38 [bdsV a, bdsV b] (bV (decide (a = b))) := by
  refine scall_of (live := []) (ords := []) Tryz.func38 rfl (by kernel_rfl) (by kernel_rfl) (Nat.le_of_ble_eq_true rfl) ?_
  (conv=>arg 2;whnf);refine wp_ite (fun h0 => ?_) (fun h0 => ?_)
  · have h0 : a.length ≠ b.length := fun e => by
      have := bne_iff_ne.1 h0
      rw [List.length_map, List.length_map, e] at this
      exact this rfl
    have hr : decide (a = b) = false := decide_eq_false fun e => h0 (by rw [e])
    (conv=>arg 2;whnf);refine w_ret1 rfl (Vle.eq (cBool hr.symm)) (List.nil_sublist _) rfl
  · have h0 : a.length = b.length := by
      have := bne_eq_false_iff_eq.1 h0
      rw [List.length_map, List.length_map] at this
      omega
    (conv=>arg 2;whnf);refine wp_loop (fun m fr R => ∃ n : Nat, m = a.length - n ∧ n ≤ a.length ∧ R = [] ∧ a.take n = b.take n ∧ fr = frL [(0, bdsV a), (1, bdsV b), (5, i64V n)])
      a.length _ _ (.cons (.refl _) (.cons (.refl _) (.cons (.refl _) (.nil _)))) (List.Sublist.refl _) ⟨0, rfl, Nat.zero_le _, rfl, rfl, rfl⟩ ?_
    rintro m fr R ⟨n, rfl, hn, rfl, he, rfl⟩
    (conv=>arg 2;whnf);refine wp_ite (fun h => ?_) (fun h => ?_)
    · have h : n < a.length := by
        have := of_decide_eq_true h
        rw [List.length_map] at this; omega
      obtain ⟨x, hx⟩ : ∃ x, a[n]? = some x := ⟨_, List.getElem?_eq_getElem h⟩
      obtain ⟨y, hy⟩ : ∃ y, b[n]? = some y := ⟨_, List.getElem?_eq_getElem (by omega)⟩
      (conv=>arg 2;whnf);refine wp_elem n (bdV x) rfl (bds_at hx) (Vle.refl _) ?_
      (conv=>arg 2;whnf);refine wp_elem n (bdV y) rfl (bds_at hy) (Vle.refl _) ?_
      (conv=>arg 2;whnf);refine wp_need bdEqB ?_
      (conv=>arg 2;whnf);refine wp_ite (fun h1 => ?_) (fun h1 => ?_)
      · have h1 : (!(((x.elem : Int) == (y.elem : Int)) && ((x.at_ == y.at_) && true))) = true := h1
        rw [bd_eq] at h1
        have hr : decide (a = b) = false := decide_eq_false (ne_at hx hy (by simpa using h1))
        (conv=>arg 2;whnf)
        refine wp_leaf (loop_ret ?_)
        (conv=>arg 2;whnf);refine w_ret1 rfl (Vle.eq (cBool hr.symm)) (List.nil_sublist _) rfl
      · have h1 : (!(((x.elem : Int) == (y.elem : Int)) && ((x.at_ == y.at_) && true))) = false := h1
        rw [bd_eq] at h1
        have hn' := takes_next he hx hy (by simpa using h1)
        (conv=>arg 2;whnf)
        exact wp_leaf (loop_next (a.length - (n + 1)) _ [] (by omega) (.cons (.refl _) (.cons (.refl _) (.cons (Vle.inc n rfl (by omega)) (.nil _)))) (List.Sublist.refl _) ⟨n + 1, rfl, h, rfl, hn', rfl⟩)
    · have h : n = a.length := by
        have := of_decide_eq_false h
        rw [List.length_map] at this; omega
      have hr : decide (a = b) = true := decide_eq_true (by rw [h, List.take_length, h0, List.take_length] at he; exact he)
      (conv=>arg 2;whnf)
      refine wp_leaf (loop_exit ?_)
      (conv=>arg 2;whnf);refine w_ret1 rfl (Vle.eq (cBool hr.symm)) (List.nil_sublist _) rfl
set_option maxRecDepth 100000 in
theorem rsamem_call (a b : List (List Bd)) (ha : a.length < 2 ^ 60) (hb : b.length < 2 ^ 60) (ha' : ∀ x ∈ a, x.length < 2 ^ 60) (hb' : ∀ x ∈ b, x.length < 2 ^ 60) : PCall Tryz.prog 12 [runsV a, runsV b] (bV (decide (a = b))) := by
  refine scall_of (live := []) (ords := []) Tryz.func12 rfl (by kernel_rfl) (by kernel_rfl) (Nat.le_of_ble_eq_true rfl) ?_
  (conv=>arg 2;whnf);refine wp_ite (fun h0 => ?_) (fun h0 => ?_)
  · have h0 : a.length ≠ b.length := fun e => by
      have := bne_iff_ne.1 h0
      rw [List.length_map, List.length_map, e] at this
      exact this rfl
    have hr : decide (a = b) = false := decide_eq_false fun e => h0 (by rw [e])
    (conv=>arg 2;whnf);refine w_ret1 rfl (Vle.eq (cBool hr.symm)) (List.nil_sublist _) rfl
  · have h0 : a.length = b.length := by
      have := bne_eq_false_iff_eq.1 h0
      rw [List.length_map, List.length_map] at this
      omega
    (conv=>arg 2;whnf);refine wp_loop (fun m fr R => ∃ n : Nat, m = a.length - n ∧ n ≤ a.length ∧ R = [] ∧ a.take n = b.take n ∧ fr = frL [(0, runsV a), (1, runsV b), (5, i64V n)])
      a.length _ _ (.cons (.refl _) (.cons (.refl _) (.cons (.refl _) (.nil _)))) (List.Sublist.refl _) ⟨0, rfl, Nat.zero_le _, rfl, rfl, rfl⟩ ?_
    rintro m fr R ⟨n, rfl, hn, rfl, he, rfl⟩
    (conv=>arg 2;whnf);refine wp_ite (fun h => ?_) (fun h => ?_)
    · have h : n < a.length := by
        have := of_decide_eq_true h
        rw [List.length_map] at this; omega
      obtain ⟨x, hx⟩ : ∃ x, a[n]? = some x := ⟨_, List.getElem?_eq_getElem h⟩
      obtain ⟨y, hy⟩ : ∃ y, b[n]? = some y := ⟨_, List.getElem?_eq_getElem (by omega)⟩
      have fs := rsameb_call x y (ha' x (List.mem_of_getElem? hx)) (hb' y (List.mem_of_getElem? hy))
      obtain ⟨r, hr0⟩ : ∃ r, r = decide (x = y) := ⟨_, rfl⟩
      rw [← hr0] at fs
      (conv=>arg 2;whnf);refine wp_elem n (runV x) rfl (runs_at hx) (Vle.refl _) ?_
      (conv=>arg 2;whnf);refine wp_elem n (runV y) rfl (runs_at hy) (Vle.refl _) ?_
      (conv=>arg 2;whnf);refine wp_pc fs ?_
      cases r with
      | false =>
        have hr : decide (a = b) = false := decide_eq_false (ne_at hx hy (of_decide_eq_false hr0.symm))
        (repeat ((conv=>arg 2;whnf);first|refine wp_it rfl ?_|refine wp_if rfl ?_))
        (conv=>arg 2;whnf)
        refine wp_leaf (loop_ret ?_)
        (conv=>arg 2;whnf);refine w_ret1 rfl (Vle.eq (cBool hr.symm)) (List.nil_sublist _) rfl
      | true =>
        have hn' := takes_next he hx hy (of_decide_eq_true hr0.symm)
        (repeat ((conv=>arg 2;whnf);first|refine wp_it rfl ?_|refine wp_if rfl ?_))
        (conv=>arg 2;whnf)
        exact wp_leaf (loop_next (a.length - (n + 1)) _ [] (by omega) (.cons (.refl _) (.cons (.refl _) (.cons (Vle.inc n rfl (by omega)) (.nil _)))) (List.Sublist.refl _) ⟨n + 1, rfl, h, rfl, hn', rfl⟩)
    · have h : n = a.length := by
        have := of_decide_eq_false h
        rw [List.length_map] at this; omega
      have hr : decide (a = b) = true := decide_eq_true (by rw [h, List.take_length, h0, List.take_length] at he; exact he)
      (conv=>arg 2;whnf)
      refine wp_leaf (loop_exit ?_)
      (conv=>arg 2;whnf);refine w_ret1 rfl (Vle.eq (cBool hr.symm)) (List.nil_sublist _) rfl
set_option maxRecDepth 100000 in
theorem rdone_call (p : Pa) (hp : p.els.length < 2 ^ 60) (r : List Bd) (hr : r.length < 2 ^ 60) : PCall Tryz.prog 35 [.agg (paC p), runV r] (bV (doneE p r)) := by
  refine scall_of (live := []) (ords := []) Tryz.func35 rfl (by kernel_rfl) (by kernel_rfl) (Nat.le_of_ble_eq_true rfl) ?_
  by_cases h0 : r = []
  · subst h0
    (repeat ((conv=>arg 2;whnf);first|refine wp_it rfl ?_|refine wp_if rfl ?_))
    (conv=>arg 2;whnf);refine w_ret1 rfl (Vle.refl _) (List.nil_sublist _) rfl
  · have e1 : decide (((r.map bdV).length : Int) > 0) = true := decide_eq_true (by rw [List.length_map]; have := List.length_pos_iff.2 h0; omega)
    have hw : IntKind.i64.wrap (((r.map bdV).length : Int) - 1) = ((r.length - 1 : Nat) : Int) := len_pred h0 hr
    have he : (((lastBd r).elem : Int) == IntKind.i64.wrap (((p.els.map elV).length : Int) - 1)) = doneE p r := by
      rw [doneE, decide_eq_true h0, Bool.true_and, beq_dec, List.length_map, w_i64_small (by omega) (by omega)]
      rw [Bool.eq_iff_iff, decide_eq_true_iff, decide_eq_true_iff]; omega
    (conv=>arg 2;whnf);refine wp_it e1 ?_
    (conv=>arg 2;whnf);refine wp_elem (r.length - 1) (bdV (lastBd r)) hw (bds_at (last_at h0)) (Vle.refl _) ?_
    (conv=>arg 2;whnf);refine w_ret1 rfl (Vle.eq (cBool he)) (List.nil_sublist _) rfl
end Go.Sv
namespace Go.Sv
open Go Go.Proofs
def befB (y m : List Bd) : Bool := decide ((lastBd y).at_ < (lastBd m).at_) || (decide ((lastBd y).at_ = (lastBd m).at_) && lessR y m)
def putR : List (List Bd) → List Bd → List (List Bd)
  | [], m => [m]
  | y :: l, m => if befB y m then y :: putR l m else if y = m then y :: l else m :: y :: l
theorem putR_at : ∀ {l : List (List Bd)} {m : List Bd} {k : Nat}, (l.take k).all (fun y => befB y m) = true → k ≤ l.length → (∀ y, l[k]? = some y → befB y m = false) → putR l m = if l[k]? = some m then l else l.take k ++ m :: l.drop k
  | [], m, k, _, hk, _ => by simp [putR]
  | y :: l, m, 0, _, _, hs => by
    have := hs y rfl
    rw [putR, this]
    simp
  | y :: l, m, k + 1, h, hk, hs => by
    rw [List.take_succ_cons, List.all_cons, Bool.and_eq_true] at h
    rw [putR, if_pos h.1, putR_at h.2 (by simpa using hk) (fun z hz => hs z (by simpa using hz))]
    simp only [List.getElem?_cons_succ, List.take_succ_cons, List.drop_succ_cons]
    split <;> simp
theorem putR_len : ∀ (l : List (List Bd)) (m : List Bd), (putR l m).length ≤ l.length + 1
  | [], m => Nat.le_refl _
  | y :: l, m => by
    have := putR_len l m
    rw [putR]
    split
    · simp only [List.length_cons]; omega
    · split <;> simp
theorem putR_mem : ∀ {l : List (List Bd)} {m z : List Bd}, z ∈ putR l m → z = m ∨ z ∈ l
  | [], m, z, h => by simp [putR] at h; exact .inl h
  | y :: l, m, z, h => by
    rw [putR] at h
    split at h
    · rcases List.mem_cons.1 h with h | h
      · exact .inr (by simp [h])
      · rcases putR_mem h with h | h
        · exact .inl h
        · exact .inr (by simp [h])
    · split at h
      · exact .inr h
      · rcases List.mem_cons.1 h with h | h
        · exact .inl h
        · exact .inr h
set_option maxRecDepth 100000 in
set_option maxHeartbeats 4000000 in
theorem rput_call (l : List (List Bd)) (m : List Bd) (hl : l.length < 2 ^ 42) (hn : ∀ y ∈ l, y ≠ [] ∧ y.length < 2 ^ 60) (hm0 : m ≠ []) (hm : m.length < 2 ^ 60) : PCall Tryz.prog 36 [runsV l, runV m] (runsV (putR l m)) := by
  have hwm : IntKind.i64.wrap (((m.map bdV).length : Int) - 1) = ((m.length - 1 : Nat) : Int) := len_pred hm0 hm
  refine scall_of (live := []) (ords := [(4, []), (6, [0, 1, 2, 4, 5, 7, 8, 9, 3, 6, 10, 11])]) Tryz.func36 rfl (by kernel_rfl) (by kernel_rfl) (Nat.le_of_ble_eq_true rfl) ?_
  (conv=>arg 2;whnf);refine wp_loop (fun m' fr R => ∃ n : Nat, m' = l.length - n ∧ n ≤ l.length ∧ R = [] ∧ (l.take n).all (fun y => befB y m) = true ∧ fr = frL [(0, runsV l), (3, .pt (some 1) (runV m) 0), (5, i64V n)])
    l.length _ _ (.cons (.refl _) (.cons (.refl _) (.cons (.refl _) (.nil _)))) (List.Sublist.refl _) ⟨0, rfl, Nat.zero_le _, rfl, rfl, rfl⟩ ?_
  rintro m' fr R ⟨n, rfl, hnl, rfl, ha, rfl⟩
  have hnone : n = l.length → l[n]? = none := fun h => List.getElem?_eq_none (Nat.le_of_eq h.symm)
  apply @wp_joinT _ ((∀ y, l[n]? = some y → befB y m = false) → _)
  case h1 =>
    intro rest
    (conv=>arg 2;whnf);refine wp_ite (fun h => ?_) (fun h => ?_)
    · have h : n < l.length := by
        have := of_decide_eq_true h
        rw [List.length_map] at this; omega
      obtain ⟨y, hy⟩ : ∃ y, l[n]? = some y := ⟨_, List.getElem?_eq_getElem h⟩
      obtain ⟨hy0, hyn⟩ := hn y (List.mem_of_getElem? hy)
      have hwy : IntKind.i64.wrap (((y.map bdV).length : Int) - 1) = ((y.length - 1 : Nat) : Int) := len_pred hy0 hyn
      have fl := rless_call y m hyn hm
      obtain ⟨r, hr⟩ : ∃ r, r = lessR y m := ⟨_, rfl⟩
      have hbef : befB y m = (decide ((lastBd y).at_ < (lastBd m).at_) || (decide ((lastBd y).at_ = (lastBd m).at_) && r)) := by rw [hr]; rfl
      rw [← hr] at fl
      clear hr
      have hnext : befB y m = true → (l.take (n + 1)).all (fun y => befB y m) = true := fun e => all_next ha hy e
      have hstop : befB y m = false → ∀ z, l[n]? = some z → befB z m = false := fun e z hz => by
        rw [hy] at hz; cases hz; exact e
      (conv=>arg 2;whnf);refine wp_elem n (runV y) rfl (runs_at hy) (Vle.refl _) ?_
      (conv=>arg 2;whnf);refine wp_elem n (runV y) rfl (runs_at hy) (Vle.refl _) ?_
      (conv=>arg 2;whnf);refine wp_elem (y.length - 1) (bdV (lastBd y)) hwy (bds_at (last_at hy0)) (Vle.refl _) ?_
      (conv=>arg 2;whnf);refine wp_elem (m.length - 1) (bdV (lastBd m)) hwm (bds_at (last_at hm0)) (Vle.refl _) ?_
      (conv=>arg 2;whnf);refine wp_ite (fun h1 => ?_) (fun h1 => ?_)
      · have h1 : decide ((lastBd y).at_ < (lastBd m).at_) = true := h1
        rw [h1, Bool.true_or] at hbef
        have hnx := hnext hbef
        (repeat ((conv=>arg 2;whnf);first|refine wp_it rfl ?_|refine wp_if rfl ?_))
        (conv=>arg 2;whnf)
        exact wp_leaf (loop_next (l.length - (n + 1)) _ [] (by omega) (.cons (.refl _) (.cons (.refl _) (.cons (Vle.inc n rfl (by omega)) (.nil _)))) (List.Sublist.refl _) ⟨n + 1, rfl, h, rfl, hnx, rfl⟩)
      · have h1 : decide ((lastBd y).at_ < (lastBd m).at_) = false := h1
        rw [h1, Bool.false_or] at hbef
        (conv=>arg 2;whnf);refine wp_elem n (runV y) rfl (runs_at hy) (Vle.refl _) ?_
        (conv=>arg 2;whnf);refine wp_elem n (runV y) rfl (runs_at hy) (Vle.refl _) ?_
        (conv=>arg 2;whnf);refine wp_elem (y.length - 1) (bdV (lastBd y)) hwy (bds_at (last_at hy0)) (Vle.refl _) ?_
        (conv=>arg 2;whnf);refine wp_elem (m.length - 1) (bdV (lastBd m)) hwm (bds_at (last_at hm0)) (Vle.refl _) ?_
        (conv=>arg 2;whnf);refine wp_ite (fun h2 => ?_) (fun h2 => ?_)
        · have h2 : decide ((lastBd y).at_ = (lastBd m).at_) = true := by rw [← beq_dec]; exact h2
          rw [h2, Bool.true_and] at hbef
          (conv=>arg 2;whnf);refine wp_elem n (runV y) rfl (runs_at hy) (Vle.refl _) ?_
          (conv=>arg 2;whnf);refine wp_pc fl ?_
          clear fl
          cases r with
          | true =>
            have hnx := hnext hbef
            (repeat ((conv=>arg 2;whnf);first|refine wp_it rfl ?_|refine wp_if rfl ?_))
            (conv=>arg 2;whnf)
            exact wp_leaf (loop_next (l.length - (n + 1)) _ [] (by omega) (.cons (.refl _) (.cons (.refl _) (.cons (Vle.inc n rfl (by omega)) (.nil _)))) (List.Sublist.refl _) ⟨n + 1, rfl, h, rfl, hnx, rfl⟩)
          | false =>
            (repeat ((conv=>arg 2;whnf);first|refine wp_it rfl ?_|refine wp_if rfl ?_))
            (conv=>arg 2;whnf)
            refine wp_leaf (loop_exit ?_)
            (conv=>arg 2;whnf)
            exact wp_cutR (frL [(0, runsV l), (3, .pt (some 1) (runV m) 0), (5, i64V n)]) [] (.cons (.refl _) (.cons (.refl _) (.cons (.refl _) (.nil _)))) (List.nil_sublist _) (rest (hstop hbef))
        · have h2 : decide ((lastBd y).at_ = (lastBd m).at_) = false := by rw [← beq_dec]; exact h2
          rw [h2, Bool.false_and] at hbef
          (repeat ((conv=>arg 2;whnf);first|refine wp_it rfl ?_|refine wp_if rfl ?_))
          (conv=>arg 2;whnf)
          refine wp_leaf (loop_exit ?_)
          (conv=>arg 2;whnf)
          exact wp_cutR (frL [(0, runsV l), (3, .pt (some 1) (runV m) 0), (5, i64V n)]) [] (.cons (.refl _) (.cons (.refl _) (.cons (.refl _) (.nil _)))) (List.nil_sublist _) (rest (hstop hbef))
    · have h : n = l.length := by
        have := of_decide_eq_false h
        rw [List.length_map] at this; omega
      have hno : ∀ z, l[n]? = some z → befB z m = false := fun z hz => by rw [hnone h] at hz; cases hz
      (repeat ((conv=>arg 2;whnf);first|refine wp_it rfl ?_|refine wp_if rfl ?_))
      (conv=>arg 2;whnf)
      refine wp_leaf (loop_exit ?_)
      (conv=>arg 2;whnf)
      exact wp_cutR (frL [(0, runsV l), (3, .pt (some 1) (runV m) 0), (5, i64V n)]) [] (.cons (.refl _) (.cons (.refl _) (.cons (.refl _) (.nil _)))) (List.nil_sublist _) (rest hno)
  case rest =>
    intro hstop
    have hput := putR_at ha hnl hstop
    apply @wp_joinT _ (l[n]? ≠ some m → _)
    case h1 =>
      intro rest
      (conv=>arg 2;whnf);refine wp_ite (fun h => ?_) (fun h => ?_)
      · have h : n < l.length := by
          have := of_decide_eq_true h
          rw [List.length_map] at this; omega
        obtain ⟨y, hy⟩ : ∃ y, l[n]? = some y := ⟨_, List.getElem?_eq_getElem h⟩
        have fs := rsameb_call y m (hn y (List.mem_of_getElem? hy)).2 hm
        obtain ⟨r, hr⟩ : ∃ r, r = decide (y = m) := ⟨_, rfl⟩
        rw [← hr] at fs
        (conv=>arg 2;whnf);refine wp_elem n (runV y) rfl (runs_at hy) (Vle.refl _) ?_
        (conv=>arg 2;whnf);refine wp_pc fs ?_
        clear fs
        cases r with
        | true =>
          have hym : y = m := of_decide_eq_true hr.symm
          rw [if_pos (hym ▸ hy)] at hput
          (repeat ((conv=>arg 2;whnf);first|refine wp_it rfl ?_|refine wp_if rfl ?_))
          (conv=>arg 2;whnf);refine w_ret1 rfl (Vle.eq (congrArg runsV hput.symm)) (List.nil_sublist _) rfl
        | false =>
          have hym : y ≠ m := of_decide_eq_false hr.symm
          (repeat ((conv=>arg 2;whnf);first|refine wp_it rfl ?_|refine wp_if rfl ?_))
          exact wp_cutR (frL [(0, runsV l), (3, .pt (some 1) (runV m) 0), (5, i64V n)]) [] (.cons (.refl _) (.cons (.refl _) (.cons (.refl _) (.nil _)))) (List.nil_sublist _) (rest fun e => hym (Option.some.inj (hy.symm.trans e)))
      · have h : n = l.length := by
          have := of_decide_eq_false h
          rw [List.length_map] at this; omega
        have hno : l[n]? ≠ some m := fun e => by rw [hnone h] at e; cases e
        (repeat ((conv=>arg 2;whnf);first|refine wp_it rfl ?_|refine wp_if rfl ?_))
        exact wp_cutR (frL [(0, runsV l), (3, .pt (some 1) (runV m) 0), (5, i64V n)]) [] (.cons (.refl _) (.cons (.refl _) (.cons (.refl _) (.nil _)))) (List.nil_sublist _) (rest hno)
    case rest =>
      intro hne
      rw [if_neg hne] at hput
      have hneed1 : (0 : Int) ≤ n ∧ (n : Int) ≤ (l.map runV).length := by rw [List.length_map]; omega
      have ok1 : ∀ y ∈ (l.map runV).take n, okE (some 1) y := fun y hy => okE_run l y (List.mem_of_mem_take hy)
      have ok2 : ∀ y ∈ (l.map runV).drop n, okE (some 1) y := fun y hy => okE_run l y (List.mem_of_mem_drop hy)
      have hv : ∀ t3, Vle (.sl (some 1) (((l.map runV).take n ++ [runV m]) ++ (l.map runV).drop n) (.t t3)) (runsV (putR l m)) := fun t3 => by
        rw [hput]
        refine Vle.trans (Vle.sl _ _ _) (Vle.eq ?_)
        rw [runsV, List.map_append, List.map_cons, List.map_take, List.map_drop, List.append_assoc]; rfl
      (conv=>arg 2;whnf);refine wp_need hneed1 ?_
      (conv=>arg 2;whnf);refine wp_need hneed1 ?_
      (conv=>arg 2;whnf);refine wp_append_nil ok1 (show List.length ((l.map runV).take n) * 24 ≤ _ by rw [List.length_take, List.length_map]; omega) fun t1 => ?_
      (conv=>arg 2;whnf);refine wp_append_tok 0 rfl (okE_run [m]) (show (List.length ((l.map runV).take n) + 1) * 24 ≤ _ by rw [List.length_take, List.length_map]; omega) fun t2 => ?_
      (conv=>arg 2;whnf);refine wp_append_tok 0 rfl ok2 (show (List.length ((l.map runV).take n ++ [runV m]) + List.length ((l.map runV).drop n)) * 24 ≤ _ by rw [List.length_append, List.length_take, List.length_drop, List.length_map, List.length_singleton]; omega) fun t3 => ?_
      (conv=>arg 2;whnf);refine w_ret1 rfl (Vle.gotL (hv t3) rfl) (List.nil_sublist _) rfl
end Go.Sv
namespace Go.Sv
open Go Go.Proofs
def RowsR (n : Nat) (out : List (List Bd)) : Prop := ∀ y ∈ out, y ≠ [] ∧ y.length ≤ n
theorem RowsR.put {n : Nat} {out : List (List Bd)} (h : RowsR n out) {c : List Bd} (hc : c ≠ [] ∧ c.length ≤ n) : RowsR n (putR out c) := fun y hy => by
  rcases putR_mem hy with rfl | hy
  · exact hc
  · exact h y hy
end Go.Sv
namespace Go.Sv
open Go Go.Proofs
theorem nilS_ne {l : List UInt8} : (!((S l).toList == (⟨#[]⟩ : ByteArray).toList)) = !decide (l = []) := by rw [nilS]
end Go.Sv
namespace Go.Sv
open Go Go.Proofs
def aliasI (l : List El) (a : List UInt8) : Int := if l.any (fun x => decide (x.al = a)) then (l.findIdx (fun x => decide (x.al = a)) : Nat) else -1
theorem aliasI_hit {l : List El} {a : List UInt8} {n : Nat} {e : El} (h : l[n]? = some e) (ha : (l.take n).any (fun x => decide (x.al = a)) = false) (he : e.al = a) : aliasI l a = n := by
  have hi := (List.getElem?_eq_some_iff.1 h).1
  have hany : l.any (fun x => decide (x.al = a)) = true := List.any_eq_true.2 ⟨e, List.mem_of_getElem? h, decide_eq_true he⟩
  rw [aliasI, if_pos hany, (List.findIdx_eq hi).2]
  refine ⟨?_, fun j hj => ?_⟩
  · rw [(List.getElem?_eq_some_iff.1 h).2]; exact decide_eq_true he
  · have hj' : l[j]? = some l[j] := List.getElem?_eq_getElem (by omega)
    have hm : l[j] ∈ l.take n := by
      have : (l.take n)[j]? = some l[j] := by rw [List.getElem?_take, if_pos hj, hj']
      exact List.mem_of_getElem? this
    exact Bool.eq_false_iff.2 (fun h1 => List.any_eq_false.1 ha _ hm h1)
theorem aliasI_miss {l : List El} {a : List UInt8} (ha : l.any (fun x => decide (x.al = a)) = false) : aliasI l a = -1 := by rw [aliasI, ha]; rfl
theorem aliasI_iff {l : List El} {n : Nat} {e : El} (h : l[n]? = some e) : aliasI l e.al = n ↔ twiceB l n e.al = false := by
  have hi := (List.getElem?_eq_some_iff.1 h).1
  constructor
  · intro ha
    have hany : l.any (fun x => decide (x.al = e.al)) = true := List.any_eq_true.2 ⟨e, List.mem_of_getElem? h, decide_eq_true rfl⟩
    rw [aliasI, if_pos hany] at ha
    have ha : l.findIdx (fun x => decide (x.al = e.al)) = n := by omega
    obtain ⟨_, h2⟩ := (List.findIdx_eq hi).1 ha
    rw [twiceB, List.any_eq_false]
    intro y hy
    obtain ⟨j, hj⟩ := List.mem_iff_getElem?.1 hy
    rw [List.getElem?_take] at hj
    split at hj
    · rename_i hjn
      have := h2 j hjn
      have e3 := (List.getElem?_eq_some_iff.1 hj).2
      rw [e3] at this
      rw [this]; exact Bool.noConfusion
    · cases hj
  · intro ht
    exact aliasI_hit h ht rfl
set_option maxRecDepth 100000 in
theorem alias_call (l : List El) (a : List UInt8) (hl : l.length < 2 ^ 60) : PCall Tryz.prog 41 [elsV l, str a] (i64V (aliasI l a)) := by
  refine scall_of (live := []) (ords := []) Tryz.func41 rfl (by kernel_rfl) (by kernel_rfl) (Nat.le_of_ble_eq_true rfl) ?_
  (conv=>arg 2;whnf);refine wp_loop (fun m fr R => ∃ n : Nat, m = l.length - n ∧ n ≤ l.length ∧ R = [] ∧ (l.take n).any (fun x => decide (x.al = a)) = false ∧ fr = frL [(0, elsV l), (1, str a), (5, i64V n)])
    l.length _ _ (.cons (.refl _) (.cons (.refl _) (.cons (.refl _) (.nil _)))) (List.Sublist.refl _) ⟨0, rfl, Nat.zero_le _, rfl, rfl, rfl⟩ ?_
  rintro m fr R ⟨n, rfl, hn, rfl, ha, rfl⟩
  (conv=>arg 2;whnf);refine wp_ite (fun h => ?_) (fun h => ?_)
  · have h : n < l.length := by have := of_decide_eq_true h; rw [List.length_map] at this; omega
    obtain ⟨y, hy⟩ : ∃ y, l[n]? = some y := ⟨_, List.getElem?_eq_getElem h⟩
    (conv=>arg 2;whnf);refine wp_elem n (.agg (elC y)) rfl (els_at hy) (Vle.refl _) ?_
    (conv=>arg 2;whnf);refine wp_ite (fun h1 => ?_) (fun h1 => ?_)
    · have h1 : y.al = a := of_decide_eq_true ((strEq y.al a).symm.trans h1)
      (conv=>arg 2;whnf)
      refine wp_leaf (loop_ret ?_)
      (conv=>arg 2;whnf);refine w_retp rfl (Vle.eq (congrArg i64V (aliasI_hit hy ha h1).symm))
    · have h1 : y.al ≠ a := of_decide_eq_false ((strEq y.al a).symm.trans h1)
      (conv=>arg 2;whnf)
      refine wp_leaf (loop_next (l.length - (n + 1)) _ _ (by omega) (.cons (.refl _) (.cons (.refl _) (.cons (Vle.inc n rfl (by omega)) (.nil _)))) (List.Sublist.refl _) ⟨n + 1, rfl, h, rfl, ?_, rfl⟩)
      rw [List.take_add_one, hy, List.any_append, ha]
      simp [h1]
  · have h : n = l.length := by have := of_decide_eq_false h; rw [List.length_map] at this; omega
    subst h
    rw [List.take_length] at ha
    (conv=>arg 2;whnf)
    refine wp_leaf (loop_exit ?_)
    (conv=>arg 2;whnf);refine w_retp rfl (Vle.eq (congrArg i64V (aliasI_miss ha).symm))
end Go.Sv
namespace Go.Sv
open Go Go.Proofs
set_option maxRecDepth 100000 in
set_option maxHeartbeats 1000000 in
theorem refpattern_call (p : Pa) (h : PaBd p) : PCall Tryz.prog 18 [.agg (paC p)] (bV (isPaB p)) := by
  obtain ⟨hl, he, hb, hw1, hw2⟩ := h
  have fb := refname_call p.by_ (by omega)
  refine scall_of (live := []) (ords := [(10, [])]) Tryz.func18 rfl (by kernel_rfl) (by kernel_rfl) (Nat.le_of_ble_eq_true rfl) ?_
  (conv=>arg 2;whnf);refine wp_ite (fun h1 => ?_) (fun h1 => ?_)
  · have h1 : p.els.length < 1 := by have := of_decide_eq_true h1; rw [List.length_map] at this; omega
    (repeat ((conv=>arg 2;whnf);first|refine wp_it rfl ?_|refine wp_if rfl ?_))
    (conv=>arg 2;whnf);refine w_retp rfl (Vle.eq (cBool (isPa_few h1).symm))
  have h1 : 1 ≤ p.els.length := by have := of_decide_eq_false h1; rw [List.length_map] at this; omega
  (conv=>arg 2;whnf);refine wp_ite (fun h2 => ?_) (fun h2 => ?_)
  · have h2 : 5 < p.els.length := by have := of_decide_eq_true h2; rw [List.length_map] at this; omega
    (repeat ((conv=>arg 2;whnf);first|refine wp_it rfl ?_|refine wp_if rfl ?_))
    (conv=>arg 2;whnf);refine w_retp rfl (Vle.eq (cBool (isPa_many h2).symm))
  have h2 : p.els.length ≤ 5 := by have := of_decide_eq_false h2; rw [List.length_map] at this; omega
  (conv=>arg 2;whnf);refine wp_ite (fun h5 => ?_) (fun h5 => ?_)
  · have h5 : p.within < 0 := of_decide_eq_true h5
    (repeat ((conv=>arg 2;whnf);first|refine wp_it rfl ?_|refine wp_if rfl ?_))
    (conv=>arg 2;whnf);refine w_retp rfl (Vle.eq (cBool (isPa_w0 h5).symm))
  have h5 : 0 ≤ p.within := by have := of_decide_eq_false h5; omega
  (conv=>arg 2;whnf);refine wp_ite (fun h6 => ?_) (fun h6 => ?_)
  · have h6 : 1000 < p.within := of_decide_eq_true h6
    (repeat ((conv=>arg 2;whnf);first|refine wp_it rfl ?_|refine wp_if rfl ?_))
    (conv=>arg 2;whnf);refine w_retp rfl (Vle.eq (cBool (isPa_w1 h6).symm))
  have h6 : p.within ≤ 1000 := by have := of_decide_eq_false h6; omega
  obtain ⟨e0, he0⟩ : ∃ e, p.els[0]? = some e := ⟨_, List.getElem?_eq_getElem (by omega)⟩
  obtain ⟨e1, he1⟩ : ∃ e, p.els[p.els.length - 1]? = some e := ⟨_, List.getElem?_eq_getElem (by omega)⟩
  have ws : IntKind.i64.wrap (((p.els.map elV).length : Int) - 1) = ((p.els.length - 1 : Nat) : Int) := by
    rw [List.length_map]; exact wsub (by omega) (by omega) (by omega)
  (conv=>arg 2;whnf);refine wp_ite (fun hq => ?_) (fun hq => ?_)
  · have hq : p.by_ ≠ [] := fun e => by
      have := (nilS_ne (l := p.by_)).symm.trans hq
      rw [e] at this; cases this
    (conv=>arg 2;whnf);refine wp_pcall fb ?_
    (conv=>arg 2;whnf);refine wp_ite (fun hr => ?_) (fun hr => ?_)
    · have hr : isNm p.by_ = false := by simpa using hr
      (repeat ((conv=>arg 2;whnf);first|refine wp_it rfl ?_|refine wp_if rfl ?_))
      (conv=>arg 2;whnf);refine w_retp rfl (Vle.eq (cBool (isPa_by hq hr).symm))
    have hr : isNm p.by_ = true := by simpa using hr
    have h7 : p.by_ = [] ∨ isNm p.by_ = true := .inr hr
    (repeat ((conv=>arg 2;whnf);first|refine wp_it rfl ?_|refine wp_if rfl ?_))
    (conv=>arg 2;whnf);refine wp_elem 0 (.agg (elC e0)) rfl (els_at he0) (Vle.refl _) ?_
    (conv=>arg 2;whnf);refine wp_ite (fun h3 => ?_) (fun h3 => ?_)
    · have h3 : ntAt p.els 0 = true := (ntAt_of he0).trans h3
      (repeat ((conv=>arg 2;whnf);first|refine wp_it rfl ?_|refine wp_if rfl ?_))
      (conv=>arg 2;whnf);refine w_retp rfl (Vle.eq (cBool (isPa_first h3).symm))
    have h3 : ntAt p.els 0 = false := (ntAt_of he0).trans h3
    (conv=>arg 2;whnf);refine wp_elem (p.els.length - 1) (.agg (elC e1)) ws (els_at he1) (Vle.refl _) ?_
    (conv=>arg 2;whnf);refine wp_ite (fun h4 => ?_) (fun h4 => ?_)
    · have h4 : ntAt p.els (p.els.length - 1) = true := (ntAt_of he1).trans h4
      (repeat ((conv=>arg 2;whnf);first|refine wp_it rfl ?_|refine wp_if rfl ?_))
      (conv=>arg 2;whnf);refine w_retp rfl (Vle.eq (cBool (isPa_last h4).symm))
    have h4 : ntAt p.els (p.els.length - 1) = false := (ntAt_of he1).trans h4
    (conv=>arg 2;whnf);refine wp_loop (fun m fr R => ∃ n : Nat, m = p.els.length - n ∧ n ≤ p.els.length ∧ R = [] ∧ ((List.range n).all fun i => okAtB p.els i (p.els.getD i el0)) = true ∧ fr = frL [(1, .pt (some 4) (.agg (paC p)) 0), (3, i64V p.els.length), (4, i64V n)])
      p.els.length _ _ (.cons (.refl _) (.cons (Vle.eq ?_) (.cons (.refl _) (.nil _)))) (List.Sublist.refl _) ⟨0, rfl, Nat.zero_le _, rfl, rfl, rfl⟩ ?_
    · show V.c (.int .i64 (p.els.map elV).length) = _
      rw [List.length_map]; rfl
    rintro m fr R ⟨n, rfl, hn, rfl, hall, rfl⟩
    (conv=>arg 2;whnf);refine wp_ite (fun h => ?_) (fun h => ?_)
    · have h : n < p.els.length := by have := of_decide_eq_true h; omega
      obtain ⟨e, hen⟩ : ∃ e, p.els[n]? = some e := ⟨_, List.getElem?_eq_getElem h⟩
      have hbd := he e (List.mem_of_getElem? hen)
      obtain ⟨ba, bl, bt, bx⟩ := hbd
      have fn := refname_call e.al (by omega)
      have fa := alias_call p.els e.al (by omega)
      have fr := refrise_call e.ty (by omega)
      have fs := refsame0_call e.cond bx.kids
      have fi := refisexpr_call e.cond bx.1 bx.2.1 bx.2.2.2
      rw [isEx_same] at fi
      (conv=>arg 2;whnf);refine wp_elem n (.agg (elC e)) rfl (els_at hen) (Vle.refl _) ?_
      (conv=>arg 2;whnf);refine wp_allocE elZ rfl fun b => ?_
      (conv=>arg 2;whnf);refine wp_storeE (cs := elZ) 0 0 (elC e) rfl rfl (VleL.refl _) (Nat.le_refl _) rfl (R' := [.obj b (elC e)]) rfl ?_
      (conv=>arg 2;whnf);refine wp_load (cs := elC e) 0 rfl rfl ?_
      (conv=>arg 2;whnf);refine wp_pcall fn ?_
      (conv=>arg 2;whnf);refine wp_ite (fun g1 => ?_) (fun g1 => ?_)
      · have g1 : isNm e.al = false := by simpa using g1
        (repeat ((conv=>arg 2;whnf);first|refine wp_it rfl ?_|refine wp_if rfl ?_))
        (conv=>arg 2;whnf)
        refine wp_leaf (loop_ret ?_)
        (conv=>arg 2;whnf);refine w_retp rfl (Vle.eq (cBool (isPa_el hen (okAt_el (isEl_name g1))).symm))
      have g1 : isNm e.al = true := by simpa using g1
      (conv=>arg 2;whnf);refine wp_load (cs := elC e) 0 rfl rfl ?_
      (conv=>arg 2;whnf);refine wp_pcall fa ?_
      (conv=>arg 2;whnf);refine wp_ite (fun g2 => ?_) (fun g2 => ?_)
      · have g2 : aliasI p.els e.al ≠ n := by simpa using g2
        have g2 : twiceB p.els n e.al = true := by
          cases ht : twiceB p.els n e.al with
          | true => rfl
          | false => exact (g2 ((aliasI_iff hen).2 ht)).elim
        (repeat ((conv=>arg 2;whnf);first|refine wp_it rfl ?_|refine wp_if rfl ?_))
        (conv=>arg 2;whnf)
        refine wp_leaf (loop_ret ?_)
        (conv=>arg 2;whnf);refine w_retp rfl (Vle.eq (cBool (isPa_el hen (okAt_twice g2)).symm))
      have g2 : aliasI p.els e.al = n := by simpa using g2
      have g2 : twiceB p.els n e.al = false := (aliasI_iff hen).1 g2
      (conv=>arg 2;whnf);refine wp_load (cs := elC e) 0 rfl rfl ?_
      (conv=>arg 2;whnf);refine wp_ite (fun g3 => ?_) (fun g3 => ?_)
      · have g3 : e.ty.length < 1 := by have := of_decide_eq_true g3; rw [List.length_map] at this; omega
        (repeat ((conv=>arg 2;whnf);first|refine wp_it rfl ?_|refine wp_if rfl ?_))
        (conv=>arg 2;whnf)
        refine wp_leaf (loop_ret ?_)
        (conv=>arg 2;whnf);refine w_retp rfl (Vle.eq (cBool (isPa_el hen (okAt_el (isEl_few g3))).symm))
      have g3 : 1 ≤ e.ty.length := by have := of_decide_eq_false g3; rw [List.length_map] at this; omega
      (conv=>arg 2;whnf);refine wp_load (cs := elC e) 0 rfl rfl ?_
      (conv=>arg 2;whnf);refine wp_ite (fun g4 => ?_) (fun g4 => ?_)
      · have g4 : 3 < e.ty.length := by have := of_decide_eq_true g4; rw [List.length_map] at this; omega
        (repeat ((conv=>arg 2;whnf);first|refine wp_it rfl ?_|refine wp_if rfl ?_))
        (conv=>arg 2;whnf)
        refine wp_leaf (loop_ret ?_)
        (conv=>arg 2;whnf);refine w_retp rfl (Vle.eq (cBool (isPa_el hen (okAt_el (isEl_many g4))).symm))
      have g4 : e.ty.length ≤ 3 := by have := of_decide_eq_false g4; rw [List.length_map] at this; omega
      (conv=>arg 2;whnf);refine wp_load (cs := elC e) 0 rfl rfl ?_
      (conv=>arg 2;whnf);refine wp_pcall fr ?_
      (conv=>arg 2;whnf);refine wp_ite (fun g5 => ?_) (fun g5 => ?_)
      · have g5 : riseB e.ty = false := by simpa using g5
        (repeat ((conv=>arg 2;whnf);first|refine wp_it rfl ?_|refine wp_if rfl ?_))
        (conv=>arg 2;whnf)
        refine wp_leaf (loop_ret ?_)
        (conv=>arg 2;whnf);refine w_retp rfl (Vle.eq (cBool (isPa_el hen (okAt_el (isEl_rise g5))).symm))
      have g5 : riseB e.ty = true := by simpa using g5
      have pf : e.plus = false → (e.plus && e.nt) = false := fun h => by rw [h, Bool.false_and]
      have nf : e.nt = false → (e.plus && e.nt) = false := fun h => by rw [h, Bool.and_false]
      have nf' : e.nt = false → (e.nt && (decide (0 < n) && ntAt p.els (n - 1))) = false := fun h => by rw [h, Bool.false_and]
      have n0f : ¬ 0 < n → (e.nt && (decide (0 < n) && ntAt p.els (n - 1))) = false := fun h => by rw [decide_eq_false h]; simp
      have pvf : ntAt p.els (n - 1) = false → (e.nt && (decide (0 < n) && ntAt p.els (n - 1))) = false := fun h => by rw [h]; simp
      have nqt : e.nt = false → e.nt = true → False := fun h h' => by rw [h] at h'; cases h'
      have i0 : decide ((n : Int) > 0) = false → ¬ 0 < n := fun h => by have := of_decide_eq_false h; omega
      have i1 : decide ((n : Int) > 0) = true → 0 < n := fun h => by have := of_decide_eq_true h; omega
      have wsn : 0 < n → IntKind.i64.wrap ((n : Int) - 1) = ((n - 1 : Nat) : Int) := fun h => wsub (by omega : ((n : Nat) : Int) - 1 = ((n - 1 : Nat) : Int)) (by omega) (by omega)
      have hy : 0 < n → p.els[n - 1]? = some (p.els.getD (n - 1) el0) := fun h0 => by
        have hx : p.els[n - 1]? = some p.els[n - 1] := List.getElem?_eq_getElem (by omega)
        rw [getDx hx]; exact hx
      apply @wp_joinT _ ((e.plus && e.nt) = false → (e.nt && (decide (0 < n) && ntAt p.els (n - 1))) = false → _)
      case h1 =>
        intro rest
        (conv=>arg 2;whnf);refine wp_load (cs := elC e) 0 rfl rfl ?_
        (conv=>arg 2;whnf);refine wp_ite (fun hp => ?_) (fun hp => ?_)
        · (conv=>arg 2;whnf);refine wp_load (cs := elC e) 0 rfl rfl ?_
          (conv=>arg 2;whnf);refine wp_ite (fun hq => ?_) (fun hq => ?_)
          · have hp : e.plus = true := hp
            have hq : e.nt = true := hq
            (repeat ((conv=>arg 2;whnf);first|refine wp_it rfl ?_|refine wp_if rfl ?_))
            (conv=>arg 2;whnf)
            refine wp_leaf (loop_ret ?_)
            (conv=>arg 2;whnf);refine w_retp rfl (Vle.eq (cBool (isPa_el hen (okAt_el (isEl_both hp hq))).symm))
          · have hq : e.nt = false := hq
            (repeat ((conv=>arg 2;whnf);first|refine wp_it rfl ?_|refine wp_if rfl ?_))
            (conv=>arg 2;whnf);refine wp_ite (fun h0 => ?_) (fun h0 => ?_)
            · (conv=>arg 2;whnf);refine wp_load (cs := elC e) 0 rfl rfl ?_
              (conv=>arg 2;whnf);refine wp_ite (fun hq' => (nqt hq hq').elim) (fun _ => ?_)
              (repeat ((conv=>arg 2;whnf);first|refine wp_it rfl ?_|refine wp_if rfl ?_))
              (conv=>arg 2;whnf)
              exact wp_cutR (frL [(1, .pt (some 4) (.agg (paC p)) 0), (3, i64V p.els.length), (4, i64V n), (5, .loc b 0)]) [.obj b (elC e)] (.cons (.refl _) (.cons (.refl _) (.cons (.refl _) (.cons (.refl _) (.nil _))))) (List.Sublist.refl _) (rest (nf hq) (nf' hq))
            · (repeat ((conv=>arg 2;whnf);first|refine wp_it rfl ?_|refine wp_if rfl ?_))
              (conv=>arg 2;whnf)
              exact wp_cutR (frL [(1, .pt (some 4) (.agg (paC p)) 0), (3, i64V p.els.length), (4, i64V n), (5, .loc b 0)]) [.obj b (elC e)] (.cons (.refl _) (.cons (.refl _) (.cons (.refl _) (.cons (.refl _) (.nil _))))) (List.Sublist.refl _) (rest (nf hq) (nf' hq))
        · have hp : e.plus = false := hp
          (repeat ((conv=>arg 2;whnf);first|refine wp_it rfl ?_|refine wp_if rfl ?_))
          (conv=>arg 2;whnf);refine wp_ite (fun h0 => ?_) (fun h0 => ?_)
          · (conv=>arg 2;whnf);refine wp_load (cs := elC e) 0 rfl rfl ?_
            (conv=>arg 2;whnf);refine wp_ite (fun hq => ?_) (fun hq => ?_)
            · have hq : e.nt = true := hq
              (conv=>arg 2;whnf);refine wp_elem (n - 1) (.agg (elC (p.els.getD (n - 1) el0))) (wsn (i1 h0)) (els_at (hy (i1 h0))) (Vle.refl _) ?_
              (conv=>arg 2;whnf);refine wp_ite (fun hz => ?_) (fun hz => ?_)
              · have hz : ntAt p.els (n - 1) = true := (ntAt_of (hy (i1 h0))).trans hz
                (repeat ((conv=>arg 2;whnf);first|refine wp_it rfl ?_|refine wp_if rfl ?_))
                (conv=>arg 2;whnf)
                refine wp_leaf (loop_ret ?_)
                (conv=>arg 2;whnf);refine w_retp rfl (Vle.eq (cBool (isPa_el hen (okAt_nt hq (i1 h0) hz)).symm))
              · have hz : ntAt p.els (n - 1) = false := (ntAt_of (hy (i1 h0))).trans hz
                (repeat ((conv=>arg 2;whnf);first|refine wp_it rfl ?_|refine wp_if rfl ?_))
                (conv=>arg 2;whnf)
                exact wp_cutR (frL [(1, .pt (some 4) (.agg (paC p)) 0), (3, i64V p.els.length), (4, i64V n), (5, .loc b 0)]) [.obj b (elC e)] (.cons (.refl _) (.cons (.refl _) (.cons (.refl _) (.cons (.refl _) (.nil _))))) (List.Sublist.refl _) (rest (pf hp) (pvf hz))
            · have hq : e.nt = false := hq
              (repeat ((conv=>arg 2;whnf);first|refine wp_it rfl ?_|refine wp_if rfl ?_))
              (conv=>arg 2;whnf)
              exact wp_cutR (frL [(1, .pt (some 4) (.agg (paC p)) 0), (3, i64V p.els.length), (4, i64V n), (5, .loc b 0)]) [.obj b (elC e)] (.cons (.refl _) (.cons (.refl _) (.cons (.refl _) (.cons (.refl _) (.nil _))))) (List.Sublist.refl _) (rest (pf hp) (nf' hq))
          · (repeat ((conv=>arg 2;whnf);first|refine wp_it rfl ?_|refine wp_if rfl ?_))
            (conv=>arg 2;whnf)
            exact wp_cutR (frL [(1, .pt (some 4) (.agg (paC p)) 0), (3, i64V p.els.length), (4, i64V n), (5, .loc b 0)]) [.obj b (elC e)] (.cons (.refl _) (.cons (.refl _) (.cons (.refl _) (.cons (.refl _) (.nil _))))) (List.Sublist.refl _) (rest (pf hp) (n0f (i0 h0)))
      case rest =>
        intro g6 g7
        (conv=>arg 2;whnf);refine wp_loop (fun m fr R => ∃ k : Nat, m = e.ty.length - k ∧ k ≤ e.ty.length ∧ R = [.obj b (elC e)] ∧ (e.ty.take k).all isNm = true ∧ fr = frL [(1, .pt (some 4) (.agg (paC p)) 0), (3, i64V p.els.length), (4, i64V n), (5, .loc b 0), (6, i64V k)])
          e.ty.length _ _ (.cons (.refl _) (.cons (.refl _) (.cons (.refl _) (.cons (.refl _) (.cons (.refl _) (.nil _)))))) (List.Sublist.refl _) ⟨0, rfl, Nat.zero_le _, rfl, rfl, rfl⟩ ?_
        rintro m fr R ⟨k, rfl, hk, rfl, hnm, rfl⟩
        (conv=>arg 2;whnf);refine wp_load (cs := elC e) 0 rfl rfl ?_
        (conv=>arg 2;whnf);refine wp_ite (fun hk1 => ?_) (fun hk1 => ?_)
        · have hk1 : k < e.ty.length := by have := of_decide_eq_true hk1; rw [List.length_map] at this; omega
          obtain ⟨t, htk⟩ : ∃ t, e.ty[k]? = some t := ⟨_, List.getElem?_eq_getElem hk1⟩
          have hm := List.mem_of_getElem? htk
          have fn := refname_call t (by have := bt t hm; omega)
          (conv=>arg 2;whnf);refine wp_load (cs := elC e) 0 rfl rfl ?_
          (conv=>arg 2;whnf);refine wp_elem k (str t) rfl (by rw [List.getElem?_map, htk]; rfl) (Vle.refl _) ?_
          (conv=>arg 2;whnf);refine wp_pcall fn ?_
          (conv=>arg 2;whnf);refine wp_ite (fun g8 => ?_) (fun g8 => ?_)
          · have g8 : isNm t = false := by simpa using g8
            (conv=>arg 2;whnf)
            refine wp_leaf (loop_ret ?_)
            (conv=>arg 2;whnf)
            refine wp_leaf (loop_ret ?_)
            (conv=>arg 2;whnf);refine w_retp rfl (Vle.eq (cBool (isPa_el hen (okAt_el (isEl_ty hm g8))).symm))
          · have g8 : isNm t = true := by simpa using g8
            (conv=>arg 2;whnf)
            refine wp_leaf (loop_next (e.ty.length - (k + 1)) _ _ (by omega) (.cons (.refl _) (.cons (.refl _) (.cons (.refl _) (.cons (.refl _) (.cons (Vle.inc k rfl (by omega)) (.nil _)))))) (List.Sublist.refl _) ⟨k + 1, rfl, hk1, rfl, ?_, rfl⟩)
            rw [List.take_add_one, htk, List.all_append, hnm]
            simp [g8]
        · have hk1 : k = e.ty.length := by have := of_decide_eq_false hk1; rw [List.length_map] at this; omega
          subst hk1
          rw [List.take_length] at hnm
          have hend := isEl_end g1 g3 g4 g5 g6 hnm
          have next : isElB e = true → ((List.range (n + 1)).all fun i => okAtB p.els i (p.els.getD i el0)) = true := fun g => by
            rw [List.range_succ, List.all_append, hall]
            simp only [List.all_cons, List.all_nil]
            rw [getDx hen, okAt_end g g2 g7]; rfl
          (conv=>arg 2;whnf)
          refine wp_leaf (loop_exit ?_)
          (conv=>arg 2;whnf);refine wp_load (cs := elC e) 0 rfl rfl ?_
          (conv=>arg 2;whnf);refine wp_pcallV (.cons (.refl _) (.cons zero_vle .nil)) fs ?_
          (conv=>arg 2;whnf);refine wp_ite (fun g9 => ?_) (fun g9 => ?_)
          · have g9 : zeroB e.cond = false := by simpa using g9
            (conv=>arg 2;whnf);refine wp_load (cs := elC e) 0 rfl rfl ?_
            (conv=>arg 2;whnf);refine wp_pcall fi ?_
            (conv=>arg 2;whnf);refine wp_ite (fun g10 => ?_) (fun g10 => ?_)
            · have g10 : isExB e.cond = false := by simpa using g10
              (conv=>arg 2;whnf)
              refine wp_leaf (loop_ret ?_)
              (conv=>arg 2;whnf);refine w_retp rfl (Vle.eq (cBool (isPa_el hen (okAt_el (by rw [hend, g9, g10]; rfl))).symm))
            · have g10 : isExB e.cond = true := by simpa using g10
              (conv=>arg 2;whnf)
              refine wp_leaf (loop_next (p.els.length - (n + 1)) _ _ (by omega) (.cons (.refl _) (.cons (.refl _) (.cons (Vle.inc n rfl (by omega)) (.nil _)))) (List.nil_sublist _) ⟨n + 1, rfl, h, rfl, next (by rw [hend, g9, g10]; rfl), rfl⟩)
          · have g9 : zeroB e.cond = true := by simpa using g9
            (repeat ((conv=>arg 2;whnf);first|refine wp_it rfl ?_|refine wp_if rfl ?_))
            (conv=>arg 2;whnf)
            refine wp_leaf (loop_next (p.els.length - (n + 1)) _ _ (by omega) (.cons (.refl _) (.cons (.refl _) (.cons (Vle.inc n rfl (by omega)) (.nil _)))) (List.nil_sublist _) ⟨n + 1, rfl, h, rfl, next (by rw [hend, g9]; rfl), rfl⟩)
    · have h : n = p.els.length := by have := of_decide_eq_false h; omega
      subst h
      (conv=>arg 2;whnf)
      refine wp_leaf (loop_exit ?_)
      (conv=>arg 2;whnf);refine w_retp rfl (Vle.eq (cBool (isPa_end h1 h2 h3 h4 h5 h6 h7 hall).symm))
  · have hq : p.by_ = [] := Classical.byContradiction fun e => by
      have := (nilS_ne (l := p.by_)).symm.trans hq
      rw [decide_eq_false e] at this; cases this
    have h7 : p.by_ = [] ∨ isNm p.by_ = true := .inl hq
    (repeat ((conv=>arg 2;whnf);first|refine wp_it rfl ?_|refine wp_if rfl ?_))
    (conv=>arg 2;whnf);refine wp_elem 0 (.agg (elC e0)) rfl (els_at he0) (Vle.refl _) ?_
    (conv=>arg 2;whnf);refine wp_ite (fun h3 => ?_) (fun h3 => ?_)
    · have h3 : ntAt p.els 0 = true := (ntAt_of he0).trans h3
      (repeat ((conv=>arg 2;whnf);first|refine wp_it rfl ?_|refine wp_if rfl ?_))
      (conv=>arg 2;whnf);refine w_retp rfl (Vle.eq (cBool (isPa_first h3).symm))
    have h3 : ntAt p.els 0 = false := (ntAt_of he0).trans h3
    (conv=>arg 2;whnf);refine wp_elem (p.els.length - 1) (.agg (elC e1)) ws (els_at he1) (Vle.refl _) ?_
    (conv=>arg 2;whnf);refine wp_ite (fun h4 => ?_) (fun h4 => ?_)
    · have h4 : ntAt p.els (p.els.length - 1) = true := (ntAt_of he1).trans h4
      (repeat ((conv=>arg 2;whnf);first|refine wp_it rfl ?_|refine wp_if rfl ?_))
      (conv=>arg 2;whnf);refine w_retp rfl (Vle.eq (cBool (isPa_last h4).symm))
    have h4 : ntAt p.els (p.els.length - 1) = false := (ntAt_of he1).trans h4
    (conv=>arg 2;whnf);refine wp_loop (fun m fr R => ∃ n : Nat, m = p.els.length - n ∧ n ≤ p.els.length ∧ R = [] ∧ ((List.range n).all fun i => okAtB p.els i (p.els.getD i el0)) = true ∧ fr = frL [(1, .pt (some 4) (.agg (paC p)) 0), (3, i64V p.els.length), (4, i64V n)])
      p.els.length _ _ (.cons (.refl _) (.cons (Vle.eq ?_) (.cons (.refl _) (.nil _)))) (List.Sublist.refl _) ⟨0, rfl, Nat.zero_le _, rfl, rfl, rfl⟩ ?_
    · show V.c (.int .i64 (p.els.map elV).length) = _
      rw [List.length_map]; rfl
    rintro m fr R ⟨n, rfl, hn, rfl, hall, rfl⟩
    (conv=>arg 2;whnf);refine wp_ite (fun h => ?_) (fun h => ?_)
    · have h : n < p.els.length := by have := of_decide_eq_true h; omega
      obtain ⟨e, hen⟩ : ∃ e, p.els[n]? = some e := ⟨_, List.getElem?_eq_getElem h⟩
      have hbd := he e (List.mem_of_getElem? hen)
      obtain ⟨ba, bl, bt, bx⟩ := hbd
      have fn := refname_call e.al (by omega)
      have fa := alias_call p.els e.al (by omega)
      have fr := refrise_call e.ty (by omega)
      have fs := refsame0_call e.cond bx.kids
      have fi := refisexpr_call e.cond bx.1 bx.2.1 bx.2.2.2
      rw [isEx_same] at fi
      (conv=>arg 2;whnf);refine wp_elem n (.agg (elC e)) rfl (els_at hen) (Vle.refl _) ?_
      (conv=>arg 2;whnf);refine wp_allocE elZ rfl fun b => ?_
      (conv=>arg 2;whnf);refine wp_storeE (cs := elZ) 0 0 (elC e) rfl rfl (VleL.refl _) (Nat.le_refl _) rfl (R' := [.obj b (elC e)]) rfl ?_
      (conv=>arg 2;whnf);refine wp_load (cs := elC e) 0 rfl rfl ?_
      (conv=>arg 2;whnf);refine wp_pcall fn ?_
      (conv=>arg 2;whnf);refine wp_ite (fun g1 => ?_) (fun g1 => ?_)
      · have g1 : isNm e.al = false := by simpa using g1
        (repeat ((conv=>arg 2;whnf);first|refine wp_it rfl ?_|refine wp_if rfl ?_))
        (conv=>arg 2;whnf)
        refine wp_leaf (loop_ret ?_)
        (conv=>arg 2;whnf);refine w_retp rfl (Vle.eq (cBool (isPa_el hen (okAt_el (isEl_name g1))).symm))
      have g1 : isNm e.al = true := by simpa using g1
      (conv=>arg 2;whnf);refine wp_load (cs := elC e) 0 rfl rfl ?_
      (conv=>arg 2;whnf);refine wp_pcall fa ?_
      (conv=>arg 2;whnf);refine wp_ite (fun g2 => ?_) (fun g2 => ?_)
      · have g2 : aliasI p.els e.al ≠ n := by simpa using g2
        have g2 : twiceB p.els n e.al = true := by
          cases ht : twiceB p.els n e.al with
          | true => rfl
          | false => exact (g2 ((aliasI_iff hen).2 ht)).elim
        (repeat ((conv=>arg 2;whnf);first|refine wp_it rfl ?_|refine wp_if rfl ?_))
        (conv=>arg 2;whnf)
        refine wp_leaf (loop_ret ?_)
        (conv=>arg 2;whnf);refine w_retp rfl (Vle.eq (cBool (isPa_el hen (okAt_twice g2)).symm))
      have g2 : aliasI p.els e.al = n := by simpa using g2
      have g2 : twiceB p.els n e.al = false := (aliasI_iff hen).1 g2
      (conv=>arg 2;whnf);refine wp_load (cs := elC e) 0 rfl rfl ?_
      (conv=>arg 2;whnf);refine wp_ite (fun g3 => ?_) (fun g3 => ?_)
      · have g3 : e.ty.length < 1 := by have := of_decide_eq_true g3; rw [List.length_map] at this; omega
        (repeat ((conv=>arg 2;whnf);first|refine wp_it rfl ?_|refine wp_if rfl ?_))
        (conv=>arg 2;whnf)
        refine wp_leaf (loop_ret ?_)
        (conv=>arg 2;whnf);refine w_retp rfl (Vle.eq (cBool (isPa_el hen (okAt_el (isEl_few g3))).symm))
      have g3 : 1 ≤ e.ty.length := by have := of_decide_eq_false g3; rw [List.length_map] at this; omega
      (conv=>arg 2;whnf);refine wp_load (cs := elC e) 0 rfl rfl ?_
      (conv=>arg 2;whnf);refine wp_ite (fun g4 => ?_) (fun g4 => ?_)
      · have g4 : 3 < e.ty.length := by have := of_decide_eq_true g4; rw [List.length_map] at this; omega
        (repeat ((conv=>arg 2;whnf);first|refine wp_it rfl ?_|refine wp_if rfl ?_))
        (conv=>arg 2;whnf)
        refine wp_leaf (loop_ret ?_)
        (conv=>arg 2;whnf);refine w_retp rfl (Vle.eq (cBool (isPa_el hen (okAt_el (isEl_many g4))).symm))
      have g4 : e.ty.length ≤ 3 := by have := of_decide_eq_false g4; rw [List.length_map] at this; omega
      (conv=>arg 2;whnf);refine wp_load (cs := elC e) 0 rfl rfl ?_
      (conv=>arg 2;whnf);refine wp_pcall fr ?_
      (conv=>arg 2;whnf);refine wp_ite (fun g5 => ?_) (fun g5 => ?_)
      · have g5 : riseB e.ty = false := by simpa using g5
        (repeat ((conv=>arg 2;whnf);first|refine wp_it rfl ?_|refine wp_if rfl ?_))
        (conv=>arg 2;whnf)
        refine wp_leaf (loop_ret ?_)
        (conv=>arg 2;whnf);refine w_retp rfl (Vle.eq (cBool (isPa_el hen (okAt_el (isEl_rise g5))).symm))
      have g5 : riseB e.ty = true := by simpa using g5
      have pf : e.plus = false → (e.plus && e.nt) = false := fun h => by rw [h, Bool.false_and]
      have nf : e.nt = false → (e.plus && e.nt) = false := fun h => by rw [h, Bool.and_false]
      have nf' : e.nt = false → (e.nt && (decide (0 < n) && ntAt p.els (n - 1))) = false := fun h => by rw [h, Bool.false_and]
      have n0f : ¬ 0 < n → (e.nt && (decide (0 < n) && ntAt p.els (n - 1))) = false := fun h => by rw [decide_eq_false h]; simp
      have pvf : ntAt p.els (n - 1) = false → (e.nt && (decide (0 < n) && ntAt p.els (n - 1))) = false := fun h => by rw [h]; simp
      have nqt : e.nt = false → e.nt = true → False := fun h h' => by rw [h] at h'; cases h'
      have i0 : decide ((n : Int) > 0) = false → ¬ 0 < n := fun h => by have := of_decide_eq_false h; omega
      have i1 : decide ((n : Int) > 0) = true → 0 < n := fun h => by have := of_decide_eq_true h; omega
      have wsn : 0 < n → IntKind.i64.wrap ((n : Int) - 1) = ((n - 1 : Nat) : Int) := fun h => wsub (by omega : ((n : Nat) : Int) - 1 = ((n - 1 : Nat) : Int)) (by omega) (by omega)
      have hy : 0 < n → p.els[n - 1]? = some (p.els.getD (n - 1) el0) := fun h0 => by
        have hx : p.els[n - 1]? = some p.els[n - 1] := List.getElem?_eq_getElem (by omega)
        rw [getDx hx]; exact hx
      apply @wp_joinT _ ((e.plus && e.nt) = false → (e.nt && (decide (0 < n) && ntAt p.els (n - 1))) = false → _)
      case h1 =>
        intro rest
        (conv=>arg 2;whnf);refine wp_load (cs := elC e) 0 rfl rfl ?_
        (conv=>arg 2;whnf);refine wp_ite (fun hp => ?_) (fun hp => ?_)
        · (conv=>arg 2;whnf);refine wp_load (cs := elC e) 0 rfl rfl ?_
          (conv=>arg 2;whnf);refine wp_ite (fun hq => ?_) (fun hq => ?_)
          · have hp : e.plus = true := hp
            have hq : e.nt = true := hq
            (repeat ((conv=>arg 2;whnf);first|refine wp_it rfl ?_|refine wp_if rfl ?_))
            (conv=>arg 2;whnf)
            refine wp_leaf (loop_ret ?_)
            (conv=>arg 2;whnf);refine w_retp rfl (Vle.eq (cBool (isPa_el hen (okAt_el (isEl_both hp hq))).symm))
          · have hq : e.nt = false := hq
            (repeat ((conv=>arg 2;whnf);first|refine wp_it rfl ?_|refine wp_if rfl ?_))
            (conv=>arg 2;whnf);refine wp_ite (fun h0 => ?_) (fun h0 => ?_)
            · (conv=>arg 2;whnf);refine wp_load (cs := elC e) 0 rfl rfl ?_
              (conv=>arg 2;whnf);refine wp_ite (fun hq' => (nqt hq hq').elim) (fun _ => ?_)
              (repeat ((conv=>arg 2;whnf);first|refine wp_it rfl ?_|refine wp_if rfl ?_))
              (conv=>arg 2;whnf)
              exact wp_cutR (frL [(1, .pt (some 4) (.agg (paC p)) 0), (3, i64V p.els.length), (4, i64V n), (5, .loc b 0)]) [.obj b (elC e)] (.cons (.refl _) (.cons (.refl _) (.cons (.refl _) (.cons (.refl _) (.nil _))))) (List.Sublist.refl _) (rest (nf hq) (nf' hq))
            · (repeat ((conv=>arg 2;whnf);first|refine wp_it rfl ?_|refine wp_if rfl ?_))
              (conv=>arg 2;whnf)
              exact wp_cutR (frL [(1, .pt (some 4) (.agg (paC p)) 0), (3, i64V p.els.length), (4, i64V n), (5, .loc b 0)]) [.obj b (elC e)] (.cons (.refl _) (.cons (.refl _) (.cons (.refl _) (.cons (.refl _) (.nil _))))) (List.Sublist.refl _) (rest (nf hq) (nf' hq))
        · have hp : e.plus = false := hp
          (repeat ((conv=>arg 2;whnf);first|refine wp_it rfl ?_|refine wp_if rfl ?_))
          (conv=>arg 2;whnf);refine wp_ite (fun h0 => ?_) (fun h0 => ?_)
          · (conv=>arg 2;whnf);refine wp_load (cs := elC e) 0 rfl rfl ?_
            (conv=>arg 2;whnf);refine wp_ite (fun hq => ?_) (fun hq => ?_)
            · have hq : e.nt = true := hq
              (conv=>arg 2;whnf);refine wp_elem (n - 1) (.agg (elC (p.els.getD (n - 1) el0))) (wsn (i1 h0)) (els_at (hy (i1 h0))) (Vle.refl _) ?_
              (conv=>arg 2;whnf);refine wp_ite (fun hz => ?_) (fun hz => ?_)
              · have hz : ntAt p.els (n - 1) = true := (ntAt_of (hy (i1 h0))).trans hz
                (repeat ((conv=>arg 2;whnf);first|refine wp_it rfl ?_|refine wp_if rfl ?_))
                (conv=>arg 2;whnf)
                refine wp_leaf (loop_ret ?_)
                (conv=>arg 2;whnf);refine w_retp rfl (Vle.eq (cBool (isPa_el hen (okAt_nt hq (i1 h0) hz)).symm))
              · have hz : ntAt p.els (n - 1) = false := (ntAt_of (hy (i1 h0))).trans hz
                (repeat ((conv=>arg 2;whnf);first|refine wp_it rfl ?_|refine wp_if rfl ?_))
                (conv=>arg 2;whnf)
                exact wp_cutR (frL [(1, .pt (some 4) (.agg (paC p)) 0), (3, i64V p.els.length), (4, i64V n), (5, .loc b 0)]) [.obj b (elC e)] (.cons (.refl _) (.cons (.refl _) (.cons (.refl _) (.cons (.refl _) (.nil _))))) (List.Sublist.refl _) (rest (pf hp) (pvf hz))
            · have hq : e.nt = false := hq
              (repeat ((conv=>arg 2;whnf);first|refine wp_it rfl ?_|refine wp_if rfl ?_))
              (conv=>arg 2;whnf)
              exact wp_cutR (frL [(1, .pt (some 4) (.agg (paC p)) 0), (3, i64V p.els.length), (4, i64V n), (5, .loc b 0)]) [.obj b (elC e)] (.cons (.refl _) (.cons (.refl _) (.cons (.refl _) (.cons (.refl _) (.nil _))))) (List.Sublist.refl _) (rest (pf hp) (nf' hq))
          · (repeat ((conv=>arg 2;whnf);first|refine wp_it rfl ?_|refine wp_if rfl ?_))
            (conv=>arg 2;whnf)
            exact wp_cutR (frL [(1, .pt (some 4) (.agg (paC p)) 0), (3, i64V p.els.length), (4, i64V n), (5, .loc b 0)]) [.obj b (elC e)] (.cons (.refl _) (.cons (.refl _) (.cons (.refl _) (.cons (.refl _) (.nil _))))) (List.Sublist.refl _) (rest (pf hp) (n0f (i0 h0)))
      case rest =>
        intro g6 g7
        (conv=>arg 2;whnf);refine wp_loop (fun m fr R => ∃ k : Nat, m = e.ty.length - k ∧ k ≤ e.ty.length ∧ R = [.obj b (elC e)] ∧ (e.ty.take k).all isNm = true ∧ fr = frL [(1, .pt (some 4) (.agg (paC p)) 0), (3, i64V p.els.length), (4, i64V n), (5, .loc b 0), (6, i64V k)])
          e.ty.length _ _ (.cons (.refl _) (.cons (.refl _) (.cons (.refl _) (.cons (.refl _) (.cons (.refl _) (.nil _)))))) (List.Sublist.refl _) ⟨0, rfl, Nat.zero_le _, rfl, rfl, rfl⟩ ?_
        rintro m fr R ⟨k, rfl, hk, rfl, hnm, rfl⟩
        (conv=>arg 2;whnf);refine wp_load (cs := elC e) 0 rfl rfl ?_
        (conv=>arg 2;whnf);refine wp_ite (fun hk1 => ?_) (fun hk1 => ?_)
        · have hk1 : k < e.ty.length := by have := of_decide_eq_true hk1; rw [List.length_map] at this; omega
          obtain ⟨t, htk⟩ : ∃ t, e.ty[k]? = some t := ⟨_, List.getElem?_eq_getElem hk1⟩
          have hm := List.mem_of_getElem? htk
          have fn := refname_call t (by have := bt t hm; omega)
          (conv=>arg 2;whnf);refine wp_load (cs := elC e) 0 rfl rfl ?_
          (conv=>arg 2;whnf);refine wp_elem k (str t) rfl (by rw [List.getElem?_map, htk]; rfl) (Vle.refl _) ?_
          (conv=>arg 2;whnf);refine wp_pcall fn ?_
          (conv=>arg 2;whnf);refine wp_ite (fun g8 => ?_) (fun g8 => ?_)
          · have g8 : isNm t = false := by simpa using g8
            (conv=>arg 2;whnf)
            refine wp_leaf (loop_ret ?_)
            (conv=>arg 2;whnf)
            refine wp_leaf (loop_ret ?_)
            (conv=>arg 2;whnf);refine w_retp rfl (Vle.eq (cBool (isPa_el hen (okAt_el (isEl_ty hm g8))).symm))
          · have g8 : isNm t = true := by simpa using g8
            (conv=>arg 2;whnf)
            refine wp_leaf (loop_next (e.ty.length - (k + 1)) _ _ (by omega) (.cons (.refl _) (.cons (.refl _) (.cons (.refl _) (.cons (.refl _) (.cons (Vle.inc k rfl (by omega)) (.nil _)))))) (List.Sublist.refl _) ⟨k + 1, rfl, hk1, rfl, ?_, rfl⟩)
            rw [List.take_add_one, htk, List.all_append, hnm]
            simp [g8]
        · have hk1 : k = e.ty.length := by have := of_decide_eq_false hk1; rw [List.length_map] at this; omega
          subst hk1
          rw [List.take_length] at hnm
          have hend := isEl_end g1 g3 g4 g5 g6 hnm
          have next : isElB e = true → ((List.range (n + 1)).all fun i => okAtB p.els i (p.els.getD i el0)) = true := fun g => by
            rw [List.range_succ, List.all_append, hall]
            simp only [List.all_cons, List.all_nil]
            rw [getDx hen, okAt_end g g2 g7]; rfl
          (conv=>arg 2;whnf)
          refine wp_leaf (loop_exit ?_)
          (conv=>arg 2;whnf);refine wp_load (cs := elC e) 0 rfl rfl ?_
          (conv=>arg 2;whnf);refine wp_pcallV (.cons (.refl _) (.cons zero_vle .nil)) fs ?_
          (conv=>arg 2;whnf);refine wp_ite (fun g9 => ?_) (fun g9 => ?_)
          · have g9 : zeroB e.cond = false := by simpa using g9
            (conv=>arg 2;whnf);refine wp_load (cs := elC e) 0 rfl rfl ?_
            (conv=>arg 2;whnf);refine wp_pcall fi ?_
            (conv=>arg 2;whnf);refine wp_ite (fun g10 => ?_) (fun g10 => ?_)
            · have g10 : isExB e.cond = false := by simpa using g10
              (conv=>arg 2;whnf)
              refine wp_leaf (loop_ret ?_)
              (conv=>arg 2;whnf);refine w_retp rfl (Vle.eq (cBool (isPa_el hen (okAt_el (by rw [hend, g9, g10]; rfl))).symm))
            · have g10 : isExB e.cond = true := by simpa using g10
              (conv=>arg 2;whnf)
              refine wp_leaf (loop_next (p.els.length - (n + 1)) _ _ (by omega) (.cons (.refl _) (.cons (.refl _) (.cons (Vle.inc n rfl (by omega)) (.nil _)))) (List.nil_sublist _) ⟨n + 1, rfl, h, rfl, next (by rw [hend, g9, g10]; rfl), rfl⟩)
          · have g9 : zeroB e.cond = true := by simpa using g9
            (repeat ((conv=>arg 2;whnf);first|refine wp_it rfl ?_|refine wp_if rfl ?_))
            (conv=>arg 2;whnf)
            refine wp_leaf (loop_next (p.els.length - (n + 1)) _ _ (by omega) (.cons (.refl _) (.cons (.refl _) (.cons (Vle.inc n rfl (by omega)) (.nil _)))) (List.nil_sublist _) ⟨n + 1, rfl, h, rfl, next (by rw [hend, g9]; rfl), rfl⟩)
    · have h : n = p.els.length := by have := of_decide_eq_false h; omega
      subst h
      (conv=>arg 2;whnf)
      refine wp_leaf (loop_exit ?_)
      (conv=>arg 2;whnf);refine w_retp rfl (Vle.eq (cBool (isPa_end h1 h2 h3 h4 h5 h6 h7 hall).symm))
end Go.Sv
namespace Go.Sv
open Go Go.Proofs
def fkOk (s : Sc) (x : El) (f : List UInt8) : Bool := x.ty.all fun t => match findT s t with
  | none => false
  | some ty => decide (0 ≤ fieldI ty f)
def fkAt (s : Sc) (f t : List UInt8) : Int := match findT s t with
  | none => 0
  | some ty => (ty.flds.getD (fieldI ty f).toNat fd0).kind
def fkSame (s : Sc) (x : El) (f : List UInt8) : Bool := (List.range x.ty.length).all fun i => decide (i = 0) || decide (fkAt s f (x.ty.getD i []) = fkAt s f (x.ty.getD (i - 1) []))
def fieldKindE (s : Sc) (x : El) (f : List UInt8) : Int × Int :=
  if fkOk s x f then (if fkSame s x f then ((if x.ty = [] then 0 else fkAt s f (x.ty.getD (x.ty.length - 1) [])), 0) else (0, 14)) else (0, 13)
def pairI (x : Int × Int) : V := .tup [i64V x.1, i64V x.2]
theorem fd_at {t : Ty} {f : List UInt8} (h : 0 ≤ fieldI t f) : ∃ fd, t.flds[(fieldI t f).toNat]? = some fd ∧ t.flds.getD (fieldI t f).toNat fd0 = fd := by
  unfold fieldI idxI at h ⊢
  split
  · rename_i ha
    obtain ⟨y, h1, _, _⟩ := idx_get ha
    exact ⟨y, by simpa using h1, getD_at (by simpa using h1)⟩
  · rename_i ha
    rw [if_neg ha] at h
    omega
set_option maxRecDepth 100000 in
set_option maxHeartbeats 2000000 in
theorem rfieldkind_call (s : Sc) (hs : ScOk s) (x : El) (hx : x.ty.length < 2 ^ 60) (f : List UInt8) : PCall Tryz.prog 22 [scV s, .agg (elC x), str f] (pairI (fieldKindE s x f)) := by
  refine scall_of (live := []) (ords := [(6, []), (9, []), (13, [])]) Tryz.func22 rfl (by kernel_rfl) (by kernel_rfl) (Nat.le_of_ble_eq_true rfl) ?_
  (conv=>arg 2;whnf);refine wp_loop (fun m fr R => ∃ n : Nat, m = x.ty.length - n ∧ n ≤ x.ty.length ∧ R = [] ∧ (x.ty.take n).all (fun t => match findT s t with | none => false | some ty => decide (0 ≤ fieldI ty f)) = true ∧ fr = frL [(2, str f), (3, .pt (some 1) (scV s) 0), (4, .pt (some 11) (.agg (elC x)) 0), (8, i64V 0), (9, i64V n)])
    x.ty.length _ _ (.cons (.refl _) (.cons (.refl _) (.cons (.refl _) (.cons (.refl _) (.cons (.refl _) (.nil _)))))) (List.Sublist.refl _) ⟨0, rfl, Nat.zero_le _, rfl, rfl, rfl⟩ ?_
  rintro m fr R ⟨n, rfl, hn, rfl, ha, rfl⟩
  (conv=>arg 2;whnf);refine wp_ite (fun h => ?_) (fun h => ?_)
  · have h : n < x.ty.length := by
      have := of_decide_eq_true h
      rw [List.length_map] at this; omega
    obtain ⟨t, ht⟩ : ∃ t, x.ty[n]? = some t := ⟨_, List.getElem?_eq_getElem h⟩
    have f1 := rfind_call s hs.1 t
    have hmiss : (match findT s t with | none => false | some ty => decide (0 ≤ fieldI ty f)) = false → fieldKindE s x f = (0, 13) := fun e => by
      rw [fieldKindE, show fkOk s x f = false from all_miss ht e]; rfl
    cases hf : findT s t with
    | none =>
      rw [hf] at f1
      have hr := hmiss (by rw [hf])
      have f2 := rfield_call ty0 (by decide) f
      rw [hr]
      (conv=>arg 2;whnf);refine wp_elem n (str t) rfl (strs_at ht) (Vle.refl _) ?_
      (conv=>arg 2;whnf);refine wp_pc f1 ?_
      (conv=>arg 2;whnf);refine wp_allocE tyZ rfl fun d => ?_
      (conv=>arg 2;whnf);refine wp_storeE (cs := tyZ) 0 0 (tyC ty0) rfl rfl (VleL.refl _) (Nat.le_refl _) rfl (R' := [.obj d (tyC ty0)]) rfl ?_
      (conv=>arg 2;whnf)
      refine wp_cutP (frL [(2, str f), (10, .pt (some 2) (tyV ty0) 0), (11, bV false)]) [] [.obj d (tyC ty0)] (.cons (.refl _) (.cons (.all (List.Mem.head _) rfl (by decide) (VleL.refl _)) (.cons (.refl _) (.nil _)))) ?_
      (conv=>arg 2;whnf);refine wp_pcall f2 ?_
      (repeat ((conv=>arg 2;whnf);first|refine wp_it rfl ?_|refine wp_if rfl ?_))
      (conv=>arg 2;whnf)
      refine wp_leaf (loop_ret ?_)
      (conv=>arg 2;whnf);refine w_ret2 rfl (Vle.refl _) (Vle.refl _) (List.nil_sublist _) rfl
    | some ty =>
      rw [hf] at f1
      have f2 := rfield_call ty (hs.2 ty (findT_mem hf)) f
      (conv=>arg 2;whnf);refine wp_elem n (str t) rfl (strs_at ht) (Vle.refl _) ?_
      (conv=>arg 2;whnf);refine wp_pc f1 ?_
      (conv=>arg 2;whnf);refine wp_allocE tyZ rfl fun d => ?_
      (conv=>arg 2;whnf);refine wp_storeE (cs := tyZ) 0 0 (tyC ty) rfl rfl (VleL.refl _) (Nat.le_refl _) rfl (R' := [.obj d (tyC ty)]) rfl ?_
      (conv=>arg 2;whnf)
      refine wp_cutP (frL [(2, str f), (3, .pt (some 1) (scV s) 0), (4, .pt (some 11) (.agg (elC x)) 0), (8, i64V 0), (9, i64V n), (10, .pt (some 2) (tyV ty) 0), (11, bV true)]) [] [.obj d (tyC ty)] (.cons (.refl _) (.cons (.refl _) (.cons (.refl _) (.cons (.refl _) (.cons (.refl _) (.cons (.all (List.Mem.head _) rfl (by decide) (VleL.refl _)) (.cons (.refl _) (.nil _)))))))) ?_
      (conv=>arg 2;whnf);refine wp_pcall f2 ?_
      (repeat ((conv=>arg 2;whnf);first|refine wp_it rfl ?_|refine wp_if rfl ?_))
      (conv=>arg 2;whnf);refine wp_ite (fun h1 => ?_) (fun h1 => ?_)
      · have h1 : decide (0 ≤ fieldI ty f) = false := decide_eq_false (by have := of_decide_eq_true h1; omega)
        have hr := hmiss (by rw [hf]; exact h1)
        rw [hr]
        (conv=>arg 2;whnf)
        refine wp_leaf (loop_ret ?_)
        (conv=>arg 2;whnf);refine w_ret2 rfl (Vle.refl _) (Vle.refl _) (List.nil_sublist _) rfl
      · have h1 : decide (0 ≤ fieldI ty f) = true := decide_eq_true (by have := of_decide_eq_false h1; omega)
        have hn' : (x.ty.take (n + 1)).all (fun t => match findT s t with | none => false | some ty => decide (0 ≤ fieldI ty f)) = true := all_next ha ht (by rw [hf]; exact h1)
        (conv=>arg 2;whnf)
        exact wp_leaf (loop_next (x.ty.length - (n + 1)) _ [] (by omega) (.cons (.refl _) (.cons (.refl _) (.cons (.refl _) (.cons (.refl _) (.cons (Vle.inc n rfl (by omega)) (.nil _)))))) (List.Sublist.refl _) ⟨n + 1, rfl, h, rfl, hn', rfl⟩)
  · have h : n = x.ty.length := by
      have := of_decide_eq_false h
      rw [List.length_map] at this; omega
    rw [h, List.take_length] at ha
    have hall : ∀ t ∈ x.ty, ∃ ty, findT s t = some ty ∧ 0 ≤ fieldI ty f := fun t ht => by
      have := List.all_eq_true.1 ha t ht
      cases hf : findT s t with
      | none => rw [hf] at this; cases this
      | some ty => rw [hf] at this; exact ⟨ty, rfl, of_decide_eq_true this⟩
    have hr : fieldKindE s x f = if fkSame s x f then ((if x.ty = [] then 0 else fkAt s f (x.ty.getD (x.ty.length - 1) [])), 0) else (0, 14) := by
      rw [fieldKindE, if_pos (show fkOk s x f = true from ha)]
    rw [hr]
    clear h hn ha hr
    (conv=>arg 2;whnf)
    refine wp_leaf (loop_exit ?_)
    refine wp_cutR (frL [(2, str f), (3, .pt (some 1) (scV s) 0), (4, .pt (some 11) (.agg (elC x)) 0), (8, i64V 0)]) [] (.cons (.refl _) (.cons (.refl _) (.cons (.refl _) (.cons (.refl _) (.nil _))))) (List.nil_sublist _) ?_
    (conv=>arg 2;whnf);refine wp_loop (fun m fr R => ∃ n : Nat, m = x.ty.length - n ∧ n ≤ x.ty.length ∧ R = [] ∧ (List.range n).all (fun i => decide (i = 0) || decide (fkAt s f (x.ty.getD i []) = fkAt s f (x.ty.getD (i - 1) []))) = true ∧ fr = frL [(2, str f), (3, .pt (some 1) (scV s) 0), (4, .pt (some 11) (.agg (elC x)) 0), (8, i64V (if n = 0 then 0 else fkAt s f (x.ty.getD (n - 1) []))), (13, i64V n)])
      x.ty.length _ _ (.cons (.refl _) (.cons (.refl _) (.cons (.refl _) (.cons (.refl _) (.cons (.refl _) (.nil _)))))) (List.Sublist.refl _) ⟨0, rfl, Nat.zero_le _, rfl, rfl, rfl⟩ ?_
    rintro m fr R ⟨n, rfl, hn, rfl, ha, rfl⟩
    (conv=>arg 2;whnf);refine wp_ite (fun h => ?_) (fun h => ?_)
    · have h : n < x.ty.length := by
        have := of_decide_eq_true h
        rw [List.length_map] at this; omega
      obtain ⟨t, ht⟩ : ∃ t, x.ty[n]? = some t := ⟨_, List.getElem?_eq_getElem h⟩
      obtain ⟨ty, hf, h0⟩ := hall t (List.mem_of_getElem? ht)
      obtain ⟨fd, hfd, hfd2⟩ := fd_at h0
      have f1 := rfind_call s hs.1 t
      have f2 := rfield_call ty (hs.2 ty (findT_mem hf)) f
      rw [hf] at f1
      have hgt : x.ty.getD n [] = t := getD_at ht
      have hk : fkAt s f (x.ty.getD n []) = fd.kind := by rw [hgt, fkAt, hf]; simp only [hfd2]
      have hidx : fieldI ty f = ((fieldI ty f).toNat : Int) := by omega
      obtain ⟨pk, hpk⟩ : ∃ pk, pk = (if n = 0 then 0 else fkAt s f (x.ty.getD (n - 1) [])) := ⟨_, rfl⟩
      have hstop : (decide (n = 0) || decide (fd.kind = pk)) = false → (if fkSame s x f then ((if x.ty = [] then 0 else fkAt s f (x.ty.getD (x.ty.length - 1) [])), 0) else (0, 14)) = ((0, 14) : Int × Int) := fun e => by
        rw [show fkSame s x f = false from rng_miss h (by
          rw [Bool.or_eq_false_iff] at e ⊢
          refine ⟨e.1, ?_⟩
          rw [hk]
          rw [hpk, if_neg (of_decide_eq_false e.1)] at e
          exact e.2)]
        rfl
      have hgo : (decide (n = 0) || decide (fd.kind = pk)) = true → (List.range (n + 1)).all (fun i => decide (i = 0) || decide (fkAt s f (x.ty.getD i []) = fkAt s f (x.ty.getD (i - 1) []))) = true := fun e => rng_next ha (by
        rw [Bool.or_eq_true] at e ⊢
        by_cases hn0 : n = 0
        · exact .inl (decide_eq_true hn0)
        · refine .inr ?_
          rw [hk]
          have := e.resolve_left (by rw [decide_eq_false hn0]; decide)
          rw [hpk, if_neg hn0] at this
          exact this)
      have hnk : fd.kind = (if n + 1 = 0 then 0 else fkAt s f (x.ty.getD (n + 1 - 1) [])) := by rw [if_neg (by omega), Nat.add_sub_cancel, hk]
      rw [← hpk]
      (conv=>arg 2;whnf);refine wp_elem n (str t) rfl (strs_at ht) (Vle.refl _) ?_
      (conv=>arg 2;whnf);refine wp_pc f1 ?_
      (conv=>arg 2;whnf);refine wp_allocE tyZ rfl fun d => ?_
      (conv=>arg 2;whnf);refine wp_storeE (cs := tyZ) 0 0 (tyC ty) rfl rfl (VleL.refl _) (Nat.le_refl _) rfl (R' := [.obj d (tyC ty)]) rfl ?_
      (conv=>arg 2;whnf)
      refine wp_cutP (frL [(2, str f), (3, .pt (some 1) (scV s) 0), (4, .pt (some 11) (.agg (elC x)) 0), (8, i64V pk), (13, i64V n), (14, .pt (some 2) (tyV ty) 0)]) [] [.obj d (tyC ty)] (.cons (.refl _) (.cons (.refl _) (.cons (.refl _) (.cons (.refl _) (.cons (.refl _) (.cons (.all (List.Mem.head _) rfl (by decide) (VleL.refl _)) (.nil _))))))) ?_
      (conv=>arg 2;whnf);refine wp_pc f2 ?_
      (conv=>arg 2;whnf);refine wp_elem (fieldI ty f).toNat (fdV fd) hidx (fds_at hfd) (Vle.refl _) ?_
      (conv=>arg 2;whnf);refine wp_ite (fun h1 => ?_) (fun h1 => ?_)
      · have h1 : n ≠ 0 := by have := of_decide_eq_true h1; omega
        (conv=>arg 2;whnf);refine wp_ite (fun h2 => ?_) (fun h2 => ?_)
        · have h2 : fd.kind ≠ pk := bne_iff_ne.1 h2
          have hr := hstop (by rw [decide_eq_false h1, decide_eq_false h2]; rfl)
          rw [hr]
          (conv=>arg 2;whnf)
          refine wp_leaf (loop_ret ?_)
          (conv=>arg 2;whnf);refine w_ret2 rfl (Vle.refl _) (Vle.refl _) (List.nil_sublist _) rfl
        · have h2 : fd.kind = pk := bne_eq_false_iff_eq.1 h2
          have hn' := hgo (by rw [decide_eq_true h2, Bool.or_true])
          (conv=>arg 2;whnf)
          exact wp_leaf (loop_next (x.ty.length - (n + 1)) _ [] (by omega) (.cons (.refl _) (.cons (.refl _) (.cons (.refl _) (.cons (Vle.of (i64V fd.kind) rfl (congrArg i64V hnk)) (.cons (Vle.inc n rfl (by omega)) (.nil _)))))) (List.Sublist.refl _) ⟨n + 1, rfl, h, rfl, hn', rfl⟩)
      · have h1 : n = 0 := by have := of_decide_eq_false h1; omega
        have hn' := hgo (by rw [decide_eq_true h1, Bool.true_or])
        (repeat ((conv=>arg 2;whnf);first|refine wp_it rfl ?_|refine wp_if rfl ?_))
        (conv=>arg 2;whnf)
        exact wp_leaf (loop_next (x.ty.length - (n + 1)) _ [] (by omega) (.cons (.refl _) (.cons (.refl _) (.cons (.refl _) (.cons (Vle.of (i64V fd.kind) rfl (congrArg i64V hnk)) (.cons (Vle.inc n rfl (by omega)) (.nil _)))))) (List.Sublist.refl _) ⟨n + 1, rfl, h, rfl, hn', rfl⟩)
    · have h : n = x.ty.length := by
        have := of_decide_eq_false h
        rw [List.length_map] at this; omega
      rw [h] at ha
      have hk : (if n = 0 then 0 else fkAt s f (x.ty.getD (n - 1) [])) = (if x.ty = [] then 0 else fkAt s f (x.ty.getD (x.ty.length - 1) [])) := by
        rw [h]
        by_cases he : x.ty = []
        · rw [if_pos he, if_pos (by rw [he]; rfl)]
        · rw [if_neg he, if_neg (fun e => he (List.eq_nil_of_length_eq_zero e))]
      rw [if_pos (show fkSame s x f = true from ha)]
      (conv=>arg 2;whnf)
      refine wp_leaf (loop_exit ?_)
      (conv=>arg 2;whnf);refine w_ret2 rfl (Vle.eq (congrArg i64V hk)) (Vle.refl _) (List.nil_sublist _) rfl
end Go.Sv
namespace Go.Sv
open Go Go.Proofs
def finK (op a b : Int) : Int × Int :=
  if op = 12 ∧ a = 3 then (3, 0) else if op = 12 ∨ a ≠ b then (0, 14) else if op ≤ 5 ∧ a = 1 then (1, 0) else if op = 6 ∨ op = 7 then (3, 0)
  else if (op = 8 ∨ op = 9) ∧ a ≠ 3 then (3, 0) else if (op = 10 ∨ op = 11) ∧ a = 3 then (3, 0) else (0, 14)
def opK (op : Int) (rs : List (Int × Int)) : Int × Int :=
  match rs.find? (fun r => decide (r.2 ≠ 0)) with
  | some r => (0, r.2)
  | none => finK op (rs.getD 0 (0, 0)).1 (rs.getD 1 (0, 0)).1
def kindE (s : Sc) (l : List El) : Nat → Ex → Int × Int
  | 0, _ => (0, 0)
  | k + 1, x => if x.op = 1 then (x.val.kind, 0) else if x.op = 2 then (if aliasI l x.al < 0 then (0, 13) else fieldKindE s (l.getD (aliasI l x.al).toNat el0) x.fd)
    else opK x.op (x.kids.map (kindE s l k))
def kindTop (s : Sc) (l : List El) (x : Ex) : Int × Int := if isExB x then kindE s l 5 x else (0, 10)
theorem alias_at {l : List El} {a : List UInt8} (h : ¬ aliasI l a < 0) : ∃ e, l[(aliasI l a).toNat]? = some e ∧ e ∈ l ∧ aliasI l a = ((aliasI l a).toNat : Int) := by
  unfold aliasI at h ⊢
  split
  · rename_i ha
    obtain ⟨y, h1, _, _⟩ := idx_get ha
    exact ⟨y, by simpa using h1, List.mem_of_getElem? h1, by omega⟩
  · rename_i ha; rw [if_neg ha] at h; omega
def cellK (rs : List (Int × Int)) (i : Nat) : List V := [i64V (if 0 < i then (rs.getD 0 (0, 0)).1 else 0), i64V (if 1 < i then (rs.getD 1 (0, 0)).1 else 0)]
theorem cellK_store {rs : List (Int × Int)} {i : Nat} (h : i < 2) {n e : Int} (hr : rs[i]? = some (n, e)) : splice (cellK rs i) i [i64V n] = cellK rs (i + 1) := by
  match i, h with
  | 0, _ => simp [cellK, splice, List.getD_eq_getElem?_getD, hr]
  | 1, _ => simp [cellK, splice, List.getD_eq_getElem?_getD, hr]
set_option maxRecDepth 100000 in
set_option maxHeartbeats 4000000 in
theorem rkind_kids (s : Sc) (l : List El) (x : Ex) (h1 : x.op ≠ 1) (h2 : x.op ≠ 2) (hk : x.kids.length ≤ 2) (g : Ex → Int × Int) (hg : ∀ y ∈ x.kids, PCall Tryz.prog 45 [scV s, elsV l, .agg (exC y)] (pairI (g y))) :
    PCall Tryz.prog 45 [scV s, elsV l, .agg (exC x)] (pairI (opK x.op (x.kids.map g))) := by
  have e1 : (x.op == 1) = false := by simpa using h1
  have e2 : (x.op == 2) = false := by simpa using h2
  refine scall_of (live := []) (ords := [(16, []), (18, []), (20, []), (22, []), (24, []), (26, []), (28, [])]) Tryz.func45 rfl (by kernel_rfl) (by kernel_rfl) (Nat.le_of_ble_eq_true rfl) ?_
  (conv=>arg 2;whnf);refine wp_if e1 ?_
  (conv=>arg 2;whnf);refine wp_if e2 ?_
  (conv=>arg 2;whnf);refine wp_allocE (cellK (x.kids.map g) 0) rfl fun c => ?_
  (conv=>arg 2;whnf);refine wp_loop (fun m fr R => ∃ n : Nat, m = x.kids.length - n ∧ n ≤ x.kids.length ∧ R = [.obj c (cellK (x.kids.map g) n)] ∧ ((x.kids.map g).take n).any (fun r => decide (r.2 ≠ 0)) = false ∧ fr = frL [(1, elsV l), (3, .pt (some 1) (scV s) 0), (5, .pt (some 7) (.agg (exC x)) 0), (9, .loc c 0), (10, i64V n)])
    x.kids.length _ _ (.cons (.refl _) (.cons (.refl _) (.cons (.refl _) (.cons (.refl _) (.cons (.refl _) (.nil _)))))) (List.Sublist.refl _) ⟨0, rfl, Nat.zero_le _, rfl, rfl, rfl⟩ ?_
  rintro m fr R ⟨n, rfl, hn, rfl, ha, rfl⟩
  (conv=>arg 2;whnf);refine wp_ite (fun h => ?_) (fun h => ?_)
  · have h : n < x.kids.length := by
      have := of_decide_eq_true h
      rw [List.length_map] at this; omega
    obtain ⟨y, hy⟩ : ∃ y, x.kids[n]? = some y := ⟨_, List.getElem?_eq_getElem h⟩
    have hyx : (x.kids.map exV)[n]? = some (.agg (exC y)) := by rw [List.getElem?_map, hy, ← exV_eq]; rfl
    have f1 := hg y (List.mem_of_getElem? hy)
    obtain ⟨n1, e1', hne⟩ : ∃ n1 e1', g y = (n1, e1') := ⟨_, _, rfl⟩
    rw [hne] at f1
    have hrs : (x.kids.map g)[n]? = some (n1, e1') := by rw [List.getElem?_map, hy, ← hne]; rfl
    have hst := cellK_store (rs := x.kids.map g) (i := n) (by omega) hrs
    (conv=>arg 2;whnf);refine wp_elem n (.agg (exC y)) rfl hyx (Vle.refl _) ?_
    (conv=>arg 2;whnf);refine wp_pc f1 ?_
    (conv=>arg 2;whnf);refine wp_ite (fun h3 => ?_) (fun h3 => ?_)
    · have h3 : decide (((n1, e1') : Int × Int).2 ≠ 0) = true := decide_eq_true (bne_iff_ne.1 h3)
      have hr : opK x.op (x.kids.map g) = (0, e1') := by rw [opK, find_hit ha hrs h3]
      rw [hr]
      (conv=>arg 2;whnf)
      refine wp_leaf (loop_ret ?_)
      (conv=>arg 2;whnf);refine w_ret2 rfl (Vle.refl _) (Vle.refl _) (List.nil_sublist _) rfl
    · have h3 : decide (((n1, e1') : Int × Int).2 ≠ 0) = false := decide_eq_false (fun e => e (bne_eq_false_iff_eq.1 h3))
      have hn' := any_next ha hrs h3
      (conv=>arg 2;whnf);refine wp_need ⟨by omega, by omega⟩ ?_
      (conv=>arg 2;whnf);refine wp_storeE (cs := cellK (x.kids.map g) n) 0 n [i64V n1] rfl (by show 0 + n * 1 = n; omega) (VleL.refl _) (by simp [cellK]; omega) rfl (R' := [.obj c (cellK (x.kids.map g) (n + 1))]) (by rw [hst]; rfl) ?_
      (conv=>arg 2;whnf)
      exact wp_leaf (loop_next (x.kids.length - (n + 1)) _ [.obj c (cellK (x.kids.map g) (n + 1))] (by omega) (.cons (.refl _) (.cons (.refl _) (.cons (.refl _) (.cons (.refl _) (.cons (Vle.inc n rfl (by omega)) (.nil _)))))) (List.Sublist.refl _) ⟨n + 1, rfl, h, rfl, hn', rfl⟩)
  · have h : n = x.kids.length := by
      have := of_decide_eq_false h
      rw [List.length_map] at this; omega
    have ha : (x.kids.map g).any (fun r => decide (r.2 ≠ 0)) = false := by
      rw [h, ← List.length_map (f := g), List.take_length] at ha; exact ha
    have hr : opK x.op (x.kids.map g) = finK x.op ((x.kids.map g).getD 0 (0, 0)).1 ((x.kids.map g).getD 1 (0, 0)).1 := by rw [opK, find_none ha]
    obtain ⟨A, hA⟩ : ∃ A, A = ((x.kids.map g).getD 0 (0, 0)).1 := ⟨_, rfl⟩
    obtain ⟨B, hB⟩ : ∃ B, B = ((x.kids.map g).getD 1 (0, 0)).1 := ⟨_, rfl⟩
    have hcell : cellK (x.kids.map g) n = [i64V A, i64V B] := by
      rw [cellK, hA, hB, h, ← List.length_map (f := g)]
      have hz : ∀ j, (if j < (x.kids.map g).length then ((x.kids.map g).getD j (0, 0)).1 else 0) = ((x.kids.map g).getD j (0, 0)).1 := fun j => by
        split
        · rfl
        · rename_i hj
          rw [List.getD_eq_getElem?_getD, List.getElem?_eq_none (by omega)]; rfl
      rw [hz 0, hz 1]
    rw [← hA, ← hB] at hr
    rw [hr, hcell]
    clear hr hcell hA hB ha h hn hg hk
    obtain ⟨op, hop⟩ : ∃ op, op = x.op := ⟨_, rfl⟩
    rw [← hop]
    (conv=>arg 2;whnf)
    refine wp_leaf (loop_exit ?_)
    refine wp_cutR (frL [(5, .pt (some 7) (.agg (exC x)) 0), (9, .loc c 0)]) [.obj c [i64V A, i64V B]] (.cons (.refl _) (.cons (.refl _) (.nil _))) (List.Sublist.refl _) ?_
    by_cases c1 : op = 12 ∧ A = 3
    · have e3 : (x.op == 12) = true := by rw [← hop]; simpa using c1.1
      have e4 : (A == 3) = true := by simpa using c1.2
      rw [finK, if_pos c1]
      (conv=>arg 2;whnf);refine wp_it e3 ?_
      (conv=>arg 2;whnf);refine wp_need (by decide) ?_
      (conv=>arg 2;whnf);refine wp_load (cs := [i64V A, i64V B]) 0 rfl rfl ?_
      (conv=>arg 2;whnf);refine wp_it e4 ?_
      (conv=>arg 2;whnf);refine w_ret2 rfl (Vle.refl _) (Vle.refl _) (List.nil_sublist _) rfl
    rw [finK, if_neg c1]
    apply wp_joinT
    case h1 =>
      intro rest
      (conv=>arg 2;whnf);refine wp_ite (fun h3 => ?_) (fun h3 => ?_)
      · have e4 : (A == 3) = false := by
          have h3 : op = 12 := by rw [hop]; simpa using h3
          have : A ≠ 3 := fun e => c1 ⟨h3, e⟩
          simpa using this
        (conv=>arg 2;whnf);refine wp_need (by decide) ?_
        (conv=>arg 2;whnf);refine wp_load (cs := [i64V A, i64V B]) 0 rfl rfl ?_
        (conv=>arg 2;whnf);refine wp_if e4 ?_
        (conv=>arg 2;whnf)
        exact wp_cutR (frL [(5, .pt (some 7) (.agg (exC x)) 0), (9, .loc c 0)]) [.obj c [i64V A, i64V B]] (.cons (.refl _) (.cons (.refl _) (.nil _))) (List.Sublist.refl _) rest
      · (repeat ((conv=>arg 2;whnf);first|refine wp_it rfl ?_|refine wp_if rfl ?_))
        exact wp_cutR (frL [(5, .pt (some 7) (.agg (exC x)) 0), (9, .loc c 0)]) [.obj c [i64V A, i64V B]] (.cons (.refl _) (.cons (.refl _) (.nil _))) (List.Sublist.refl _) rest
    case rest =>
      by_cases c2 : op = 12 ∨ A ≠ B
      · rw [if_pos c2]
        (conv=>arg 2;whnf);refine wp_ite (fun h3 => ?_) (fun h3 => ?_)
        · (repeat ((conv=>arg 2;whnf);first|refine wp_it rfl ?_|refine wp_if rfl ?_))
          (conv=>arg 2;whnf);refine w_ret2 rfl (Vle.refl _) (Vle.refl _) (List.nil_sublist _) rfl
        · have e4 : (A != B) = true := by
            have h3 : op ≠ 12 := by rw [hop]; simpa using h3
            have := c2.resolve_left h3
            simpa using this
          (conv=>arg 2;whnf);refine wp_need (by decide) ?_
          (conv=>arg 2;whnf);refine wp_load (cs := [i64V A, i64V B]) 0 rfl rfl ?_
          (conv=>arg 2;whnf);refine wp_need (by decide) ?_
          (conv=>arg 2;whnf);refine wp_load (cs := [i64V A, i64V B]) 0 rfl rfl ?_
          (conv=>arg 2;whnf);refine wp_it e4 ?_
          (conv=>arg 2;whnf);refine w_ret2 rfl (Vle.refl _) (Vle.refl _) (List.nil_sublist _) rfl
      rw [if_neg c2]
      have e3 : (x.op == 12) = false := by rw [← hop]; have := fun e => c2 (.inl e); simpa using this
      have e4 : (A != B) = false := by have := fun e => c2 (.inr e); simpa using this
      (conv=>arg 2;whnf);refine wp_if e3 ?_
      (conv=>arg 2;whnf);refine wp_need (by decide) ?_
      (conv=>arg 2;whnf);refine wp_load (cs := [i64V A, i64V B]) 0 rfl rfl ?_
      (conv=>arg 2;whnf);refine wp_need (by decide) ?_
      (conv=>arg 2;whnf);refine wp_load (cs := [i64V A, i64V B]) 0 rfl rfl ?_
      (conv=>arg 2;whnf);refine wp_if e4 ?_
      (conv=>arg 2;whnf)
      refine wp_cutR (frL [(5, .pt (some 7) (.agg (exC x)) 0), (9, .loc c 0)]) [.obj c [i64V A, i64V B]] (.cons (.refl _) (.cons (.refl _) (.nil _))) (List.Sublist.refl _) ?_
      by_cases c3 : op ≤ 5 ∧ A = 1
      · have e3 : decide (x.op ≤ 5) = true := by rw [← hop]; exact decide_eq_true c3.1
        have e4 : (A == 1) = true := by simpa using c3.2
        rw [if_pos c3]
        (conv=>arg 2;whnf);refine wp_it e3 ?_
        (conv=>arg 2;whnf);refine wp_need (by decide) ?_
        (conv=>arg 2;whnf);refine wp_load (cs := [i64V A, i64V B]) 0 rfl rfl ?_
        (conv=>arg 2;whnf);refine wp_it e4 ?_
        (conv=>arg 2;whnf);refine w_ret2 rfl (Vle.refl _) (Vle.refl _) (List.nil_sublist _) rfl
      rw [if_neg c3]
      apply wp_joinT
      case h1 =>
        intro rest
        (conv=>arg 2;whnf);refine wp_ite (fun h3 => ?_) (fun h3 => ?_)
        · have e4 : (A == 1) = false := by
            have h3 : op ≤ 5 := by rw [hop]; exact of_decide_eq_true h3
            have : A ≠ 1 := fun e => c3 ⟨h3, e⟩
            simpa using this
          (conv=>arg 2;whnf);refine wp_need (by decide) ?_
          (conv=>arg 2;whnf);refine wp_load (cs := [i64V A, i64V B]) 0 rfl rfl ?_
          (conv=>arg 2;whnf);refine wp_if e4 ?_
          (conv=>arg 2;whnf)
          exact wp_cutR (frL [(5, .pt (some 7) (.agg (exC x)) 0), (9, .loc c 0)]) [.obj c [i64V A, i64V B]] (.cons (.refl _) (.cons (.refl _) (.nil _))) (List.Sublist.refl _) rest
        · (repeat ((conv=>arg 2;whnf);first|refine wp_it rfl ?_|refine wp_if rfl ?_))
          exact wp_cutR (frL [(5, .pt (some 7) (.agg (exC x)) 0), (9, .loc c 0)]) [.obj c [i64V A, i64V B]] (.cons (.refl _) (.cons (.refl _) (.nil _))) (List.Sublist.refl _) rest
      case rest =>
        by_cases c4 : op = 6 ∨ op = 7
        · rw [if_pos c4]
          (conv=>arg 2;whnf);refine wp_ite (fun h3 => ?_) (fun h3 => ?_)
          · (repeat ((conv=>arg 2;whnf);first|refine wp_it rfl ?_|refine wp_if rfl ?_))
            (conv=>arg 2;whnf);refine w_ret2 rfl (Vle.refl _) (Vle.refl _) (List.nil_sublist _) rfl
          · have e4 : (x.op == 7) = true := by
              have h3 : op ≠ 6 := by rw [hop]; simpa using h3
              have := c4.resolve_left h3
              rw [← hop]; simpa using this
            (conv=>arg 2;whnf);refine wp_it e4 ?_
            (conv=>arg 2;whnf);refine w_ret2 rfl (Vle.refl _) (Vle.refl _) (List.nil_sublist _) rfl
        rw [if_neg c4]
        have e3 : (x.op == 6) = false := by rw [← hop]; have := fun e => c4 (.inl e); simpa using this
        have e4 : (x.op == 7) = false := by rw [← hop]; have := fun e => c4 (.inr e); simpa using this
        (conv=>arg 2;whnf);refine wp_if e3 ?_
        (conv=>arg 2;whnf);refine wp_if e4 ?_
        (conv=>arg 2;whnf)
        refine wp_cutR (frL [(5, .pt (some 7) (.agg (exC x)) 0), (9, .loc c 0)]) [.obj c [i64V A, i64V B]] (.cons (.refl _) (.cons (.refl _) (.nil _))) (List.Sublist.refl _) ?_
        by_cases c5 : (op = 8 ∨ op = 9) ∧ A ≠ 3
        · rw [if_pos c5]
          have e5 : (A != 3) = true := by simpa using c5.2
          (conv=>arg 2;whnf);refine wp_ite (fun h3 => ?_) (fun h3 => ?_)
          · (repeat ((conv=>arg 2;whnf);first|refine wp_it rfl ?_|refine wp_if rfl ?_))
            (conv=>arg 2;whnf);refine wp_need (by decide) ?_
            (conv=>arg 2;whnf);refine wp_load (cs := [i64V A, i64V B]) 0 rfl rfl ?_
            (conv=>arg 2;whnf);refine wp_it e5 ?_
            (conv=>arg 2;whnf);refine w_ret2 rfl (Vle.refl _) (Vle.refl _) (List.nil_sublist _) rfl
          · have e4 : (x.op == 9) = true := by
              have h3 : op ≠ 8 := by rw [hop]; simpa using h3
              have := c5.1.resolve_left h3
              rw [← hop]; simpa using this
            (conv=>arg 2;whnf);refine wp_it e4 ?_
            (conv=>arg 2;whnf);refine wp_need (by decide) ?_
            (conv=>arg 2;whnf);refine wp_load (cs := [i64V A, i64V B]) 0 rfl rfl ?_
            (conv=>arg 2;whnf);refine wp_it e5 ?_
            (conv=>arg 2;whnf);refine w_ret2 rfl (Vle.refl _) (Vle.refl _) (List.nil_sublist _) rfl
        rw [if_neg c5]
        apply wp_joinT
        case h1 =>
          intro rest
          have e5 : op = 8 ∨ op = 9 → (A != 3) = false := fun h => by
            have : ¬ A ≠ 3 := fun e => c5 ⟨h, e⟩
            simpa using this
          (conv=>arg 2;whnf);refine wp_ite (fun h3 => ?_) (fun h3 => ?_)
          · have h3 : op = 8 := by rw [hop]; simpa using h3
            have e5 := e5 (.inl h3)
            (repeat ((conv=>arg 2;whnf);first|refine wp_it rfl ?_|refine wp_if rfl ?_))
            (conv=>arg 2;whnf);refine wp_need (by decide) ?_
            (conv=>arg 2;whnf);refine wp_load (cs := [i64V A, i64V B]) 0 rfl rfl ?_
            (conv=>arg 2;whnf);refine wp_if e5 ?_
            (conv=>arg 2;whnf)
            exact wp_cutR (frL [(5, .pt (some 7) (.agg (exC x)) 0), (9, .loc c 0)]) [.obj c [i64V A, i64V B]] (.cons (.refl _) (.cons (.refl _) (.nil _))) (List.Sublist.refl _) rest
          · (conv=>arg 2;whnf);refine wp_ite (fun h4 => ?_) (fun h4 => ?_)
            · have h4 : op = 9 := by rw [hop]; simpa using h4
              have e5 := e5 (.inr h4)
              (conv=>arg 2;whnf);refine wp_need (by decide) ?_
              (conv=>arg 2;whnf);refine wp_load (cs := [i64V A, i64V B]) 0 rfl rfl ?_
              (conv=>arg 2;whnf);refine wp_if e5 ?_
              (conv=>arg 2;whnf)
              exact wp_cutR (frL [(5, .pt (some 7) (.agg (exC x)) 0), (9, .loc c 0)]) [.obj c [i64V A, i64V B]] (.cons (.refl _) (.cons (.refl _) (.nil _))) (List.Sublist.refl _) rest
            · (repeat ((conv=>arg 2;whnf);first|refine wp_it rfl ?_|refine wp_if rfl ?_))
              exact wp_cutR (frL [(5, .pt (some 7) (.agg (exC x)) 0), (9, .loc c 0)]) [.obj c [i64V A, i64V B]] (.cons (.refl _) (.cons (.refl _) (.nil _))) (List.Sublist.refl _) rest
        case rest =>
          by_cases c6 : (op = 10 ∨ op = 11) ∧ A = 3
          · rw [if_pos c6]
            have e5 : (A == 3) = true := by simpa using c6.2
            (conv=>arg 2;whnf);refine wp_ite (fun h3 => ?_) (fun h3 => ?_)
            · (repeat ((conv=>arg 2;whnf);first|refine wp_it rfl ?_|refine wp_if rfl ?_))
              (conv=>arg 2;whnf);refine wp_need (by decide) ?_
              (conv=>arg 2;whnf);refine wp_load (cs := [i64V A, i64V B]) 0 rfl rfl ?_
              (conv=>arg 2;whnf);refine wp_it e5 ?_
              (conv=>arg 2;whnf);refine w_ret2 rfl (Vle.refl _) (Vle.refl _) (List.nil_sublist _) rfl
            · have e4 : (x.op == 11) = true := by
                have h3 : op ≠ 10 := by rw [hop]; simpa using h3
                have := c6.1.resolve_left h3
                rw [← hop]; simpa using this
              (conv=>arg 2;whnf);refine wp_it e4 ?_
              (conv=>arg 2;whnf);refine wp_need (by decide) ?_
              (conv=>arg 2;whnf);refine wp_load (cs := [i64V A, i64V B]) 0 rfl rfl ?_
              (conv=>arg 2;whnf);refine wp_it e5 ?_
              (conv=>arg 2;whnf);refine w_ret2 rfl (Vle.refl _) (Vle.refl _) (List.nil_sublist _) rfl
          rw [if_neg c6]
          apply wp_joinT
          case h1 =>
            intro rest
            have e5 : op = 10 ∨ op = 11 → (A == 3) = false := fun h => by
              have : ¬ A = 3 := fun e => c6 ⟨h, e⟩
              simpa using this
            (conv=>arg 2;whnf);refine wp_ite (fun h3 => ?_) (fun h3 => ?_)
            · have h3 : op = 10 := by rw [hop]; simpa using h3
              have e5 := e5 (.inl h3)
              (repeat ((conv=>arg 2;whnf);first|refine wp_it rfl ?_|refine wp_if rfl ?_))
              (conv=>arg 2;whnf);refine wp_need (by decide) ?_
              (conv=>arg 2;whnf);refine wp_load (cs := [i64V A, i64V B]) 0 rfl rfl ?_
              (conv=>arg 2;whnf);refine wp_if e5 ?_
              (conv=>arg 2;whnf)
              exact wp_cutR (frL []) [] (.nil _) (List.nil_sublist _) rest
            · (conv=>arg 2;whnf);refine wp_ite (fun h4 => ?_) (fun h4 => ?_)
              · have h4 : op = 11 := by rw [hop]; simpa using h4
                have e5 := e5 (.inr h4)
                (conv=>arg 2;whnf);refine wp_need (by decide) ?_
                (conv=>arg 2;whnf);refine wp_load (cs := [i64V A, i64V B]) 0 rfl rfl ?_
                (conv=>arg 2;whnf);refine wp_if e5 ?_
                (conv=>arg 2;whnf)
                exact wp_cutR (frL []) [] (.nil _) (List.nil_sublist _) rest
              · (repeat ((conv=>arg 2;whnf);first|refine wp_it rfl ?_|refine wp_if rfl ?_))
                exact wp_cutR (frL []) [] (.nil _) (List.nil_sublist _) rest
          case rest =>
            (conv=>arg 2;whnf);refine w_ret2 rfl (Vle.refl _) (Vle.refl _) (List.nil_sublist _) rfl
set_option maxRecDepth 100000 in
set_option maxHeartbeats 2000000 in
theorem rkind_call (s : Sc) (hs : ScOk s) (l : List El) (hl : l.length < 2 ^ 60) (hty : ∀ e ∈ l, e.ty.length < 2 ^ 60) : ∀ (k : Nat) (x : Ex), shapedN k x = true → PCall Tryz.prog 45 [scV s, elsV l, .agg (exC x)] (pairI (kindE s l k x))
  | 0, _, h => by cases h
  | k + 1, .mk o xv xa xf ks, hsh => by
    by_cases h1 : o = 1
    · subst h1
      refine scall_of (live := []) (ords := []) Tryz.func45 rfl (by kernel_rfl) (by kernel_rfl) (Nat.le_of_ble_eq_true rfl) ?_
      (repeat ((conv=>arg 2;whnf);first|refine wp_it rfl ?_|refine wp_if rfl ?_))
      (conv=>arg 2;whnf);refine w_ret2 rfl (Vle.refl _) (Vle.refl _) (List.nil_sublist _) rfl
    by_cases h2 : o = 2
    · subst h2
      have fa := alias_call l xa hl
      have hr : kindE s l (k + 1) (.mk 2 xv xa xf ks) = (if aliasI l xa < 0 then (0, 13) else fieldKindE s (l.getD (aliasI l xa).toNat el0) xf) := by
        rw [kindE, if_neg (show ¬ Ex.op (.mk 2 xv xa xf ks) = 1 from (by decide : ¬ (2 : Int) = 1)), if_pos (show Ex.op _ = 2 from rfl)]; rfl
      rw [hr]
      refine scall_of (live := []) (ords := []) Tryz.func45 rfl (by kernel_rfl) (by kernel_rfl) (Nat.le_of_ble_eq_true rfl) ?_
      (repeat ((conv=>arg 2;whnf);first|refine wp_it rfl ?_|refine wp_if rfl ?_))
      (conv=>arg 2;whnf);refine wp_pcall fa ?_
      (conv=>arg 2;whnf);refine wp_ite (fun h3 => ?_) (fun h3 => ?_)
      · have h3 : aliasI l xa < 0 := of_decide_eq_true h3
        rw [if_pos h3]
        (conv=>arg 2;whnf);refine w_ret2 rfl (Vle.refl _) (Vle.refl _) (List.nil_sublist _) rfl
      · have h3 : ¬ aliasI l xa < 0 := of_decide_eq_false h3
        obtain ⟨e, he, hel, hn⟩ := alias_at h3
        have ff := rfieldkind_call s hs e (hty e hel) xf
        rw [if_neg h3, getD_at he]
        (conv=>arg 2;whnf);refine wp_elem (aliasI l xa).toNat (elV e) hn (els_at2 he) (Vle.refl _) ?_
        (conv=>arg 2;whnf);refine wp_pc ff ?_
        (conv=>arg 2;whnf);refine w_ret2 rfl (Vle.refl _) (Vle.refl _) (List.nil_sublist _) rfl
    · have hk2 : ks.length ≤ 2 ∧ ∀ y ∈ ks, shapedN k y = true := by
        rcases shape_cases hsh with h | h | ⟨_, a, rfl, ha⟩ | ⟨_, _, a, b, rfl, ha, hb⟩
        · exact absurd h h1
        · exact absurd h h2
        · exact ⟨by simp, fun y hy => by rw [List.mem_singleton.1 hy]; exact ha⟩
        · refine ⟨by simp, fun y hy => ?_⟩
          have : y = a ∨ y = b := by simpa using hy
          rcases this with rfl | rfl
          · exact ha
          · exact hb
      have := rkind_kids s l (.mk o xv xa xf ks) h1 h2 hk2.1 (kindE s l k) (fun y hy => rkind_call s hs l hl hty k y (hk2.2 y hy))
      have hr : kindE s l (k + 1) (.mk o xv xa xf ks) = opK o (ks.map (kindE s l k)) := by
        rw [kindE, if_neg (show ¬ Ex.op (.mk o xv xa xf ks) = 1 from h1), if_neg (show ¬ Ex.op (.mk o xv xa xf ks) = 2 from h2)]; rfl
      rw [hr]; exact this
set_option maxRecDepth 100000 in
theorem rkindtop_call (s : Sc) (hs : ScOk s) (l : List El) (hl : l.length < 2 ^ 60) (hty : ∀ e ∈ l, e.ty.length < 2 ^ 60) (x : Ex) (hx : ExBd x) : PCall Tryz.prog 20 [scV s, elsV l, .agg (exC x)] (pairI (kindTop s l x)) := by
  have f1 := refisexpr_call x hx.1 hx.2.1 hx.2.2.2
  rw [isEx_same] at f1
  refine scall_of (live := []) (ords := []) Tryz.func20 rfl (by kernel_rfl) (by kernel_rfl) (Nat.le_of_ble_eq_true rfl) ?_
  cases hi : isExB x with
  | false =>
    rw [hi] at f1
    rw [show kindTop s l x = (0, 10) by rw [kindTop, hi]; rfl]
    (conv=>arg 2;whnf);refine wp_pcall f1 ?_
    (repeat ((conv=>arg 2;whnf);first|refine wp_it rfl ?_|refine wp_if rfl ?_))
    (conv=>arg 2;whnf);refine w_ret2 rfl (Vle.refl _) (Vle.refl _) (List.nil_sublist _) rfl
  | true =>
    rw [hi] at f1
    have hsh : shapedN 5 x = true := by
      rw [← isEx_same, isExR, Bool.and_eq_true] at hi
      exact hi.1
    have f2 := rkind_call s hs l hl hty 5 x hsh
    rw [show kindTop s l x = kindE s l 5 x by rw [kindTop, if_pos hi]]
    (conv=>arg 2;whnf);refine wp_pcall f1 ?_
    (repeat ((conv=>arg 2;whnf);first|refine wp_it rfl ?_|refine wp_if rfl ?_))
    (conv=>arg 2;whnf);refine wp_pcall f2 ?_
    (conv=>arg 2;whnf);refine w_ret2 rfl (Vle.refl _) (Vle.refl _) (List.nil_sublist _) rfl
end Go.Sv
