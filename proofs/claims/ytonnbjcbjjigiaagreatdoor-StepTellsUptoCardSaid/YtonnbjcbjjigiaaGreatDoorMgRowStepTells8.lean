/- Parts of the proof, one behind the other. -/
import Derived.Test.YtonnbjcbjjigiaaGreatDoorMgRowStepTells7
import Derived.Test.YtonnbjcbjjigiaaGreatDoorMgRowStepTells4
import Derived.Shelf.SlSortCmp.WholeK
namespace Go.Sv
open Go Go.Proofs
def orI (a b : Int) : Int := if a ≠ 0 then a else b
def ordBd (x y : Bd) : Int := orI (cmpI x.at_ y.at_) (cmpI x.elem y.elem)
def ordR : List Bd → List Bd → Int
  | [], [] => 0
  | [], _ :: _ => -1
  | _ :: _, [] => 1
  | x :: a, y :: b => orI (ordBd x y) (ordR a b)
def lessR (a b : List Bd) : Bool := decide (ordR a b < 0)
def cmpR (a b : List Bd) : Int := if lessR a b then -1 else if lessR b a then 1 else 0
theorem cmpI_cases (x y : Int) : (x < y ∧ cmpI x y = -1) ∨ (x = y ∧ cmpI x y = 0) ∨ (y < x ∧ cmpI x y = 1) := by
  unfold cmpI
  by_cases h1 : x < y
  · exact .inl ⟨h1, if_pos h1⟩
  · by_cases h2 : x > y
    · exact .inr (.inr ⟨h2, by rw [if_neg h1, if_pos h2]⟩)
    · exact .inr (.inl ⟨by omega, by rw [if_neg h1, if_neg h2]⟩)
theorem cmpI_zero {x y : Int} : cmpI x y = 0 ↔ x = y := by
  rcases cmpI_cases x y with ⟨h, e⟩ | ⟨h, e⟩ | ⟨h, e⟩ <;> rw [e] <;> omega
theorem cmpI_neg {x y : Int} : cmpI x y < 0 ↔ x < y := by
  rcases cmpI_cases x y with ⟨h, e⟩ | ⟨h, e⟩ | ⟨h, e⟩ <;> rw [e] <;> omega
theorem cmpI_swap (x y : Int) : cmpI y x = - cmpI x y := by
  rcases cmpI_cases x y with ⟨h, e⟩ | ⟨h, e⟩ | ⟨h, e⟩ <;> rcases cmpI_cases y x with ⟨h', e'⟩ | ⟨h', e'⟩ | ⟨h', e'⟩ <;> rw [e, e'] <;> omega
theorem orI_swap (a b : Int) : orI (-a) (-b) = - orI a b := by
  unfold orI
  by_cases h : a = 0
  · subst h; simp
  · rw [if_pos (by omega), if_pos h]
theorem ordBd_swap (x y : Bd) : ordBd y x = - ordBd x y := by rw [ordBd, cmpI_swap x.at_ y.at_, cmpI_swap x.elem y.elem, orI_swap]; rfl
theorem ordBd_zero {x y : Bd} : ordBd x y = 0 ↔ x = y := by
  have e : ordBd x y = 0 ↔ cmpI x.at_ y.at_ = 0 ∧ cmpI (x.elem : Int) y.elem = 0 := by
    unfold ordBd orI
    by_cases h : cmpI x.at_ y.at_ = 0
    · rw [if_neg (by simp [h])]; simp [h]
    · rw [if_pos h]; simp [h]
  rw [e, cmpI_zero, cmpI_zero]
  cases x; cases y
  simp only [Bd.mk.injEq]
  omega
theorem ordR_swap : ∀ a b : List Bd, ordR b a = - ordR a b
  | [], [] => rfl
  | [], _ :: _ => rfl
  | _ :: _, [] => rfl
  | x :: a, y :: b => by rw [ordR, ordR, ordBd_swap x y, ordR_swap a b, orI_swap]
theorem ordR_zero : ∀ {a b : List Bd}, ordR a b = 0 ↔ a = b
  | [], [] => by simp [ordR]
  | [], _ :: _ => by simp [ordR]
  | _ :: _, [] => by simp [ordR]
  | x :: a, y :: b => by
    have e : ordR (x :: a) (y :: b) = 0 ↔ ordBd x y = 0 ∧ ordR a b = 0 := by
      rw [ordR]; unfold orI
      by_cases h : ordBd x y = 0
      · rw [if_neg (by simp [h])]; simp [h]
      · rw [if_pos h]; simp [h]
    rw [e, ordBd_zero, ordR_zero, List.cons.injEq]
theorem orI_neg {a b : Int} : orI a b < 0 ↔ a < 0 ∨ (a = 0 ∧ b < 0) := by
  unfold orI
  by_cases h : a = 0
  · subst h; simp
  · rw [if_pos h]; simp [h]
theorem ordBd_trans {x y z : Bd} (h1 : ordBd x y < 0) (h2 : ordBd y z < 0) : ordBd x z < 0 := by
  unfold ordBd at *
  rw [orI_neg, cmpI_neg, cmpI_zero, cmpI_neg] at *
  omega
theorem ordR_trans : ∀ {a b c : List Bd}, ordR a b < 0 → ordR b c < 0 → ordR a c < 0
  | [], _, [], h1, h2 => by
    rename_i b
    cases b with
    | nil => exact h1
    | cons y b => simp [ordR] at h2
  | [], _, _ :: _, _, _ => by simp [ordR]
  | _ :: _, [], _, h1, _ => by simp [ordR] at h1
  | _ :: _, _ :: _, [], _, h2 => by simp [ordR] at h2
  | x :: a, y :: b, z :: c, h1, h2 => by
    rw [ordR, orI_neg] at *
    rcases h1 with h1 | ⟨h1, h1'⟩ <;> rcases h2 with h2 | ⟨h2, h2'⟩
    · exact .inl (ordBd_trans h1 h2)
    · rw [ordBd_zero.1 h2] at h1; exact .inl h1
    · rw [← ordBd_zero.1 h1] at h2; exact .inl h2
    · exact .inr ⟨by rw [ordBd_zero] at *; exact h1.trans h2, ordR_trans h1' h2'⟩
set_option maxRecDepth 100000 in
theorem or_call (a b : Int) : PCall Tryz.prog 85 [.sl none [i64V a, i64V b] .no] (i64V (orI a b)) := by
  refine scall_of (live := []) (ords := []) Tryz.func85 rfl (by kernel_rfl) (by kernel_rfl) (Nat.le_of_ble_eq_true rfl) ?_
  (conv=>arg 2;whnf);refine wp_loop (fun m fr R => ∃ n : Nat, m = 2 - n ∧ n ≤ 2 ∧ (0 < n → a = 0) ∧ (1 < n → b = 0) ∧ R = [] ∧ fr = frL [(3, i64V 0), (6, .sl none [i64V a, i64V b] .no), (7, i64V 2), (8, i64V n)])
    2 _ _ (.cons (.refl _) (.cons (.refl _) (.cons (.refl _) (.cons (.refl _) (.nil _))))) (List.Sublist.refl _) ⟨0, rfl, by decide, fun h => absurd h (by decide), fun h => absurd h (by decide), rfl, rfl⟩ ?_
  rintro m fr R ⟨n, rfl, hn, ha, hb, rfl, rfl⟩
  have hn3 : n = 0 ∨ n = 1 ∨ n = 2 := by omega
  rcases hn3 with rfl | rfl | rfl
  · (repeat ((conv=>arg 2;whnf);first|refine wp_it rfl ?_|refine wp_if rfl ?_))
    (conv=>arg 2;whnf);refine wp_elem 0 (i64V a) rfl rfl (Vle.refl _) ?_
    (conv=>arg 2;whnf);refine wp_ite (fun h1 => ?_) (fun h1 => ?_)
    · have h1 : a ≠ 0 := by simpa using h1
      (conv=>arg 2;whnf)
      refine wp_leaf (loop_ret ?_)
      (conv=>arg 2;whnf);refine w_ret1 rfl (Vle.eq (cI64 (by rw [orI, if_pos h1]))) (List.nil_sublist _) rfl
    · have h1 : a = 0 := by simpa using h1
      (conv=>arg 2;whnf)
      refine wp_leaf (loop_next 1 _ [] (by decide) (.cons (.refl _) (.cons (.refl _) (.cons (.refl _) (.cons (.refl _) (.nil _))))) (List.Sublist.refl _) ⟨1, rfl, by decide, fun _ => h1, fun h => absurd h (by decide), rfl, rfl⟩)
  · (repeat ((conv=>arg 2;whnf);first|refine wp_it rfl ?_|refine wp_if rfl ?_))
    have ha := ha (by decide)
    (conv=>arg 2;whnf);refine wp_elem 1 (i64V b) rfl rfl (Vle.refl _) ?_
    (conv=>arg 2;whnf);refine wp_ite (fun h1 => ?_) (fun h1 => ?_)
    · (conv=>arg 2;whnf)
      refine wp_leaf (loop_ret ?_)
      (conv=>arg 2;whnf);refine w_ret1 rfl (Vle.eq (cI64 (by rw [orI, if_neg (by simp [ha])]))) (List.nil_sublist _) rfl
    · have h1 : b = 0 := by simpa using h1
      (conv=>arg 2;whnf)
      refine wp_leaf (loop_next 0 _ [] (by decide) (.cons (.refl _) (.cons (.refl _) (.cons (.refl _) (.cons (.refl _) (.nil _))))) (List.Sublist.refl _) ⟨2, rfl, by decide, fun _ => ha, fun _ => h1, rfl, rfl⟩)
  · (repeat ((conv=>arg 2;whnf);first|refine wp_it rfl ?_|refine wp_if rfl ?_))
    have ha := ha (by decide)
    have hb := hb (by decide)
    (conv=>arg 2;whnf)
    refine wp_leaf (loop_exit ?_)
    (conv=>arg 2;whnf);refine w_ret1 rfl (Vle.eq (cI64 (by rw [orI, if_neg (by simp [ha]), hb]))) (List.nil_sublist _) rfl
set_option maxRecDepth 100000 in
theorem order1_call (x y : Bd) : PCall Tryz.prog 84 [bdV x, bdV y] (i64V (ordBd x y)) := by
  have f1 := compare_call x.at_ y.at_
  have f2 := compare_call x.elem y.elem
  have f3 := or_call (cmpI x.at_ y.at_) (cmpI x.elem y.elem)
  refine scall_of (live := []) (ords := []) Tryz.func84 rfl (by kernel_rfl) (by kernel_rfl) (Nat.le_of_ble_eq_true rfl) ?_
  (conv=>arg 2;whnf);refine wp_pc f1 ?_
  (conv=>arg 2;whnf);refine wp_pc f2 ?_
  (conv=>arg 2;whnf);refine wp_pc f3 ?_
  (conv=>arg 2;whnf);refine w_ret1 rfl (Vle.refl _) (List.nil_sublist _) rfl
set_option maxRecDepth 100000 in
theorem comparefunc_call (a b : List Bd) (ha : a.length < 2 ^ 60) (hb : b.length < 2 ^ 60) : PCall Tryz.prog 83 [bdsV a, bdsV b, .fn (.func 84) [] []] (i64V (ordR a b)) := by
  refine scall_of (live := []) (ords := []) Tryz.func83 rfl (by kernel_rfl) (by kernel_rfl) (Nat.le_of_ble_eq_true rfl) ?_
  (conv=>arg 2;whnf);refine wp_loop (fun m fr R => ∃ n : Nat, m = a.length - n ∧ n ≤ a.length ∧ n ≤ b.length ∧ ordR a b = ordR (a.drop n) (b.drop n) ∧ R = [] ∧ fr = frL [(0, bdsV a), (1, bdsV b), (2, .fn (.func 84) [] []), (11, bdsV a), (12, i64V a.length), (13, i64V n)])
    a.length _ _ (.cons (.refl _) (.cons (.refl _) (.cons (.refl _) (.cons (.refl _) (.cons (Vle.i64 _ rfl (by rw [List.length_map])) (.cons (.refl _) (.nil _))))))) (List.Sublist.refl _) ⟨0, rfl, Nat.zero_le _, Nat.zero_le _, rfl, rfl, rfl⟩ ?_
  rintro m fr R ⟨n, rfl, hn, hnb, hord, rfl, rfl⟩
  (conv=>arg 2;whnf);refine wp_ite (fun h => ?_) (fun h => ?_)
  · have h : n < a.length := by have := of_decide_eq_true h; omega
    obtain ⟨x, hx⟩ : ∃ x, a[n]? = some x := ⟨_, List.getElem?_eq_getElem h⟩
    (conv=>arg 2;whnf);refine wp_elem n (bdV x) rfl (bds_at hx) (Vle.refl _) ?_
    (conv=>arg 2;whnf);refine wp_allocE bdZ rfl fun c => ?_
    (conv=>arg 2;whnf);refine wp_storeE (cs := bdZ) 0 0 (bdC x) rfl rfl (VleL.refl _) (Nat.le_refl _) rfl (R' := [.obj c (bdC x)]) rfl ?_
    (conv=>arg 2;whnf);refine wp_ite (fun h1 => ?_) (fun h1 => ?_)
    · have h1 : b.length ≤ n := by
        have := of_decide_eq_true h1
        rw [List.length_map] at this; omega
      have e : ordR a b = 1 := by rw [hord, drop_at hx, List.drop_eq_nil_of_le h1]; rfl
      (conv=>arg 2;whnf)
      refine wp_leaf (loop_ret ?_)
      (conv=>arg 2;whnf);refine w_ret1 rfl (Vle.eq (cI64 e.symm)) (List.nil_sublist _) rfl
    · have h1 : n < b.length := by
        have := of_decide_eq_false h1
        rw [List.length_map] at this; omega
      obtain ⟨y, hy⟩ : ∃ y, b[n]? = some y := ⟨_, List.getElem?_eq_getElem h1⟩
      have e : ordR a b = orI (ordBd x y) (ordR (a.drop (n + 1)) (b.drop (n + 1))) := by rw [hord, drop_at hx, drop_at hy]; rfl
      have f1 := order1_call x y
      (conv=>arg 2;whnf);refine wp_elem n (bdV y) rfl (bds_at hy) (Vle.refl _) ?_
      (conv=>arg 2;whnf);refine wp_allocE bdZ rfl fun d => ?_
      (conv=>arg 2;whnf);refine wp_storeE (cs := bdZ) 1 0 (bdC y) rfl rfl (VleL.refl _) (Nat.le_refl _) rfl (R' := [.obj c (bdC x), .obj d (bdC y)]) rfl ?_
      (conv=>arg 2;whnf);refine wp_load (cs := bdC x) 0 rfl rfl ?_
      (conv=>arg 2;whnf);refine wp_load (cs := bdC y) 1 rfl rfl ?_
      (conv=>arg 2;whnf);refine wp_pcall f1 ?_
      (conv=>arg 2;whnf);refine wp_ite (fun h2 => ?_) (fun h2 => ?_)
      · have h2 : ordBd x y ≠ 0 := by simpa using h2
        (conv=>arg 2;whnf)
        refine wp_leaf (loop_ret ?_)
        (conv=>arg 2;whnf);refine w_ret1 rfl (Vle.eq (cI64 (by rw [e, orI, if_pos h2]))) (List.nil_sublist _) rfl
      · have h2 : ordBd x y = 0 := by simpa using h2
        have e : ordR a b = ordR (a.drop (n + 1)) (b.drop (n + 1)) := by rw [e, orI, if_neg (by simp [h2])]
        (conv=>arg 2;whnf)
        refine wp_leaf (loop_next (a.length - (n + 1)) _ [] (by omega) (.cons (.refl _) (.cons (.refl _) (.cons (.refl _) (.cons (.refl _) (.cons (.refl _) (.cons (Vle.inc n rfl (by omega)) (.nil _))))))) (List.nil_sublist _) ⟨n + 1, rfl, h, h1, e, rfl, rfl⟩)
  · have h : n = a.length := by have := of_decide_eq_false h; omega
    subst h
    rw [List.drop_length] at hord
    (conv=>arg 2;whnf)
    refine wp_leaf (loop_exit ?_)
    (conv=>arg 2;whnf);refine wp_ite (fun h1 => ?_) (fun h1 => ?_)
    · have h1 : a.length < b.length := by
        have := of_decide_eq_true h1
        rw [List.length_map, List.length_map] at this; omega
      obtain ⟨y, hy⟩ : ∃ y, b[a.length]? = some y := ⟨_, List.getElem?_eq_getElem h1⟩
      have e : ordR a b = -1 := by rw [hord, drop_at hy]; rfl
      (conv=>arg 2;whnf);refine w_ret1 rfl (Vle.eq (cI64 e.symm)) (List.nil_sublist _) rfl
    · have h1 : b.length ≤ a.length := by
        have := of_decide_eq_false h1
        rw [List.length_map, List.length_map] at this; omega
      have e : ordR a b = 0 := by rw [hord, List.drop_eq_nil_of_le h1]; rfl
      (conv=>arg 2;whnf);refine w_ret1 rfl (Vle.eq (cI64 e.symm)) (List.nil_sublist _) rfl
set_option maxRecDepth 100000 in
theorem order_call (a b : List Bd) (ha : a.length < 2 ^ 60) (hb : b.length < 2 ^ 60) : PCall Tryz.prog 71 [bdsV a, bdsV b] (i64V (ordR a b)) := by
  have f1 := comparefunc_call a b ha hb
  refine scall_of (live := []) (ords := []) Tryz.func71 rfl (by kernel_rfl) (by kernel_rfl) (Nat.le_of_ble_eq_true rfl) ?_
  (conv=>arg 2;whnf);refine wp_pcall f1 ?_
  (conv=>arg 2;whnf);refine w_ret1 rfl (Vle.refl _) (List.nil_sublist _) rfl
set_option maxRecDepth 100000 in
theorem lessr_call (a b : List Bd) (ha : a.length < 2 ^ 60) (hb : b.length < 2 ^ 60) : PCall Tryz.prog 51 [bdsV a, bdsV b] (bV (lessR a b)) := by
  have f1 := order_call a b ha hb
  refine scall_of (live := []) (ords := []) Tryz.func51 rfl (by kernel_rfl) (by kernel_rfl) (Nat.le_of_ble_eq_true rfl) ?_
  (conv=>arg 2;whnf);refine wp_pcall f1 ?_
  (conv=>arg 2;whnf);refine w_ret1 rfl (Vle.refl _) (List.nil_sublist _) rfl
set_option maxRecDepth 100000 in
theorem sorted1_call (a b : List Bd) (ha : a.length < 2 ^ 60) (hb : b.length < 2 ^ 60) : PCall Tryz.prog 50 [runV a, runV b] (i64V (cmpR a b)) := by
  have f1 := lessr_call a b ha hb
  have f2 := lessr_call b a hb ha
  refine scall_of (live := []) (ords := []) Tryz.func50 rfl (by kernel_rfl) (by kernel_rfl) (Nat.le_of_ble_eq_true rfl) ?_
  (conv=>arg 2;whnf);refine wp_pcall f1 ?_
  cases h1 : lessR a b with
  | true =>
    (repeat ((conv=>arg 2;whnf);first|refine wp_it rfl ?_|refine wp_if rfl ?_))
    (conv=>arg 2;whnf);refine w_ret1 rfl (Vle.eq (cI64 (by rw [cmpR, h1]; rfl))) (List.nil_sublist _) rfl
  | false =>
    (repeat ((conv=>arg 2;whnf);first|refine wp_it rfl ?_|refine wp_if rfl ?_))
    (conv=>arg 2;whnf);refine wp_pcall f2 ?_
    cases h2 : lessR b a with
    | true =>
      (repeat ((conv=>arg 2;whnf);first|refine wp_it rfl ?_|refine wp_if rfl ?_))
      (conv=>arg 2;whnf);refine w_ret1 rfl (Vle.eq (cI64 (by rw [cmpR, h1, h2]; rfl))) (List.nil_sublist _) rfl
    | false =>
      (repeat ((conv=>arg 2;whnf);first|refine wp_it rfl ?_|refine wp_if rfl ?_))
      (conv=>arg 2;whnf);refine w_ret1 rfl (Vle.eq (cI64 (by rw [cmpR, h1, h2]; rfl))) (List.nil_sublist _) rfl
end Go.Sv
namespace Go.Sv
open Go Go.Proofs
section
variable {β : Type} {eq : β → β → Bool}
def compG (eq : β → β → Bool) : β → List β → List β
  | _, [] => []
  | p, y :: l => if eq y p then compG eq y l else y :: compG eq y l
def compL (eq : β → β → Bool) : List β → List β
  | [] => []
  | x :: l => x :: compG eq x l
theorem compG_snoc (y : β) : ∀ (l : List β) (p : β), compG eq p (l ++ [y]) = compG eq p l ++ (if eq y (l.getLastD p) then [] else [y])
  | [], p => by
    by_cases h : eq y p = true <;> simp [compG, h]
  | z :: l, p => by
    simp only [List.cons_append, compG, List.getLastD_cons]
    split
    · exact compG_snoc y l z
    · rw [compG_snoc y l z]; rfl
theorem compL_next {l : List β} {n : Nat} {y z : β} (hz : l[n]? = some z) (hy : l[n + 1]? = some y) : compL eq (l.take (n + 2)) = compL eq (l.take (n + 1)) ++ (if eq y z then [] else [y]) := by
  rw [List.take_add_one (i := n + 1), hy]
  have hne : l.take (n + 1) ≠ [] := by
    have hn := (List.getElem?_eq_some_iff.1 hz).1
    intro h
    have := congrArg List.length h
    rw [List.length_take, List.length_nil] at this
    omega
  cases ht : l.take (n + 1) with
  | nil => exact absurd ht hne
  | cons x t =>
    have hlast : t.getLastD x = z := by
      have h1 : (x :: t).getLast? = some z := by
        rw [← ht, List.getLast?_eq_getElem?, List.length_take, Nat.min_eq_left (by have := (List.getElem?_eq_some_iff.1 hz).1; omega), Nat.add_sub_cancel, List.getElem?_take, if_pos (by omega), hz]
      rw [List.getLast?_cons] at h1
      rw [List.getLastD_eq_getLast?]
      exact Option.some.inj h1
    simp only [Option.toList_some, List.cons_append, compL]
    rw [compG_snoc, hlast]
end
theorem part_run {C : List (List Bd)} {sp : List V} {n : Nat} {x : List Bd} (h : C[n]? = some x) : partOf (some 1) (C.map bdsV ++ sp) n = some (runV x) := by
  have hn := (List.getElem?_eq_some_iff.1 h).1
  have h1 : (C.map bdsV ++ sp)[n]? = some (bdsV x) := by
    rw [List.getElem?_append_left (by rw [List.length_map]; exact hn), List.getElem?_map, h]; rfl
  have hl : n + 1 ≤ (C.map bdsV ++ sp).length := (List.getElem?_eq_some_iff.1 h1).1
  simp only [partOf, if_pos hl]
  congr 2
  rw [drop_at h1]; rfl
theorem splice_at {C : List (List Bd)} {sp : List V} {n : Nat} (h : n < C.length) (x : List Bd) : splice (C.map bdsV ++ sp) n (runC x) = (C.set n x).map bdsV ++ sp := by
  rw [runC, splice_one (by rw [List.length_map]; exact h), List.map_set]
theorem Vle.gotL {v a b : V} (h : Vle a b) (hv : v = a) : Vle v b := by rw [hv]; exact h
theorem flat_rep (n : Nat) (v : V) : (List.replicate n [v]).flatten = List.replicate n v := by
  induction n with
  | zero => rfl
  | succ n ih => rw [List.replicate_succ, List.flatten_cons, ih, List.replicate_succ]; rfl
theorem splice_clear {C : List (List Bd)} {sp : List V} {k : Nat} (hk : k ≤ C.length) (v : V) : splice (C.map bdsV ++ sp) k (List.replicate (C.length - k) [v]).flatten = (C.take k).map bdsV ++ (List.replicate (C.length - k) v ++ sp) := by
  rw [flat_rep, splice, List.length_replicate, List.take_append_of_le_length (by rw [List.length_map]; exact hk), ← List.map_take, show k + (C.length - k) = C.length by omega, List.append_assoc]
  congr 2
  rw [List.drop_left' (by rw [List.length_map])]
theorem set_take {C : List (List Bd)} {k : Nat} (h : k < C.length) (y : List Bd) : (C.set k y).take (k + 1) = C.take k ++ [y] := by
  rw [List.set_eq_take_append_cons_drop, if_pos h, List.take_append, List.length_take, Nat.min_eq_left (by omega), List.take_take, Nat.min_eq_right (by omega)]
  congr 1
  rw [show k + 1 - k = 1 by omega]; rfl
theorem drop_same {C l : List (List Bd)} {i : Nat} (h : C.drop i = l.drop i) (d : Nat) : C[i + d]? = l[i + d]? := by
  rw [← List.getElem?_drop, ← List.getElem?_drop, h]
theorem drop_more {C l : List (List Bd)} {i : Nat} (h : C.drop i = l.drop i) : C.drop (i + 1) = l.drop (i + 1) := by
  rw [← List.drop_drop, ← List.drop_drop, h]
def eqR (a b : List Bd) : Bool := cmpR a b == 0
theorem eqR_eq (a b : List Bd) : eqR a b = decide (a = b) := by
  have h1 := ordR_swap a b
  have h2 := @ordR_zero a b
  unfold eqR cmpR lessR
  by_cases h : ordR a b < 0
  · rw [if_pos (by simpa using h), decide_eq_false (by intro e; have := h2.2 e; omega)]; rfl
  · rw [if_neg (by simpa using h)]
    by_cases h3 : ordR b a < 0
    · rw [if_pos (by simpa using h3), decide_eq_false (by intro e; have := h2.2 e; omega)]; rfl
    · rw [if_neg (by simpa using h3), decide_eq_true (h2.1 (by omega))]; rfl
set_option maxRecDepth 100000 in
theorem sorted2_call (a b : List Bd) (ha : a.length < 2 ^ 60) (hb : b.length < 2 ^ 60) : PCall Tryz.prog 54 [runV a, runV b, .pt none (.fn (.func 50) [] []) 0] (bV (eqR a b)) := by
  have f1 := sorted1_call a b ha hb
  refine scall_of (live := []) (ords := []) Tryz.func54 rfl (by kernel_rfl) (by kernel_rfl) (Nat.le_of_ble_eq_true rfl) ?_
  (conv=>arg 2;whnf);refine wp_pcall f1 ?_
  (conv=>arg 2;whnf);refine w_ret1 rfl (Vle.refl _) (List.nil_sublist _) rfl
set_option maxRecDepth 100000 in
set_option maxHeartbeats 2000000 in
theorem compact_call (g : FuncId) (caps : List V) (eq : List Bd → List Bd → Bool) (l : List (List Bd)) (hq : ∀ x ∈ l, ∀ y ∈ l, PCall Tryz.prog g (runV x :: runV y :: caps) (bV (eq x y))) (hl : l.length < 2 ^ 60) (b cap : Nat) (hcap : l.length ≤ cap) (sp : List V) :
    SCall Tryz.prog 53 [.lsl (some 1) b 0 l.length cap, .fn (.func g) [] caps] [.obj b (l.map bdsV ++ sp)] fun v R' => ∃ sp', v = .lsl (some 1) b 0 (compL eq l).length cap ∧ R' = [.obj b ((compL eq l).map bdsV ++ sp')] := by
  refine scall_of (live := [22, 27, 42, 47]) (ords := [(6, []), (11, [])]) Tryz.func53 rfl (by kernel_rfl) (by kernel_rfl) (Nat.le_of_ble_eq_true rfl) ?_
  (conv=>arg 2;whnf);refine wp_ite (fun h0 => ?_) (fun h0 => ?_)
  · have h0 : l.length < 2 := by have := of_decide_eq_true h0; omega
    have hc : compL eq l = l := by
      match l, h0 with
      | [], _ => rfl
      | [x], _ => rfl
      | _ :: _ :: _, h => simp only [List.length_cons] at h; omega
    (conv=>arg 2;whnf);refine w_ret1 (v := .lsl (some 1) b 0 l.length cap) rfl (Vle.refl _) (List.Sublist.refl _) ⟨sp, by rw [hc], by rw [hc]⟩
  · have h0 : 2 ≤ l.length := by have := of_decide_eq_false h0; omega
    (conv=>arg 2;whnf);refine wp_loop (fun m fr R => ∃ k : Nat, m = l.length - k ∧ 1 ≤ k ∧ k ≤ l.length ∧ compL eq (l.take k) = l.take k ∧ R = [.obj b (l.map bdsV ++ sp)] ∧ fr = frL [(0, .lsl (some 1) b 0 l.length cap), (1, .fn (.func g) [] caps), (5, i64V k)])
      (l.length - 1) _ _ (.cons (.refl _) (.cons (.refl _) (.cons (.refl _) (.nil _)))) (List.Sublist.refl _) ⟨1, rfl, by decide, by omega, ?_, rfl, rfl⟩ ?_
    · cases l with
      | nil => rfl
      | cons x l => rfl
    rintro m fr R ⟨k, rfl, hk1, hk2, hcomp, rfl, rfl⟩
    (conv=>arg 2;whnf);refine wp_ite (fun h => ?_) (fun h => ?_)
    · have h : k < l.length := by have := of_decide_eq_true h; omega
      obtain ⟨k', rfl⟩ : ∃ k', k = k' + 1 := ⟨k - 1, by omega⟩
      obtain ⟨y, hy⟩ : ∃ y, l[k' + 1]? = some y := ⟨_, List.getElem?_eq_getElem h⟩
      obtain ⟨z, hz⟩ : ∃ z, l[k']? = some z := ⟨_, List.getElem?_eq_getElem (by omega)⟩
      have hnx := compL_next (eq := eq) hz hy
      have f1 := hq y (List.mem_of_getElem? hy) z (List.mem_of_getElem? hz)
      have wk : IntKind.i64.wrap (((k' + 1 : Nat) : Int) - 1) = (k' : Int) := by rw [w_i64_small (by omega) (by omega)]; omega
      have p1 : partOf (some 1) (l.map bdsV ++ sp) (0 + Int.toNat ((k' + 1 : Nat) : Int) * width (some 1)) = some (runV y) := by
        rw [show 0 + Int.toNat ((k' + 1 : Nat) : Int) * width (some 1) = k' + 1 by simp [width]]; exact part_run hy
      have p2 : partOf (some 1) (l.map bdsV ++ sp) (0 + Int.toNat (IntKind.i64.wrap (((k' + 1 : Nat) : Int) - 1)) * width (some 1)) = some (runV z) := by
        rw [wk, show 0 + Int.toNat (k' : Int) * width (some 1) = k' by simp [width]]; exact part_run hz
      (conv=>arg 2;whnf)
      refine wp_cutR (frL [(0, .lsl (some 1) b 0 l.length cap), (1, .fn (.func g) [] caps), (5, i64V (k' + 1 : Nat))]) [.obj b (l.map bdsV ++ sp)] (.cons (.refl _) (.cons (.refl _) (.cons (.refl _) (.nil _)))) (List.Sublist.refl _) ?_
      (conv=>arg 2;whnf);refine wp_need ⟨Int.natCast_nonneg _, by omega⟩ ?_
      (conv=>arg 2;whnf);refine wp_load 0 rfl p1 ?_
      (conv=>arg 2;whnf);refine wp_need (by rw [wk]; exact ⟨Int.natCast_nonneg _, by omega⟩) ?_
      (conv=>arg 2;whnf);refine wp_load 0 rfl p2 ?_
      (conv=>arg 2;whnf);refine wp_pc f1 ?_
      cases hyz : eq y z with
      | false =>
        rw [hyz] at hnx
        have hy2 : l.take (k' + 2) = l.take (k' + 1) ++ [y] := by rw [List.take_add_one (i := k' + 1), hy]; rfl
        (repeat ((conv=>arg 2;whnf);first|refine wp_it rfl ?_|refine wp_if rfl ?_))
        (conv=>arg 2;whnf)
        refine wp_leaf (loop_next (l.length - (k' + 2)) _ [.obj b (l.map bdsV ++ sp)] (by omega) (.cons (.refl _) (.cons (.refl _) (.cons (Vle.inc (k' + 1) rfl (by omega)) (.nil _)))) (List.Sublist.refl _) ⟨k' + 2, rfl, by omega, by omega, ?_, rfl, rfl⟩)
        rw [hnx, hcomp, hy2]; rfl
      | true =>
        rw [hyz] at hnx
        have hnx : compL eq (l.take (k' + 2)) = l.take (k' + 1) := by rw [hnx, hcomp]; exact List.append_nil _
        obtain ⟨K, hK⟩ : ∃ K, K = k' + 1 := ⟨_, rfl⟩
        have s1 : Vle (.lsl (some 1) b (0 + Int.toNat ((k' + 1 : Nat) : Int) * width (some 1)) (l.length - Int.toNat ((k' + 1 : Nat) : Int)) (cap - Int.toNat ((k' + 1 : Nat) : Int))) (.lsl (some 1) b K (l.length - K) (cap - K)) := Vle.eq (by rw [hK]; simp [width])
        (repeat ((conv=>arg 2;whnf);first|refine wp_it rfl ?_|refine wp_if rfl ?_))
        (conv=>arg 2;whnf);refine wp_need ⟨Int.natCast_nonneg _, by omega⟩ ?_
        (conv=>arg 2;whnf);refine wp_loop (fun m fr R => ∃ (k i d : Nat) (C : List (List Bd)), m = l.length - (i + 1) ∧ i + 1 = K + d ∧ 1 ≤ d ∧ i < l.length ∧ k = (compL eq (l.take (i + 1))).length ∧ k < i + 1 ∧ C.length = l.length ∧ C.take k = compL eq (l.take (i + 1)) ∧ C.drop i = l.drop i ∧ R = [.obj b (C.map bdsV ++ sp)] ∧
            fr = frL [(0, .lsl (some 1) b 0 l.length cap), (1, .fn (.func g) [] caps), (5, i64V k), (6, .lsl (some 1) b K (l.length - K) (cap - K)), (7, i64V d)])
          (l.length - (K + 1)) _ _ (.cons (.refl _) (.cons (.refl _) (.cons (.refl _) (.cons (Vle.gotL s1 rfl) (.cons (.refl _) (.nil _)))))) (List.Sublist.refl _) ⟨k' + 1, K, 1, l, rfl, by omega, by omega, by omega, ?_, by omega, rfl, ?_, rfl, rfl, rfl⟩ ?_
        · rw [hK, hnx, List.length_take]; omega
        · rw [hK, hnx]
        clear hnx hcomp hy hz f1 p1 p2 wk s1 hyz
        rintro m fr R ⟨k, i, d, C, rfl, hid, hd1, hil, hk, hki, hC, hCk, hCd, rfl, rfl⟩
        have hx1 : (C.map bdsV ++ sp).length = l.length + sp.length := by rw [List.length_append, List.length_map, hC]
        (conv=>arg 2;whnf);refine wp_ite (fun h2 => ?_) (fun h2 => ?_)
        · have h2 : i + 1 < l.length := by have := of_decide_eq_true h2; omega
          obtain ⟨y, hy⟩ : ∃ y, l[i + 1]? = some y := ⟨_, List.getElem?_eq_getElem h2⟩
          obtain ⟨z, hz⟩ : ∃ z, l[i]? = some z := ⟨_, List.getElem?_eq_getElem hil⟩
          have hnx := compL_next (eq := eq) hz hy
          have f1 := hq y (List.mem_of_getElem? hy) z (List.mem_of_getElem? hz)
          have hCy : C[i + 1]? = some y := (drop_same hCd 1).trans hy
          have hCz : C[i]? = some z := (drop_same hCd 0).trans hz
          have wk : IntKind.i64.wrap ((d : Int) - 1) = ((d - 1 : Nat) : Int) := by rw [w_i64_small (by omega) (by omega)]; omega
          have p1 : partOf (some 1) (C.map bdsV ++ sp) (K + Int.toNat (d : Int) * width (some 1)) = some (runV y) := by
            rw [show K + Int.toNat (d : Int) * width (some 1) = i + 1 by simp [width]; omega]; exact part_run hCy
          have p2 : partOf (some 1) (C.map bdsV ++ sp) (K + Int.toNat (IntKind.i64.wrap ((d : Int) - 1)) * width (some 1)) = some (runV z) := by
            rw [wk, show K + Int.toNat ((d - 1 : Nat) : Int) * width (some 1) = i by simp [width]; omega]; exact part_run hCz
          (conv=>arg 2;whnf)
          refine wp_cutR (frL [(0, .lsl (some 1) b 0 l.length cap), (1, .fn (.func g) [] caps), (5, i64V k), (6, .lsl (some 1) b K (l.length - K) (cap - K)), (7, i64V d)]) [.obj b (C.map bdsV ++ sp)] (.cons (.refl _) (.cons (.refl _) (.cons (.refl _) (.cons (.refl _) (.cons (.refl _) (.nil _)))))) (List.Sublist.refl _) ?_
          (conv=>arg 2;whnf);refine wp_need ⟨Int.natCast_nonneg _, by omega⟩ ?_
          (conv=>arg 2;whnf);refine wp_load 0 rfl p1 ?_
          (conv=>arg 2;whnf);refine wp_need (by rw [wk]; exact ⟨Int.natCast_nonneg _, by omega⟩) ?_
          (conv=>arg 2;whnf);refine wp_load 0 rfl p2 ?_
          (conv=>arg 2;whnf);refine wp_pc f1 ?_
          cases hyz : eq y z with
          | true =>
            rw [hyz] at hnx
            have hnx : compL eq (l.take (i + 2)) = compL eq (l.take (i + 1)) := hnx.trans (List.append_nil _)
            (repeat ((conv=>arg 2;whnf);first|refine wp_it rfl ?_|refine wp_if rfl ?_))
            (conv=>arg 2;whnf)
            refine wp_leaf (loop_next (l.length - (i + 2)) _ [.obj b (C.map bdsV ++ sp)] (by omega) (.cons (.refl _) (.cons (.refl _) (.cons (.refl _) (.cons (.refl _) (.cons (Vle.inc d rfl (by omega)) (.nil _)))))) (List.Sublist.refl _) ⟨k, i + 1, d + 1, C, rfl, by omega, by omega, h2, by rw [hnx]; exact hk, by omega, hC, by rw [hnx]; exact hCk, drop_more hCd, rfl, rfl⟩)
          | false =>
            rw [hyz] at hnx
            have hnx : compL eq (l.take (i + 2)) = compL eq (l.take (i + 1)) ++ [y] := hnx
            have hkC : k < C.length := by omega
            have hset : splice (C.map bdsV ++ sp) (0 + Int.toNat (k : Int) * width (some 1)) (runC y) = (C.set k y).map bdsV ++ sp := by
              rw [show 0 + Int.toNat (k : Int) * width (some 1) = k by simp [width]]; exact splice_at hkC y
            (repeat ((conv=>arg 2;whnf);first|refine wp_it rfl ?_|refine wp_if rfl ?_))
            (conv=>arg 2;whnf);refine wp_need ⟨Int.natCast_nonneg _, by omega⟩ ?_
            (conv=>arg 2;whnf);refine wp_load 0 rfl p1 ?_
            (conv=>arg 2;whnf);refine wp_need ⟨Int.natCast_nonneg _, by omega⟩ ?_
            (conv=>arg 2;whnf);refine wp_store 0 rfl (us := runC y) (VleL.refl _) (show _ + 1 ≤ _ by rw [hx1]; simp [width]; omega) rfl ?_
            rw [hset]
            (conv=>arg 2;whnf)
            refine wp_leaf (loop_next (l.length - (i + 2)) _ [.obj b ((C.set k y).map bdsV ++ sp)] (by omega) (.cons (.refl _) (.cons (.refl _) (.cons (Vle.inc k rfl (by omega)) (.cons (.refl _) (.cons (Vle.inc d rfl (by omega)) (.nil _)))))) (List.Sublist.refl _) ⟨k + 1, i + 1, d + 1, C.set k y, rfl, by omega, by omega, h2, by rw [hnx, List.length_append, ← hk]; rfl, by omega, by rw [List.length_set]; exact hC, by rw [set_take hkC, hnx, hCk], by rw [List.drop_set_of_lt (by omega)]; exact drop_more hCd, rfl, rfl⟩)
        · have h2 : i + 1 = l.length := by have := of_decide_eq_false h2; omega
          have hlt : l.take (i + 1) = l := by rw [h2]; exact List.take_length
          rw [hlt] at hk hCk
          have hkC : k ≤ C.length := by omega
          have hsc := splice_clear (sp := sp) hkC (.sl none [] .zero)
          rw [hC, hCk] at hsc
          (conv=>arg 2;whnf)
          refine wp_leaf (loop_exit ?_)
          (conv=>arg 2;whnf);refine wp_need ⟨Int.natCast_nonneg _, by omega⟩ ?_
          (conv=>arg 2;whnf);refine wp_clearE 0 k (l.length - k) _ rfl (by simp [width]) (by simp) (by rw [hx1]; simp [width]; omega) (by intro v hv; rw [List.mem_singleton.1 hv]; rfl) hsc rfl ?_
          (conv=>arg 2;whnf);refine wp_need ⟨Int.natCast_nonneg _, by omega⟩ ?_
          (conv=>arg 2;whnf)
          refine wp_leaf (loop_ret ?_)
          (conv=>arg 2;whnf);refine w_ret1 (v := .lsl (some 1) b 0 (compL eq l).length cap) rfl (Vle.eq (by rw [← hk]; rfl)) (List.Sublist.refl _) ⟨_, rfl, rfl⟩
    · have h : k = l.length := by have := of_decide_eq_false h; omega
      rw [h, List.take_length] at hcomp
      (conv=>arg 2;whnf)
      refine wp_leaf (loop_exit ?_)
      (conv=>arg 2;whnf);refine w_ret1 (v := .lsl (some 1) b 0 l.length cap) rfl (Vle.refl _) (List.Sublist.refl _) ⟨sp, by rw [hcomp], by rw [hcomp]⟩
end Go.Sv
namespace Go.Sv
open Go Go.Proofs Go.Sort Go.Lib Go.RowKit
theorem drewN_eq (w : World) (q : Nat) : w.drewN q = { w with drawn := w.drawn + q } := rfl
theorem ext_grow {g g' : Gh} {w w' : World} (hC : CountsUp) (h : Ext [] g w g' w') : ∃ q os, w' = grow (w.drewN q) os := by
  refine ⟨w'.drawn - w.drawn, w'.heap.extract w.heap.size w'.heap.size, ?_⟩
  have hd := h.drawn hC
  have hh : w'.heap = w.heap ++ w'.heap.extract w.heap.size w'.heap.size := by
    have hs := h.size
    apply Array.ext_getElem?
    intro i
    by_cases hi : i < w.heap.size
    · rw [Array.getElem?_append_left hi, h.frame i hi (by simp)]
    · rw [Array.getElem?_append_right (by omega), Array.getElem?_extract]
      by_cases h2 : i < w'.heap.size
      · rw [if_pos (by omega)]
        congr 1
        omega
      · rw [if_neg (by omega), Array.getElem?_eq_none (by omega)]
  rw [drewN_eq, grow]
  cases w' with
  | mk heap tape drawn os output =>
    have e1 : os = w.os := h.os
    have e2 : tape = w.tape := h.tape
    have e3 : output = w.output := h.output
    simp only at hd hh ⊢
    rw [← hh, e1, e2, e3, show w.drawn + (drawn - w.drawn) = drawn by omega]
theorem calls_of_answers {P : Program} {f : FuncId} {xs : Array Value} {w : World} {K : Value → World → Prop} (hf : isFn P f) (h : Answers P (callFunc f xs) w K) : Calls P f xs w fun e w' => ∃ x, e = .returned x ∧ K x w' := by
  have hrun : (callFunc f xs).run P w = .ok (.enter f xs) w := by
    obtain ⟨fn, c, h1, h2, h3⟩ := hf
    have hn' : ¬ fn.name = "runtime.NumGoroutine" := by simpa using h3
    simp [callFunc, h1, h2, hn']
  rcases h with ⟨x, w', h1, _⟩ | ⟨f', args', w', h1, h2⟩ | ⟨row, args, w', h1, _⟩
  · rw [hrun] at h1; cases h1
  · rw [hrun] at h1
    cases h1
    exact callsIn_wide.1 h2
  · rw [hrun] at h1; cases h1
theorem answers_of_calls {P : Program} {f : FuncId} {xs : Array Value} {w : World} {K : Value → World → Prop} (hf : isFn P f) (h : Calls P f xs w fun e w' => ∃ x, e = .returned x ∧ K x w') : Answers P (callFunc f xs) w K := by
  obtain ⟨fn, c, h1, h2, h3⟩ := hf
  have hn' : ¬ fn.name = "runtime.NumGoroutine" := by simpa using h3
  exact .inr (.inl ⟨f, xs, w, by simp [callFunc, h1, h2, hn'], callsIn_wide.2 h⟩)
def SortLaw (P : Program) (F g : FuncId) : Prop :=
  ∀ (α : Type) [Inhabited α] (enc : α → List Value) (cf : α → α → Int) (blk off cap : Nat) (d : Array α) (w : World), (∀ x, (enc x).length = 1) → (∀ x, ∀ v ∈ enc x, v.oneCell' = true) → SWO (ltOf cf) →
    CmpLays P g #[] enc 1 cf blk off d.size w → HoldsK enc 1 w blk off d → blk < w.heap.size → d.size < 4611686018427387904 →
    Calls P F #[.slice (some ⟨blk, off, none⟩) d.size cap, .func (.func g) #[] #[]] w fun e w' => e = .returned (.tuple #[]) ∧ ∃ d' n os, PermIn 0 d.size d d' ∧ SortedIn (ltOf cf) 0 d.size d' ∧ w' = sortWorldK enc 1 w blk off n d' os
section
variable {g : Gh} {w : World} {β : Type} {toV : β → V} {Q : β → Prop}
structure Good (g : Gh) (w : World) (toV : β → V) (Q : β → Prop) where
  b : β
  v : Value
  rel : RelV g w (toV b) v
  q : Q b
theorem goods : ∀ (l : List β) (ys : List Value), RelL g w (l.map toV) ys → (∀ x ∈ l, Q x) → ∃ ds : List (Good g w toV Q), ds.map Good.b = l ∧ ds.map Good.v = ys
  | [], ys, h, _ => by
    simp only [List.map_nil, RelL] at h
    exact ⟨[], rfl, h.symm⟩
  | x :: l, ys, h, hq => by
    simp only [List.map_cons, RelL] at h
    obtain ⟨y, zs, rfl, h1, h2⟩ := h
    obtain ⟨ds, e1, e2⟩ := goods l zs h2 fun z hz => hq z (by simp [hz])
    exact ⟨⟨x, y, h1, hq x (by simp)⟩ :: ds, by simp [e1], by simp [e2]⟩
def encG (x : Good g w toV Q) : List Value := [x.v]
theorem flatG [Inhabited (Good g w toV Q)] (d : Array (Good g w toV Q)) : flatK encG 1 d = d.map Good.v := by
  apply Array.ext_getElem?
  intro i
  by_cases hi : i < d.size
  · simp [flatK, encG, hi, Nat.mod_one]
  · rw [Array.getElem?_eq_none (by simp; omega), Array.getElem?_eq_none (by simp; omega)]
theorem relL_goods (l : List (Good g w toV Q)) : RelL g w ((l.map Good.b).map toV) (l.map Good.v) := by
  rw [List.map_map]
  exact relL_map _ _ l fun x _ => x.rel
theorem after_grow {R : List Res} (hw : Wf g w) (hr : RelR g w R) (q : Nat) (os : Array Obj) : After g w R g (grow (w.drewN q) os) R := by
  have hh : ∀ b, b < w.heap.size → (grow (w.drewN q) os).heap[b]? = w.heap[b]? := fun b hb => Array.getElem?_append_left hb
  have hc : ∀ b o, b < w.heap.size → cell (grow (w.drewN q) os) b o = cell w b o := fun b o hb => World.cell?_of_block (w := w) (hh b hb)
  have hlt : ∀ b o, o < g.cm b → b < w.heap.size := fun b o ho => by
    rcases Nat.lt_or_ge b w.heap.size with h1 | h1
    · exact h1
    · rw [hw.cm b h1] at ho; omega
  have hp : Pre g w g (grow (w.drewN q) os) := ⟨fun _ => Nat.le_refl _, fun b o ho => hc b o (hlt b o ho), Nat.le_refl _, fun _ _ => rfl, fun b o h0 => by rw [hc b o (hw.lt h0)]⟩
  have hs : w.heap.size ≤ (grow (w.drewN q) os).heap.size := by
    show w.heap.size ≤ (w.heap ++ os).size
    rw [Array.size_append]; omega
  exact after_of_ext hr { hp with os := rfl, tape := rfl, output := rfl, drawn := fun _ => Nat.le_add_right _ _, size := hs, frame := fun b hb _ => hh b hb, cmeq := fun _ _ _ => rfl, wf := ⟨fun b hb => hw.cm b (Nat.le_trans hs hb), fun b o ho => by rw [hc b o (hlt b o ho)]; exact hw.ex b o ho, hp.st hw⟩ }
theorem sortW [Inhabited (Good g w toV Q)] {b o m : Nat} {vals : Array Value} {e : TypeId} {fz : Nat × Nat} (hh : w.heap[b]? = some (.cells vals e fz)) (dk : Array (Good g w toV Q)) (os : Array Obj) :
    sortWorldK encG 1 w b o m dk os = grow ((w.setRow b (putCells id o (dk.map Good.v) vals)).drewN m) os := by
  unfold sortWorldK putRowK putRow mapBlock
  rw [flatG]
  congr 1
  show World.mk _ _ _ _ _ = World.mk _ _ _ _ _
  congr 1
  show w.heap.modify b _ = (w.setRow b _).heap
  apply Array.ext_getElem?
  intro i
  by_cases hi : i = b
  · subst hi
    rw [setRow_heap w i vals _ e fz hh, Array.getElem?_modify, if_pos rfl, hh]; rfl
  · rw [setRow_other w b i _ hi, Array.getElem?_modify, if_neg (fun h => hi h.symm)]
theorem put_rel [Inhabited (Good g w toV Q)] {g' : Gh} {w' : World} {vals : Array Value} {pre post : List V} {l : List β} (d : Array (Good g w toV Q)) (hl : RelL g' w' (pre ++ l.map toV ++ post) vals.toList) (hn : d.size = l.length)
    (hd : RelL g' w' ((d.toList.map Good.b).map toV) (d.toList.map Good.v)) : RelL g' w' (pre ++ (d.toList.map Good.b).map toV ++ post) (putCells id pre.length (d.map Good.v) vals).toList := by
  have hlen := relL_length hl
  have hvs : vals.toList.length = vals.size := Array.length_toList
  have hds : d.toList.length = d.size := Array.length_toList
  simp only [List.length_append, List.length_map] at hlen
  have k1 : (vals.toList.take pre.length).length = pre.length := by rw [List.length_take]; omega
  have k2 : (vals.toList.take pre.length ++ d.toList.map Good.v).length = pre.length + l.length := by rw [List.length_append, List.length_map, k1]; omega
  have e1 : (putCells id pre.length (d.map Good.v) vals).toList = vals.toList.take pre.length ++ d.toList.map Good.v ++ vals.toList.drop (pre.length + l.length) := by
    apply List.ext_getElem?
    intro i
    rw [Array.getElem?_toList, putCells, Array.getElem?_mapIdx]
    by_cases h1 : i < pre.length
    · rw [List.append_assoc, List.getElem?_append_left (by omega), List.getElem?_take_of_lt h1, Array.getElem?_toList]
      cases vals[i]? with
      | none => rfl
      | some x => simp only [Option.map_some]; rw [if_neg (by omega)]
    · by_cases h2 : i < pre.length + l.length
      · rw [List.getElem?_append_left (by omega), List.getElem?_append_right (by omega), k1, List.getElem?_map, Array.getElem?_toList, Array.getElem?_eq_getElem (show i < vals.size by omega), Array.getElem?_eq_getElem (show i - pre.length < d.size by omega)]
        simp only [Option.map_some]
        rw [if_pos ⟨by omega, by rw [Array.size_map]; omega⟩]
        congr 1
        show (d.map Good.v)[i - pre.length]! = _
        rw [getElem!_pos _ _ (by rw [Array.size_map]; omega)]
        simp
      · rw [List.getElem?_append_right (by omega), k2, List.getElem?_drop, Array.getElem?_toList, show pre.length + l.length + (i - (pre.length + l.length)) = i by omega]
        cases vals[i]? with
        | none => rfl
        | some x =>
          simp only [Option.map_some]
          rw [if_neg (fun h => h2 (by have := h.2; rw [Array.size_map] at this; omega))]
  rw [e1]
  refine relL_append (relL_append ?_ hd) ?_
  · have := relL_take hl pre.length
    rwa [List.append_assoc, List.take_left] at this
  · have h5 := relL_drop hl (pre ++ l.map toV).length
    rw [List.drop_left, List.length_append, List.length_map] at h5
    exact h5
theorem sort_call {P : Program} {F f : FuncId} (hC : CountsUp) (hf : isFn P f) (hF : isFn P F) (law : SortLaw P F f) (cf : β → β → Int) (hO : SWO (ltOf cf)) (h1 : ∀ x, oneV (toV x) = true)
    (hcmp : ∀ x y, Q x → Q y → PCall P f [.agg [toV x], .agg [toV y]] (i64V (cf x y))) (l : List β) (hQ : ∀ x ∈ l, Q x) (h0 : l ≠ []) (hl62 : l.length < 4611686018427387904) (b cap : Nat) (pre post : List V) :
    SCall P F [.lsl (some 1) b pre.length l.length cap, .fn (.func f) [] []] [.obj b (pre ++ l.map toV ++ post)] fun v R' => v = .tup [] ∧ ∃ l' : List β, l'.Perm l ∧ l'.Pairwise (fun x y => cf y x < 0 → False) ∧ R' = [.obj b (pre ++ l'.map toV ++ post)] := by
  intro g w xs hw hx hr
  have hne : pre ++ l.map toV ++ post ≠ [] := by
    cases l with
    | nil => exact absurd rfl h0
    | cons x l => simp
  have hobj := hr.all _ (List.mem_singleton.2 rfl)
  obtain ⟨vals, e, fz, hh, hz, hlv, hcm⟩ := obj_cons hne hobj
  have hlv2 := relL_length hlv
  simp only [List.length_append, List.length_map, Array.length_toList] at hlv2
  have hrow : RelL g w (l.map toV) ((vals.toList.drop pre.length).take l.length) := by
    have h2 := relL_take (relL_drop hlv pre.length) l.length
    rwa [List.append_assoc, List.drop_left, List.take_left' (by rw [List.length_map])] at h2
  obtain ⟨ds, d1, d2⟩ := goods (Q := Q) l _ hrow hQ
  obtain ⟨x0, ds', rfl⟩ : ∃ x0 ds', ds = x0 :: ds' := by
    cases ds with
    | nil => rw [← d1] at h0; exact absurd rfl h0
    | cons x0 ds' => exact ⟨x0, ds', rfl⟩
  haveI : Inhabited (Good g w toV Q) := ⟨x0⟩
  obtain ⟨d, hd⟩ : ∃ d : Array (Good g w toV Q), d.toList = x0 :: ds' := ⟨(x0 :: ds').toArray, rfl⟩
  rw [← hd] at d1 d2
  clear hd
  have hsz : d.size = l.length := by rw [← d1, List.length_map, Array.length_toList]
  have hbs : b < w.heap.size := (Array.getElem?_eq_some_iff.1 hh).1
  -- the arguments
  simp only [RelL] at hx
  obtain ⟨a1, r1, rfl, ha1, a2, r2, rfl, ha2, rfl⟩ := hx
  simp only [RelV] at ha1
  obtain ⟨a, rfl, hcap, ha⟩ := ha1
  have hl0 : 0 < l.length := List.length_pos_iff.2 h0
  obtain rfl : a = some ⟨b, pre.length, none⟩ := ha.resolve_left (by omega)
  simp only [RelV] at ha2
  obtain ⟨q1, q2, rfl, hq1, hq2⟩ := ha2
  simp only [RelL] at hq1 hq2
  obtain rfl : q1 = #[] := by rw [← Array.toList_inj]; exact hq1
  obtain rfl : q2 = #[] := by rw [← Array.toList_inj]; exact hq2
  -- worlds of the sort
  have hafter : ∀ (m : Nat) (os : Array Obj) (dk : Array (Good g w toV Q)), dk.size = d.size → After g w [.obj b (pre ++ l.map toV ++ post)] g (sortWorldK encG 1 w b pre.length m dk os) [.obj b (pre ++ (dk.toList.map Good.b).map toV ++ post)] := by
    intro m os dk hk
    rw [sortW hh]
    have s1 := after_setRow (cs2 := pre ++ (dk.toList.map Good.b).map toV ++ post) hw hne hobj (put_rel (g' := g) (w' := w) dk hlv (by omega) (relL_goods _)) (by simp only [List.length_append, List.length_map, Array.length_toList]; omega)
    exact s1.trans (after_grow s1.ext.wf s1.res m os)
  rw [← hsz]
  refine answers_of_calls hF (Calls.mono (law (Good g w toV Q) encG (fun x y => cf x.b y.b) b pre.length cap d w (fun _ => rfl) ?_ ?_ ?_ ?_ hbs (by omega)) ?_)
  · intro x v hv
    rw [List.mem_singleton.1 hv]
    exact oneV_one (h1 x.b) x.rel
  · exact ⟨fun x => hO.irrefl x.b, fun x y z => hO.trans x.b y.b z.b, fun x y z => hO.ntrans x.b y.b z.b⟩
  · intro m os dk hk x y
    have hA := hafter m os dk hk
    have hc := hcmp x.b y.b x.q y.q g (sortWorldK encG 1 w b pre.length m dk os) [.agg #[x.v], .agg #[y.v]] hA.ext.wf (by
      simp only [RelL, RelV]
      exact ⟨_, _, rfl, ⟨_, rfl, _, _, rfl, RelV.mono hA.ext.toPre _ _ x.rel, rfl⟩, _, _, rfl, ⟨_, rfl, _, _, rfl, RelV.mono hA.ext.toPre _ _ y.rel, rfl⟩, rfl⟩) ⟨by simp, by simp [blocks]⟩
    refine Calls.mono (calls_of_answers hf hc) ?_
    rintro e w' ⟨r, rfl, v, g', R', rfl, hA2, hv⟩
    simp only [i64V, RelV] at hv
    subst hv
    refine ⟨rfl, ext_grow (g := g) (g' := g') hC ?_⟩
    exact hA2.ext
  · intro j hj
    rw [flatG, Array.size_map] at hj
    have hj2 : pre.length + j < vals.size := by omega
    have hc : cell w b (pre.length + j) = vals[pre.length + j]? := by
      unfold cell World.cell?
      simp only [hh]
      rfl
    refine ⟨?_, frozen_cells hh hz hj2⟩
    have e1 := congrArg (·[j]?) d2
    simp only [List.getElem?_map, Array.getElem?_toList] at e1
    rw [List.getElem?_take_of_lt (by omega), List.getElem?_drop, Array.getElem?_toList] at e1
    show cell w b (pre.length + j) = _
    rw [hc, ← e1, flatG, Array.getElem?_eq_getElem hj, getElem!_pos _ _ (by rw [Array.size_map]; exact hj)]
    simp
  · rintro e' w' ⟨rfl, d', m, os, hp, hs, rfl⟩
    obtain ⟨p1, p2, p3⟩ := hp
    refine ⟨_, rfl, .tup [], g, _, ⟨rfl, d'.toList.map Good.b, ?_, ?_, rfl⟩, hafter m os d' p1, ?_⟩
    · rw [← d1]
      have h3 : d'.toList.Perm d.toList := by
        have e1 : d'.extract 0 d.size = d' := by rw [← p1]; exact Array.extract_size
        have e2 : d.extract 0 d.size = d := Array.extract_size
        rwa [e1, e2] at p3
      exact h3.map _
    · rw [List.pairwise_map, List.pairwise_iff_getElem]
      intro i j hi hj hij hlt
      have := hs i j (Nat.zero_le _) hij (by rw [Array.length_toList] at hj; omega)
      rw [Array.length_toList] at hi hj
      rw [getElem!_pos d' i hi, getElem!_pos d' j hj] at this
      simp only [ltOf, decide_eq_false_iff_not] at this
      exact this (by simpa using hlt)
    · simp only [RelV, RelL]
      exact ⟨#[], rfl, rfl⟩
end
end Go.Sv
