/- Parts of the proof, one behind the other. -/
import Derived.Test.YtonnbjcbjjigiaaGreatDoorMgRowStepTells5
namespace Go.Sv
open Go Go.Proofs
def resV : Except Nat Val → V
  | .ok v => .tup [valV v, .c (errV none)]
  | .error e => .tup [valV val0, .c (errV (some e))]
theorem val_eq (a b : Val) : (a.kind == b.kind && (a.n == b.n && ((S a.s).toList == (S b.s).toList && true))) = decide (a = b) := by
  rw [strEq]
  cases a with
  | mk k n s => cases b with
    | mk k' n' s' => rw [Bool.eq_iff_iff]; simp
theorem boolZ_vle (b : Bool) : VleL [i64V 3, i64V (if b then 1 else 0), str []] (valL (boolV b)) := VleL.refl _
set_option maxRecDepth 100000 in
theorem truth_call (b : Bool) : PCall Tryz.prog 128 [bV b] (valV (boolV b)) := by
  refine scall_of (live := []) (ords := []) Tryz.func128 rfl (by kernel_rfl) (by kernel_rfl) (Nat.le_of_ble_eq_true rfl) ?_
  (conv=>arg 2;whnf);refine wp_allocE valZ rfl fun c => ?_
  cases b with
  | true =>
    (repeat ((conv=>arg 2;whnf);first|refine wp_it rfl ?_|refine wp_if rfl ?_))
    (conv=>arg 2;whnf);refine wp_storeE (cs := valZ) 0 0 (valL (boolV true)) rfl rfl (boolZ_vle true) (Nat.le_refl _) rfl (R' := [.obj c (valL (boolV true))]) rfl ?_
    (conv=>arg 2;whnf);refine w_ret1k (R' := []) c 0 0 rfl rfl rfl rfl rfl (Vle.refl _) (List.nil_sublist _) rfl
  | false =>
    (repeat ((conv=>arg 2;whnf);first|refine wp_it rfl ?_|refine wp_if rfl ?_))
    (conv=>arg 2;whnf);refine wp_storeE (cs := valZ) 0 0 (valL (boolV false)) rfl rfl (boolZ_vle false) (Nat.le_refl _) rfl (R' := [.obj c (valL (boolV false))]) rfl ?_
    (conv=>arg 2;whnf);refine w_ret1k (R' := []) c 0 0 rfl rfl rfl rfl rfl (Vle.refl _) (List.nil_sublist _) rfl
theorem arith_t {op x y : Int} (h : inI (opI op x y) = true) : arithE op x y = .ok ⟨1, opI op x y, []⟩ := by rw [arithE, if_pos h]
theorem arith_f {op x y : Int} (h : inI (opI op x y) = false) : arithE op x y = .error 16 := by rw [arithE, h]; rfl
theorem calc_cases (n : Int) : (inI n = true ∧ calcR n = .tup [i64V n, bV true]) ∨ (inI n = false ∧ calcR n = .tup [i64V 0, bV false]) := by
  cases h : inI n with
  | true => exact .inl ⟨rfl, by rw [calcR, h]; rfl⟩
  | false => exact .inr ⟨rfl, by rw [calcR, h]; rfl⟩
set_option maxRecDepth 100000 in
theorem counts_call (op x y : Int) (h3 : 3 ≤ op) (h5 : op ≤ 5) (hx : InR x) (hy : InR y) : PCall Tryz.prog 154 [i64V op, i64V x, i64V y] (resV (arithE op x y)) := by
  have fin : ∀ o : Int, o = op → PCall Tryz.prog 154 [i64V o, i64V x, i64V y] (resV (arithE o x y)) := by
    intro o ho
    have ho3 : o = 3 ∨ o = 4 ∨ o = 5 := by omega
    rcases ho3 with rfl | rfl | rfl
    · have f1 := sum_call x y hx hy
      refine scall_of (live := []) (ords := []) Tryz.func154 rfl (by kernel_rfl) (by kernel_rfl) (Nat.le_of_ble_eq_true rfl) ?_
      (conv=>arg 2;whnf);refine wp_allocE valZ rfl fun c => ?_
      (repeat ((conv=>arg 2;whnf);first|refine wp_it rfl ?_|refine wp_if rfl ?_))
      (conv=>arg 2;whnf);refine wp_pcall f1 ?_
      rcases calc_cases (x + y) with ⟨hi, hc⟩ | ⟨hi, hc⟩
      · rw [hc]
        (repeat ((conv=>arg 2;whnf);first|refine wp_it rfl ?_|refine wp_if rfl ?_))
        (conv=>arg 2;whnf);refine wp_storeE (cs := valZ) 0 0 (valL ⟨1, x + y, []⟩) rfl rfl (VleL.refl _) (Nat.le_refl _) rfl (R' := [.obj c (valL ⟨1, x + y, []⟩)]) rfl ?_
        (conv=>arg 2;whnf);refine w_ret2ck (R' := []) (a := valV ⟨1, x + y, []⟩) (u := .c (errV none)) c 0 0 rfl rfl rfl rfl rfl (Vle.refl _) (Vle.refl _) (List.nil_sublist _) (by rw [show arithE 3 x y = .ok ⟨1, x + y, []⟩ from arith_t (op := 3) (x := x) (y := y) hi]; rfl)
      · rw [hc]
        (repeat ((conv=>arg 2;whnf);first|refine wp_it rfl ?_|refine wp_if rfl ?_))
        (conv=>arg 2;whnf);refine wp_storeE (cs := valZ) 0 0 (valL val0) rfl rfl (VleL.refl _) (Nat.le_refl _) rfl (R' := [.obj c (valL val0)]) rfl ?_
        (conv=>arg 2;whnf);refine w_ret2ck (R' := []) (a := valV val0) (u := .c (errV (some 16))) c 0 0 rfl rfl rfl rfl rfl (Vle.refl _) (Vle.refl _) (List.nil_sublist _) (by rw [show arithE 3 x y = .error 16 from arith_f (op := 3) (x := x) (y := y) hi]; rfl)
    · have f1 := diff_call x y hx hy
      refine scall_of (live := []) (ords := []) Tryz.func154 rfl (by kernel_rfl) (by kernel_rfl) (Nat.le_of_ble_eq_true rfl) ?_
      (conv=>arg 2;whnf);refine wp_allocE valZ rfl fun c => ?_
      (repeat ((conv=>arg 2;whnf);first|refine wp_it rfl ?_|refine wp_if rfl ?_))
      (conv=>arg 2;whnf);refine wp_pcall f1 ?_
      rcases calc_cases (x - y) with ⟨hi, hc⟩ | ⟨hi, hc⟩
      · rw [hc]
        (repeat ((conv=>arg 2;whnf);first|refine wp_it rfl ?_|refine wp_if rfl ?_))
        (conv=>arg 2;whnf);refine wp_storeE (cs := valZ) 0 0 (valL ⟨1, x - y, []⟩) rfl rfl (VleL.refl _) (Nat.le_refl _) rfl (R' := [.obj c (valL ⟨1, x - y, []⟩)]) rfl ?_
        (conv=>arg 2;whnf);refine w_ret2ck (R' := []) (a := valV ⟨1, x - y, []⟩) (u := .c (errV none)) c 0 0 rfl rfl rfl rfl rfl (Vle.refl _) (Vle.refl _) (List.nil_sublist _) (by rw [show arithE 4 x y = .ok ⟨1, x - y, []⟩ from arith_t (op := 4) (x := x) (y := y) hi]; rfl)
      · rw [hc]
        (repeat ((conv=>arg 2;whnf);first|refine wp_it rfl ?_|refine wp_if rfl ?_))
        (conv=>arg 2;whnf);refine wp_storeE (cs := valZ) 0 0 (valL val0) rfl rfl (VleL.refl _) (Nat.le_refl _) rfl (R' := [.obj c (valL val0)]) rfl ?_
        (conv=>arg 2;whnf);refine w_ret2ck (R' := []) (a := valV val0) (u := .c (errV (some 16))) c 0 0 rfl rfl rfl rfl rfl (Vle.refl _) (Vle.refl _) (List.nil_sublist _) (by rw [show arithE 4 x y = .error 16 from arith_f (op := 4) (x := x) (y := y) hi]; rfl)
    · have f1 := prod_call x y hx hy
      refine scall_of (live := []) (ords := []) Tryz.func154 rfl (by kernel_rfl) (by kernel_rfl) (Nat.le_of_ble_eq_true rfl) ?_
      (conv=>arg 2;whnf);refine wp_allocE valZ rfl fun c => ?_
      (repeat ((conv=>arg 2;whnf);first|refine wp_it rfl ?_|refine wp_if rfl ?_))
      (conv=>arg 2;whnf);refine wp_pcall f1 ?_
      rcases calc_cases (x * y) with ⟨hi, hc⟩ | ⟨hi, hc⟩
      · rw [hc]
        (repeat ((conv=>arg 2;whnf);first|refine wp_it rfl ?_|refine wp_if rfl ?_))
        (conv=>arg 2;whnf);refine wp_storeE (cs := valZ) 0 0 (valL ⟨1, x * y, []⟩) rfl rfl (VleL.refl _) (Nat.le_refl _) rfl (R' := [.obj c (valL ⟨1, x * y, []⟩)]) rfl ?_
        (conv=>arg 2;whnf);refine w_ret2ck (R' := []) (a := valV ⟨1, x * y, []⟩) (u := .c (errV none)) c 0 0 rfl rfl rfl rfl rfl (Vle.refl _) (Vle.refl _) (List.nil_sublist _) (by rw [show arithE 5 x y = .ok ⟨1, x * y, []⟩ from arith_t (op := 5) (x := x) (y := y) hi]; rfl)
      · rw [hc]
        (repeat ((conv=>arg 2;whnf);first|refine wp_it rfl ?_|refine wp_if rfl ?_))
        (conv=>arg 2;whnf);refine wp_storeE (cs := valZ) 0 0 (valL val0) rfl rfl (VleL.refl _) (Nat.le_refl _) rfl (R' := [.obj c (valL val0)]) rfl ?_
        (conv=>arg 2;whnf);refine w_ret2ck (R' := []) (a := valV val0) (u := .c (errV (some 16))) c 0 0 rfl rfl rfl rfl rfl (Vle.refl _) (Vle.refl _) (List.nil_sublist _) (by rw [show arithE 5 x y = .error 16 from arith_f (op := 5) (x := x) (y := y) hi]; rfl)
  exact fin op rfl
set_option maxRecDepth 100000 in
theorem less_call (a b : Val) : PCall Tryz.prog 155 [valV a, valV b] (bV (lessV a b)) := by
  refine scall_of (live := []) (ords := []) Tryz.func155 rfl (by kernel_rfl) (by kernel_rfl) (Nat.le_of_ble_eq_true rfl) ?_
  (conv=>arg 2;whnf);refine wp_ite (fun h1 => ?_) (fun h1 => ?_)
  · have h1 : a.kind = 1 := by simpa using h1
    (conv=>arg 2;whnf);refine w_retp rfl (Vle.eq (cBool (by rw [lessV, if_pos h1])))
  · have h1 : a.kind ≠ 1 := by simpa using h1
    (conv=>arg 2;whnf);refine w_retp rfl (Vle.eq (cBool (by rw [lessV, if_neg h1]; rfl)))
set_option maxRecDepth 100000 in
theorem pair3_call (a b : Val) (ha : InR a.n) (hb : InR b.n) : PCall Tryz.prog 145 [i64V 3, valV a, valV b] (resV (pairE 3 a b)) := by
  refine scall_of (live := []) (ords := [(2, []), (4, []), (6, []), (8, []), (10, []), (12, [])]) Tryz.func145 rfl (by kernel_rfl) (by kernel_rfl) (Nat.le_of_ble_eq_true rfl) ?_
  (conv=>arg 2;whnf);refine wp_allocE valZ rfl fun c => ?_
  (conv=>arg 2;whnf)
  by_cases hs : a.kind = b.kind
  · have hk : (a.kind == b.kind) = true := beq_iff_eq.2 hs
    refine wp_cutR (frL [(0, i64V 3), (4, .pt (some 3) (valV a) 0), (5, .pt (some 3) (valV b) 0), (6, .loc c 0), (8, bV true)]) [.obj c valZ] (.cons (.refl _) (.cons (.refl _) (.cons (.refl _) (.cons (.refl _) (.cons (Vle.eq (cBool hk)) (.nil _)))))) (List.Sublist.refl _) ?_
    have f1 := counts_call 3 a.n b.n (by decide) (by decide) ha hb
    (repeat ((conv=>arg 2;whnf);first|refine wp_it rfl ?_|refine wp_if rfl ?_))
    (conv=>arg 2;whnf);refine wp_ite (fun h1 => ?_) (fun h1 => ?_)
    · have h1 : a.kind = 1 := by simpa using h1
      have hp : pairE 3 a b = arithE 3 a.n b.n := by rw [pairE, if_pos hs, if_pos ⟨by decide, h1⟩]
      (repeat ((conv=>arg 2;whnf);first|refine wp_it rfl ?_|refine wp_if rfl ?_))
      cases hr : arithE 3 a.n b.n with
      | ok v =>
        rw [hr] at f1
        (conv=>arg 2;whnf);refine wp_pcall f1 ?_
        (conv=>arg 2;whnf);refine wp_storeE (cs := valZ) 0 0 (valL v) rfl rfl (VleL.refl _) (Nat.le_refl _) rfl (R' := [.obj c (valL v)]) rfl ?_
        (conv=>arg 2;whnf);refine w_ret2ck (R' := []) (a := valV v) (u := .c (errV none)) c 0 0 rfl rfl rfl rfl rfl (Vle.refl _) (Vle.refl _) (List.nil_sublist _) (by rw [hp, hr]; rfl)
      | error e =>
        rw [hr] at f1
        (conv=>arg 2;whnf);refine wp_pcall f1 ?_
        (conv=>arg 2;whnf);refine wp_storeE (cs := valZ) 0 0 (valL val0) rfl rfl (VleL.refl _) (Nat.le_refl _) rfl (R' := [.obj c (valL val0)]) rfl ?_
        (conv=>arg 2;whnf);refine w_ret2ck (R' := []) (a := valV val0) (u := .c (errV (some e))) c 0 0 rfl rfl rfl rfl rfl (Vle.refl _) (Vle.refl _) (List.nil_sublist _) (by rw [hp, hr]; rfl)
    · have h1 : a.kind ≠ 1 := by simpa using h1
      have hp : pairE 3 a b = .error 14 := by rw [pairE, if_pos hs, if_neg (fun h => h1 h.2)]; rfl
      (repeat ((conv=>arg 2;whnf);first|refine wp_it rfl ?_|refine wp_if rfl ?_))
      (conv=>arg 2;whnf)
      refine wp_cutR (frL [(0, i64V 3), (4, .pt (some 3) (valV a) 0), (5, .pt (some 3) (valV b) 0), (6, .loc c 0), (8, bV true)]) [.obj c valZ] (.cons (.refl _) (.cons (.refl _) (.cons (.refl _) (.cons (.refl _) (.cons (.refl _) (.nil _)))))) (List.Sublist.refl _) ?_
      (repeat ((conv=>arg 2;whnf);first|refine wp_it rfl ?_|refine wp_if rfl ?_))
      (conv=>arg 2;whnf)
      refine wp_cutR (frL [(0, i64V 3), (4, .pt (some 3) (valV a) 0), (5, .pt (some 3) (valV b) 0), (6, .loc c 0), (8, bV true)]) [.obj c valZ] (.cons (.refl _) (.cons (.refl _) (.cons (.refl _) (.cons (.refl _) (.cons (.refl _) (.nil _)))))) (List.Sublist.refl _) ?_
      (repeat ((conv=>arg 2;whnf);first|refine wp_it rfl ?_|refine wp_if rfl ?_))
      (conv=>arg 2;whnf)
      refine wp_cutR (frL [(0, i64V 3), (4, .pt (some 3) (valV a) 0), (5, .pt (some 3) (valV b) 0), (6, .loc c 0), (8, bV true)]) [.obj c valZ] (.cons (.refl _) (.cons (.refl _) (.cons (.refl _) (.cons (.refl _) (.cons (.refl _) (.nil _)))))) (List.Sublist.refl _) ?_
      (repeat ((conv=>arg 2;whnf);first|refine wp_it rfl ?_|refine wp_if rfl ?_))
      (conv=>arg 2;whnf)
      refine wp_cutR (frL [(0, i64V 3), (4, .pt (some 3) (valV a) 0), (5, .pt (some 3) (valV b) 0), (6, .loc c 0), (8, bV true)]) [.obj c valZ] (.cons (.refl _) (.cons (.refl _) (.cons (.refl _) (.cons (.refl _) (.cons (.refl _) (.nil _)))))) (List.Sublist.refl _) ?_
      (repeat ((conv=>arg 2;whnf);first|refine wp_it rfl ?_|refine wp_if rfl ?_))
      (conv=>arg 2;whnf)
      refine wp_cutR (frL [(0, i64V 3), (4, .pt (some 3) (valV a) 0), (5, .pt (some 3) (valV b) 0), (6, .loc c 0), (8, bV true)]) [.obj c valZ] (.cons (.refl _) (.cons (.refl _) (.cons (.refl _) (.cons (.refl _) (.cons (.refl _) (.nil _)))))) (List.Sublist.refl _) ?_
      (conv=>arg 2;whnf);refine wp_storeE (cs := valZ) 0 0 (valL val0) rfl rfl (VleL.refl _) (Nat.le_refl _) rfl (R' := [.obj c (valL val0)]) rfl ?_
      (conv=>arg 2;whnf);refine w_ret2ck (R' := []) (a := valV val0) (u := .c (errV (some 14))) c 0 0 rfl rfl rfl rfl rfl (Vle.refl _) (Vle.refl _) (List.nil_sublist _) (by rw [hp]; rfl)
  · have hk : (a.kind == b.kind) = false := beq_eq_false_iff_ne.2 hs
    have hp : pairE 3 a b = .error 14 := by rw [pairE, if_neg hs]
    refine wp_cutR (frL [(0, i64V 3), (4, .pt (some 3) (valV a) 0), (5, .pt (some 3) (valV b) 0), (6, .loc c 0), (8, bV false)]) [.obj c valZ] (.cons (.refl _) (.cons (.refl _) (.cons (.refl _) (.cons (.refl _) (.cons (Vle.eq (cBool hk)) (.nil _)))))) (List.Sublist.refl _) ?_
    (repeat ((conv=>arg 2;whnf);first|refine wp_it rfl ?_|refine wp_if rfl ?_))
    (conv=>arg 2;whnf)
    refine wp_cutR (frL [(0, i64V 3), (4, .pt (some 3) (valV a) 0), (5, .pt (some 3) (valV b) 0), (6, .loc c 0), (8, bV false)]) [.obj c valZ] (.cons (.refl _) (.cons (.refl _) (.cons (.refl _) (.cons (.refl _) (.cons (.refl _) (.nil _)))))) (List.Sublist.refl _) ?_
    (repeat ((conv=>arg 2;whnf);first|refine wp_it rfl ?_|refine wp_if rfl ?_))
    (conv=>arg 2;whnf)
    refine wp_cutR (frL [(0, i64V 3), (4, .pt (some 3) (valV a) 0), (5, .pt (some 3) (valV b) 0), (6, .loc c 0), (8, bV false)]) [.obj c valZ] (.cons (.refl _) (.cons (.refl _) (.cons (.refl _) (.cons (.refl _) (.cons (.refl _) (.nil _)))))) (List.Sublist.refl _) ?_
    (repeat ((conv=>arg 2;whnf);first|refine wp_it rfl ?_|refine wp_if rfl ?_))
    (conv=>arg 2;whnf)
    refine wp_cutR (frL [(0, i64V 3), (4, .pt (some 3) (valV a) 0), (5, .pt (some 3) (valV b) 0), (6, .loc c 0), (8, bV false)]) [.obj c valZ] (.cons (.refl _) (.cons (.refl _) (.cons (.refl _) (.cons (.refl _) (.cons (.refl _) (.nil _)))))) (List.Sublist.refl _) ?_
    (repeat ((conv=>arg 2;whnf);first|refine wp_it rfl ?_|refine wp_if rfl ?_))
    (conv=>arg 2;whnf)
    refine wp_cutR (frL [(0, i64V 3), (4, .pt (some 3) (valV a) 0), (5, .pt (some 3) (valV b) 0), (6, .loc c 0), (8, bV false)]) [.obj c valZ] (.cons (.refl _) (.cons (.refl _) (.cons (.refl _) (.cons (.refl _) (.cons (.refl _) (.nil _)))))) (List.Sublist.refl _) ?_
    (repeat ((conv=>arg 2;whnf);first|refine wp_it rfl ?_|refine wp_if rfl ?_))
    (conv=>arg 2;whnf)
    refine wp_cutR (frL [(0, i64V 3), (4, .pt (some 3) (valV a) 0), (5, .pt (some 3) (valV b) 0), (6, .loc c 0), (8, bV false)]) [.obj c valZ] (.cons (.refl _) (.cons (.refl _) (.cons (.refl _) (.cons (.refl _) (.cons (.refl _) (.nil _)))))) (List.Sublist.refl _) ?_
    (conv=>arg 2;whnf);refine wp_storeE (cs := valZ) 0 0 (valL val0) rfl rfl (VleL.refl _) (Nat.le_refl _) rfl (R' := [.obj c (valL val0)]) rfl ?_
    (conv=>arg 2;whnf);refine w_ret2ck (R' := []) (a := valV val0) (u := .c (errV (some 14))) c 0 0 rfl rfl rfl rfl rfl (Vle.refl _) (Vle.refl _) (List.nil_sublist _) (by rw [hp]; rfl)
set_option maxRecDepth 100000 in
theorem pair4_call (a b : Val) (ha : InR a.n) (hb : InR b.n) : PCall Tryz.prog 145 [i64V 4, valV a, valV b] (resV (pairE 4 a b)) := by
  refine scall_of (live := []) (ords := [(2, []), (4, []), (6, []), (8, []), (10, []), (12, [])]) Tryz.func145 rfl (by kernel_rfl) (by kernel_rfl) (Nat.le_of_ble_eq_true rfl) ?_
  (conv=>arg 2;whnf);refine wp_allocE valZ rfl fun c => ?_
  (conv=>arg 2;whnf)
  by_cases hs : a.kind = b.kind
  · have hk : (a.kind == b.kind) = true := beq_iff_eq.2 hs
    refine wp_cutR (frL [(0, i64V 4), (4, .pt (some 3) (valV a) 0), (5, .pt (some 3) (valV b) 0), (6, .loc c 0), (8, bV true)]) [.obj c valZ] (.cons (.refl _) (.cons (.refl _) (.cons (.refl _) (.cons (.refl _) (.cons (Vle.eq (cBool hk)) (.nil _)))))) (List.Sublist.refl _) ?_
    have f1 := counts_call 4 a.n b.n (by decide) (by decide) ha hb
    (repeat ((conv=>arg 2;whnf);first|refine wp_it rfl ?_|refine wp_if rfl ?_))
    (conv=>arg 2;whnf);refine wp_ite (fun h1 => ?_) (fun h1 => ?_)
    · have h1 : a.kind = 1 := by simpa using h1
      have hp : pairE 4 a b = arithE 4 a.n b.n := by rw [pairE, if_pos hs, if_pos ⟨by decide, h1⟩]
      (repeat ((conv=>arg 2;whnf);first|refine wp_it rfl ?_|refine wp_if rfl ?_))
      cases hr : arithE 4 a.n b.n with
      | ok v =>
        rw [hr] at f1
        (conv=>arg 2;whnf);refine wp_pcall f1 ?_
        (conv=>arg 2;whnf);refine wp_storeE (cs := valZ) 0 0 (valL v) rfl rfl (VleL.refl _) (Nat.le_refl _) rfl (R' := [.obj c (valL v)]) rfl ?_
        (conv=>arg 2;whnf);refine w_ret2ck (R' := []) (a := valV v) (u := .c (errV none)) c 0 0 rfl rfl rfl rfl rfl (Vle.refl _) (Vle.refl _) (List.nil_sublist _) (by rw [hp, hr]; rfl)
      | error e =>
        rw [hr] at f1
        (conv=>arg 2;whnf);refine wp_pcall f1 ?_
        (conv=>arg 2;whnf);refine wp_storeE (cs := valZ) 0 0 (valL val0) rfl rfl (VleL.refl _) (Nat.le_refl _) rfl (R' := [.obj c (valL val0)]) rfl ?_
        (conv=>arg 2;whnf);refine w_ret2ck (R' := []) (a := valV val0) (u := .c (errV (some e))) c 0 0 rfl rfl rfl rfl rfl (Vle.refl _) (Vle.refl _) (List.nil_sublist _) (by rw [hp, hr]; rfl)
    · have h1 : a.kind ≠ 1 := by simpa using h1
      have hp : pairE 4 a b = .error 14 := by rw [pairE, if_pos hs, if_neg (fun h => h1 h.2)]; rfl
      (repeat ((conv=>arg 2;whnf);first|refine wp_it rfl ?_|refine wp_if rfl ?_))
      (conv=>arg 2;whnf)
      refine wp_cutR (frL [(0, i64V 4), (4, .pt (some 3) (valV a) 0), (5, .pt (some 3) (valV b) 0), (6, .loc c 0), (8, bV true)]) [.obj c valZ] (.cons (.refl _) (.cons (.refl _) (.cons (.refl _) (.cons (.refl _) (.cons (.refl _) (.nil _)))))) (List.Sublist.refl _) ?_
      (repeat ((conv=>arg 2;whnf);first|refine wp_it rfl ?_|refine wp_if rfl ?_))
      (conv=>arg 2;whnf)
      refine wp_cutR (frL [(0, i64V 4), (4, .pt (some 3) (valV a) 0), (5, .pt (some 3) (valV b) 0), (6, .loc c 0), (8, bV true)]) [.obj c valZ] (.cons (.refl _) (.cons (.refl _) (.cons (.refl _) (.cons (.refl _) (.cons (.refl _) (.nil _)))))) (List.Sublist.refl _) ?_
      (repeat ((conv=>arg 2;whnf);first|refine wp_it rfl ?_|refine wp_if rfl ?_))
      (conv=>arg 2;whnf)
      refine wp_cutR (frL [(0, i64V 4), (4, .pt (some 3) (valV a) 0), (5, .pt (some 3) (valV b) 0), (6, .loc c 0), (8, bV true)]) [.obj c valZ] (.cons (.refl _) (.cons (.refl _) (.cons (.refl _) (.cons (.refl _) (.cons (.refl _) (.nil _)))))) (List.Sublist.refl _) ?_
      (repeat ((conv=>arg 2;whnf);first|refine wp_it rfl ?_|refine wp_if rfl ?_))
      (conv=>arg 2;whnf)
      refine wp_cutR (frL [(0, i64V 4), (4, .pt (some 3) (valV a) 0), (5, .pt (some 3) (valV b) 0), (6, .loc c 0), (8, bV true)]) [.obj c valZ] (.cons (.refl _) (.cons (.refl _) (.cons (.refl _) (.cons (.refl _) (.cons (.refl _) (.nil _)))))) (List.Sublist.refl _) ?_
      (repeat ((conv=>arg 2;whnf);first|refine wp_it rfl ?_|refine wp_if rfl ?_))
      (conv=>arg 2;whnf)
      refine wp_cutR (frL [(0, i64V 4), (4, .pt (some 3) (valV a) 0), (5, .pt (some 3) (valV b) 0), (6, .loc c 0), (8, bV true)]) [.obj c valZ] (.cons (.refl _) (.cons (.refl _) (.cons (.refl _) (.cons (.refl _) (.cons (.refl _) (.nil _)))))) (List.Sublist.refl _) ?_
      (conv=>arg 2;whnf);refine wp_storeE (cs := valZ) 0 0 (valL val0) rfl rfl (VleL.refl _) (Nat.le_refl _) rfl (R' := [.obj c (valL val0)]) rfl ?_
      (conv=>arg 2;whnf);refine w_ret2ck (R' := []) (a := valV val0) (u := .c (errV (some 14))) c 0 0 rfl rfl rfl rfl rfl (Vle.refl _) (Vle.refl _) (List.nil_sublist _) (by rw [hp]; rfl)
  · have hk : (a.kind == b.kind) = false := beq_eq_false_iff_ne.2 hs
    have hp : pairE 4 a b = .error 14 := by rw [pairE, if_neg hs]
    refine wp_cutR (frL [(0, i64V 4), (4, .pt (some 3) (valV a) 0), (5, .pt (some 3) (valV b) 0), (6, .loc c 0), (8, bV false)]) [.obj c valZ] (.cons (.refl _) (.cons (.refl _) (.cons (.refl _) (.cons (.refl _) (.cons (Vle.eq (cBool hk)) (.nil _)))))) (List.Sublist.refl _) ?_
    (repeat ((conv=>arg 2;whnf);first|refine wp_it rfl ?_|refine wp_if rfl ?_))
    (conv=>arg 2;whnf)
    refine wp_cutR (frL [(0, i64V 4), (4, .pt (some 3) (valV a) 0), (5, .pt (some 3) (valV b) 0), (6, .loc c 0), (8, bV false)]) [.obj c valZ] (.cons (.refl _) (.cons (.refl _) (.cons (.refl _) (.cons (.refl _) (.cons (.refl _) (.nil _)))))) (List.Sublist.refl _) ?_
    (repeat ((conv=>arg 2;whnf);first|refine wp_it rfl ?_|refine wp_if rfl ?_))
    (conv=>arg 2;whnf)
    refine wp_cutR (frL [(0, i64V 4), (4, .pt (some 3) (valV a) 0), (5, .pt (some 3) (valV b) 0), (6, .loc c 0), (8, bV false)]) [.obj c valZ] (.cons (.refl _) (.cons (.refl _) (.cons (.refl _) (.cons (.refl _) (.cons (.refl _) (.nil _)))))) (List.Sublist.refl _) ?_
    (repeat ((conv=>arg 2;whnf);first|refine wp_it rfl ?_|refine wp_if rfl ?_))
    (conv=>arg 2;whnf)
    refine wp_cutR (frL [(0, i64V 4), (4, .pt (some 3) (valV a) 0), (5, .pt (some 3) (valV b) 0), (6, .loc c 0), (8, bV false)]) [.obj c valZ] (.cons (.refl _) (.cons (.refl _) (.cons (.refl _) (.cons (.refl _) (.cons (.refl _) (.nil _)))))) (List.Sublist.refl _) ?_
    (repeat ((conv=>arg 2;whnf);first|refine wp_it rfl ?_|refine wp_if rfl ?_))
    (conv=>arg 2;whnf)
    refine wp_cutR (frL [(0, i64V 4), (4, .pt (some 3) (valV a) 0), (5, .pt (some 3) (valV b) 0), (6, .loc c 0), (8, bV false)]) [.obj c valZ] (.cons (.refl _) (.cons (.refl _) (.cons (.refl _) (.cons (.refl _) (.cons (.refl _) (.nil _)))))) (List.Sublist.refl _) ?_
    (repeat ((conv=>arg 2;whnf);first|refine wp_it rfl ?_|refine wp_if rfl ?_))
    (conv=>arg 2;whnf)
    refine wp_cutR (frL [(0, i64V 4), (4, .pt (some 3) (valV a) 0), (5, .pt (some 3) (valV b) 0), (6, .loc c 0), (8, bV false)]) [.obj c valZ] (.cons (.refl _) (.cons (.refl _) (.cons (.refl _) (.cons (.refl _) (.cons (.refl _) (.nil _)))))) (List.Sublist.refl _) ?_
    (conv=>arg 2;whnf);refine wp_storeE (cs := valZ) 0 0 (valL val0) rfl rfl (VleL.refl _) (Nat.le_refl _) rfl (R' := [.obj c (valL val0)]) rfl ?_
    (conv=>arg 2;whnf);refine w_ret2ck (R' := []) (a := valV val0) (u := .c (errV (some 14))) c 0 0 rfl rfl rfl rfl rfl (Vle.refl _) (Vle.refl _) (List.nil_sublist _) (by rw [hp]; rfl)
set_option maxRecDepth 100000 in
theorem pair5_call (a b : Val) (ha : InR a.n) (hb : InR b.n) : PCall Tryz.prog 145 [i64V 5, valV a, valV b] (resV (pairE 5 a b)) := by
  refine scall_of (live := []) (ords := [(2, []), (4, []), (6, []), (8, []), (10, []), (12, [])]) Tryz.func145 rfl (by kernel_rfl) (by kernel_rfl) (Nat.le_of_ble_eq_true rfl) ?_
  (conv=>arg 2;whnf);refine wp_allocE valZ rfl fun c => ?_
  (conv=>arg 2;whnf)
  by_cases hs : a.kind = b.kind
  · have hk : (a.kind == b.kind) = true := beq_iff_eq.2 hs
    refine wp_cutR (frL [(0, i64V 5), (4, .pt (some 3) (valV a) 0), (5, .pt (some 3) (valV b) 0), (6, .loc c 0), (8, bV true)]) [.obj c valZ] (.cons (.refl _) (.cons (.refl _) (.cons (.refl _) (.cons (.refl _) (.cons (Vle.eq (cBool hk)) (.nil _)))))) (List.Sublist.refl _) ?_
    have f1 := counts_call 5 a.n b.n (by decide) (by decide) ha hb
    (repeat ((conv=>arg 2;whnf);first|refine wp_it rfl ?_|refine wp_if rfl ?_))
    (conv=>arg 2;whnf);refine wp_ite (fun h1 => ?_) (fun h1 => ?_)
    · have h1 : a.kind = 1 := by simpa using h1
      have hp : pairE 5 a b = arithE 5 a.n b.n := by rw [pairE, if_pos hs, if_pos ⟨by decide, h1⟩]
      (repeat ((conv=>arg 2;whnf);first|refine wp_it rfl ?_|refine wp_if rfl ?_))
      cases hr : arithE 5 a.n b.n with
      | ok v =>
        rw [hr] at f1
        (conv=>arg 2;whnf);refine wp_pcall f1 ?_
        (conv=>arg 2;whnf);refine wp_storeE (cs := valZ) 0 0 (valL v) rfl rfl (VleL.refl _) (Nat.le_refl _) rfl (R' := [.obj c (valL v)]) rfl ?_
        (conv=>arg 2;whnf);refine w_ret2ck (R' := []) (a := valV v) (u := .c (errV none)) c 0 0 rfl rfl rfl rfl rfl (Vle.refl _) (Vle.refl _) (List.nil_sublist _) (by rw [hp, hr]; rfl)
      | error e =>
        rw [hr] at f1
        (conv=>arg 2;whnf);refine wp_pcall f1 ?_
        (conv=>arg 2;whnf);refine wp_storeE (cs := valZ) 0 0 (valL val0) rfl rfl (VleL.refl _) (Nat.le_refl _) rfl (R' := [.obj c (valL val0)]) rfl ?_
        (conv=>arg 2;whnf);refine w_ret2ck (R' := []) (a := valV val0) (u := .c (errV (some e))) c 0 0 rfl rfl rfl rfl rfl (Vle.refl _) (Vle.refl _) (List.nil_sublist _) (by rw [hp, hr]; rfl)
    · have h1 : a.kind ≠ 1 := by simpa using h1
      have hp : pairE 5 a b = .error 14 := by rw [pairE, if_pos hs, if_neg (fun h => h1 h.2)]; rfl
      (repeat ((conv=>arg 2;whnf);first|refine wp_it rfl ?_|refine wp_if rfl ?_))
      (conv=>arg 2;whnf)
      refine wp_cutR (frL [(0, i64V 5), (4, .pt (some 3) (valV a) 0), (5, .pt (some 3) (valV b) 0), (6, .loc c 0), (8, bV true)]) [.obj c valZ] (.cons (.refl _) (.cons (.refl _) (.cons (.refl _) (.cons (.refl _) (.cons (.refl _) (.nil _)))))) (List.Sublist.refl _) ?_
      (repeat ((conv=>arg 2;whnf);first|refine wp_it rfl ?_|refine wp_if rfl ?_))
      (conv=>arg 2;whnf)
      refine wp_cutR (frL [(0, i64V 5), (4, .pt (some 3) (valV a) 0), (5, .pt (some 3) (valV b) 0), (6, .loc c 0), (8, bV true)]) [.obj c valZ] (.cons (.refl _) (.cons (.refl _) (.cons (.refl _) (.cons (.refl _) (.cons (.refl _) (.nil _)))))) (List.Sublist.refl _) ?_
      (repeat ((conv=>arg 2;whnf);first|refine wp_it rfl ?_|refine wp_if rfl ?_))
      (conv=>arg 2;whnf)
      refine wp_cutR (frL [(0, i64V 5), (4, .pt (some 3) (valV a) 0), (5, .pt (some 3) (valV b) 0), (6, .loc c 0), (8, bV true)]) [.obj c valZ] (.cons (.refl _) (.cons (.refl _) (.cons (.refl _) (.cons (.refl _) (.cons (.refl _) (.nil _)))))) (List.Sublist.refl _) ?_
      (repeat ((conv=>arg 2;whnf);first|refine wp_it rfl ?_|refine wp_if rfl ?_))
      (conv=>arg 2;whnf)
      refine wp_cutR (frL [(0, i64V 5), (4, .pt (some 3) (valV a) 0), (5, .pt (some 3) (valV b) 0), (6, .loc c 0), (8, bV true)]) [.obj c valZ] (.cons (.refl _) (.cons (.refl _) (.cons (.refl _) (.cons (.refl _) (.cons (.refl _) (.nil _)))))) (List.Sublist.refl _) ?_
      (repeat ((conv=>arg 2;whnf);first|refine wp_it rfl ?_|refine wp_if rfl ?_))
      (conv=>arg 2;whnf)
      refine wp_cutR (frL [(0, i64V 5), (4, .pt (some 3) (valV a) 0), (5, .pt (some 3) (valV b) 0), (6, .loc c 0), (8, bV true)]) [.obj c valZ] (.cons (.refl _) (.cons (.refl _) (.cons (.refl _) (.cons (.refl _) (.cons (.refl _) (.nil _)))))) (List.Sublist.refl _) ?_
      (conv=>arg 2;whnf);refine wp_storeE (cs := valZ) 0 0 (valL val0) rfl rfl (VleL.refl _) (Nat.le_refl _) rfl (R' := [.obj c (valL val0)]) rfl ?_
      (conv=>arg 2;whnf);refine w_ret2ck (R' := []) (a := valV val0) (u := .c (errV (some 14))) c 0 0 rfl rfl rfl rfl rfl (Vle.refl _) (Vle.refl _) (List.nil_sublist _) (by rw [hp]; rfl)
  · have hk : (a.kind == b.kind) = false := beq_eq_false_iff_ne.2 hs
    have hp : pairE 5 a b = .error 14 := by rw [pairE, if_neg hs]
    refine wp_cutR (frL [(0, i64V 5), (4, .pt (some 3) (valV a) 0), (5, .pt (some 3) (valV b) 0), (6, .loc c 0), (8, bV false)]) [.obj c valZ] (.cons (.refl _) (.cons (.refl _) (.cons (.refl _) (.cons (.refl _) (.cons (Vle.eq (cBool hk)) (.nil _)))))) (List.Sublist.refl _) ?_
    (repeat ((conv=>arg 2;whnf);first|refine wp_it rfl ?_|refine wp_if rfl ?_))
    (conv=>arg 2;whnf)
    refine wp_cutR (frL [(0, i64V 5), (4, .pt (some 3) (valV a) 0), (5, .pt (some 3) (valV b) 0), (6, .loc c 0), (8, bV false)]) [.obj c valZ] (.cons (.refl _) (.cons (.refl _) (.cons (.refl _) (.cons (.refl _) (.cons (.refl _) (.nil _)))))) (List.Sublist.refl _) ?_
    (repeat ((conv=>arg 2;whnf);first|refine wp_it rfl ?_|refine wp_if rfl ?_))
    (conv=>arg 2;whnf)
    refine wp_cutR (frL [(0, i64V 5), (4, .pt (some 3) (valV a) 0), (5, .pt (some 3) (valV b) 0), (6, .loc c 0), (8, bV false)]) [.obj c valZ] (.cons (.refl _) (.cons (.refl _) (.cons (.refl _) (.cons (.refl _) (.cons (.refl _) (.nil _)))))) (List.Sublist.refl _) ?_
    (repeat ((conv=>arg 2;whnf);first|refine wp_it rfl ?_|refine wp_if rfl ?_))
    (conv=>arg 2;whnf)
    refine wp_cutR (frL [(0, i64V 5), (4, .pt (some 3) (valV a) 0), (5, .pt (some 3) (valV b) 0), (6, .loc c 0), (8, bV false)]) [.obj c valZ] (.cons (.refl _) (.cons (.refl _) (.cons (.refl _) (.cons (.refl _) (.cons (.refl _) (.nil _)))))) (List.Sublist.refl _) ?_
    (repeat ((conv=>arg 2;whnf);first|refine wp_it rfl ?_|refine wp_if rfl ?_))
    (conv=>arg 2;whnf)
    refine wp_cutR (frL [(0, i64V 5), (4, .pt (some 3) (valV a) 0), (5, .pt (some 3) (valV b) 0), (6, .loc c 0), (8, bV false)]) [.obj c valZ] (.cons (.refl _) (.cons (.refl _) (.cons (.refl _) (.cons (.refl _) (.cons (.refl _) (.nil _)))))) (List.Sublist.refl _) ?_
    (repeat ((conv=>arg 2;whnf);first|refine wp_it rfl ?_|refine wp_if rfl ?_))
    (conv=>arg 2;whnf)
    refine wp_cutR (frL [(0, i64V 5), (4, .pt (some 3) (valV a) 0), (5, .pt (some 3) (valV b) 0), (6, .loc c 0), (8, bV false)]) [.obj c valZ] (.cons (.refl _) (.cons (.refl _) (.cons (.refl _) (.cons (.refl _) (.cons (.refl _) (.nil _)))))) (List.Sublist.refl _) ?_
    (conv=>arg 2;whnf);refine wp_storeE (cs := valZ) 0 0 (valL val0) rfl rfl (VleL.refl _) (Nat.le_refl _) rfl (R' := [.obj c (valL val0)]) rfl ?_
    (conv=>arg 2;whnf);refine w_ret2ck (R' := []) (a := valV val0) (u := .c (errV (some 14))) c 0 0 rfl rfl rfl rfl rfl (Vle.refl _) (Vle.refl _) (List.nil_sublist _) (by rw [hp]; rfl)
set_option maxRecDepth 100000 in
theorem pair6_call (a b : Val)  : PCall Tryz.prog 145 [i64V 6, valV a, valV b] (resV (pairE 6 a b)) := by
  have hv := val_eq a b
  refine scall_of (live := []) (ords := [(2, []), (4, []), (6, []), (8, []), (10, []), (12, [])]) Tryz.func145 rfl (by kernel_rfl) (by kernel_rfl) (Nat.le_of_ble_eq_true rfl) ?_
  (conv=>arg 2;whnf);refine wp_allocE valZ rfl fun c => ?_
  (conv=>arg 2;whnf)
  by_cases hs : a.kind = b.kind
  · have hk : (a.kind == b.kind) = true := beq_iff_eq.2 hs
    refine wp_cutR (frL [(0, i64V 6), (4, .pt (some 3) (valV a) 0), (5, .pt (some 3) (valV b) 0), (6, .loc c 0), (8, bV true)]) [.obj c valZ] (.cons (.refl _) (.cons (.refl _) (.cons (.refl _) (.cons (.refl _) (.cons (Vle.eq (cBool hk)) (.nil _)))))) (List.Sublist.refl _) ?_
    (repeat ((conv=>arg 2;whnf);first|refine wp_it rfl ?_|refine wp_if rfl ?_))
    (conv=>arg 2;whnf)
    refine wp_cutR (frL [(0, i64V 6), (4, .pt (some 3) (valV a) 0), (5, .pt (some 3) (valV b) 0), (6, .loc c 0), (8, bV true)]) [.obj c valZ] (.cons (.refl _) (.cons (.refl _) (.cons (.refl _) (.cons (.refl _) (.cons (.refl _) (.nil _)))))) (List.Sublist.refl _) ?_
    have f1 := truth_call (decide (a = b))
    have hp : pairE 6 a b = .ok (boolV (decide (a = b))) := by rw [pairE, if_pos hs]; rfl
    (repeat ((conv=>arg 2;whnf);first|refine wp_it rfl ?_|refine wp_if rfl ?_))
    (conv=>arg 2;whnf);refine wp_need valEqB ?_
    (conv=>arg 2;whnf);refine wp_pcallV (.cons (Vle.eq (cBool hv)) .nil) f1 ?_
    (conv=>arg 2;whnf);refine wp_storeE (cs := valZ) 0 0 (valL (boolV (decide (a = b)))) rfl rfl (VleL.refl _) (Nat.le_refl _) rfl (R' := [.obj c (valL (boolV (decide (a = b))))]) rfl ?_
    (conv=>arg 2;whnf);refine w_ret2ck (R' := []) (a := valV (boolV (decide (a = b)))) (u := .c (errV none)) c 0 0 rfl rfl rfl rfl rfl (Vle.refl _) (Vle.refl _) (List.nil_sublist _) (by rw [hp]; rfl)
  · have hk : (a.kind == b.kind) = false := beq_eq_false_iff_ne.2 hs
    have hp : pairE 6 a b = .error 14 := by rw [pairE, if_neg hs]
    refine wp_cutR (frL [(0, i64V 6), (4, .pt (some 3) (valV a) 0), (5, .pt (some 3) (valV b) 0), (6, .loc c 0), (8, bV false)]) [.obj c valZ] (.cons (.refl _) (.cons (.refl _) (.cons (.refl _) (.cons (.refl _) (.cons (Vle.eq (cBool hk)) (.nil _)))))) (List.Sublist.refl _) ?_
    (repeat ((conv=>arg 2;whnf);first|refine wp_it rfl ?_|refine wp_if rfl ?_))
    (conv=>arg 2;whnf)
    refine wp_cutR (frL [(0, i64V 6), (4, .pt (some 3) (valV a) 0), (5, .pt (some 3) (valV b) 0), (6, .loc c 0), (8, bV false)]) [.obj c valZ] (.cons (.refl _) (.cons (.refl _) (.cons (.refl _) (.cons (.refl _) (.cons (.refl _) (.nil _)))))) (List.Sublist.refl _) ?_
    (repeat ((conv=>arg 2;whnf);first|refine wp_it rfl ?_|refine wp_if rfl ?_))
    (conv=>arg 2;whnf)
    refine wp_cutR (frL [(0, i64V 6), (4, .pt (some 3) (valV a) 0), (5, .pt (some 3) (valV b) 0), (6, .loc c 0), (8, bV false)]) [.obj c valZ] (.cons (.refl _) (.cons (.refl _) (.cons (.refl _) (.cons (.refl _) (.cons (.refl _) (.nil _)))))) (List.Sublist.refl _) ?_
    (repeat ((conv=>arg 2;whnf);first|refine wp_it rfl ?_|refine wp_if rfl ?_))
    (conv=>arg 2;whnf)
    refine wp_cutR (frL [(0, i64V 6), (4, .pt (some 3) (valV a) 0), (5, .pt (some 3) (valV b) 0), (6, .loc c 0), (8, bV false)]) [.obj c valZ] (.cons (.refl _) (.cons (.refl _) (.cons (.refl _) (.cons (.refl _) (.cons (.refl _) (.nil _)))))) (List.Sublist.refl _) ?_
    (repeat ((conv=>arg 2;whnf);first|refine wp_it rfl ?_|refine wp_if rfl ?_))
    (conv=>arg 2;whnf)
    refine wp_cutR (frL [(0, i64V 6), (4, .pt (some 3) (valV a) 0), (5, .pt (some 3) (valV b) 0), (6, .loc c 0), (8, bV false)]) [.obj c valZ] (.cons (.refl _) (.cons (.refl _) (.cons (.refl _) (.cons (.refl _) (.cons (.refl _) (.nil _)))))) (List.Sublist.refl _) ?_
    (repeat ((conv=>arg 2;whnf);first|refine wp_it rfl ?_|refine wp_if rfl ?_))
    (conv=>arg 2;whnf)
    refine wp_cutR (frL [(0, i64V 6), (4, .pt (some 3) (valV a) 0), (5, .pt (some 3) (valV b) 0), (6, .loc c 0), (8, bV false)]) [.obj c valZ] (.cons (.refl _) (.cons (.refl _) (.cons (.refl _) (.cons (.refl _) (.cons (.refl _) (.nil _)))))) (List.Sublist.refl _) ?_
    (conv=>arg 2;whnf);refine wp_storeE (cs := valZ) 0 0 (valL val0) rfl rfl (VleL.refl _) (Nat.le_refl _) rfl (R' := [.obj c (valL val0)]) rfl ?_
    (conv=>arg 2;whnf);refine w_ret2ck (R' := []) (a := valV val0) (u := .c (errV (some 14))) c 0 0 rfl rfl rfl rfl rfl (Vle.refl _) (Vle.refl _) (List.nil_sublist _) (by rw [hp]; rfl)
set_option maxRecDepth 100000 in
theorem pair7_call (a b : Val)  : PCall Tryz.prog 145 [i64V 7, valV a, valV b] (resV (pairE 7 a b)) := by
  have hv := val_eq a b
  refine scall_of (live := []) (ords := [(2, []), (4, []), (6, []), (8, []), (10, []), (12, [])]) Tryz.func145 rfl (by kernel_rfl) (by kernel_rfl) (Nat.le_of_ble_eq_true rfl) ?_
  (conv=>arg 2;whnf);refine wp_allocE valZ rfl fun c => ?_
  (conv=>arg 2;whnf)
  by_cases hs : a.kind = b.kind
  · have hk : (a.kind == b.kind) = true := beq_iff_eq.2 hs
    refine wp_cutR (frL [(0, i64V 7), (4, .pt (some 3) (valV a) 0), (5, .pt (some 3) (valV b) 0), (6, .loc c 0), (8, bV true)]) [.obj c valZ] (.cons (.refl _) (.cons (.refl _) (.cons (.refl _) (.cons (.refl _) (.cons (Vle.eq (cBool hk)) (.nil _)))))) (List.Sublist.refl _) ?_
    (repeat ((conv=>arg 2;whnf);first|refine wp_it rfl ?_|refine wp_if rfl ?_))
    (conv=>arg 2;whnf)
    refine wp_cutR (frL [(0, i64V 7), (4, .pt (some 3) (valV a) 0), (5, .pt (some 3) (valV b) 0), (6, .loc c 0), (8, bV true)]) [.obj c valZ] (.cons (.refl _) (.cons (.refl _) (.cons (.refl _) (.cons (.refl _) (.cons (.refl _) (.nil _)))))) (List.Sublist.refl _) ?_
    (repeat ((conv=>arg 2;whnf);first|refine wp_it rfl ?_|refine wp_if rfl ?_))
    (conv=>arg 2;whnf)
    refine wp_cutR (frL [(0, i64V 7), (4, .pt (some 3) (valV a) 0), (5, .pt (some 3) (valV b) 0), (6, .loc c 0), (8, bV true)]) [.obj c valZ] (.cons (.refl _) (.cons (.refl _) (.cons (.refl _) (.cons (.refl _) (.cons (.refl _) (.nil _)))))) (List.Sublist.refl _) ?_
    have f1 := truth_call (!decide (a = b))
    have hp : pairE 7 a b = .ok (boolV (!decide (a = b))) := by rw [pairE, if_pos hs]; rfl
    (repeat ((conv=>arg 2;whnf);first|refine wp_it rfl ?_|refine wp_if rfl ?_))
    (conv=>arg 2;whnf);refine wp_need valEqB ?_
    (conv=>arg 2;whnf);refine wp_pcallV (.cons (Vle.eq (cBool (congrArg (!·) hv))) .nil) f1 ?_
    (conv=>arg 2;whnf);refine wp_storeE (cs := valZ) 0 0 (valL (boolV (!decide (a = b)))) rfl rfl (VleL.refl _) (Nat.le_refl _) rfl (R' := [.obj c (valL (boolV (!decide (a = b))))]) rfl ?_
    (conv=>arg 2;whnf);refine w_ret2ck (R' := []) (a := valV (boolV (!decide (a = b)))) (u := .c (errV none)) c 0 0 rfl rfl rfl rfl rfl (Vle.refl _) (Vle.refl _) (List.nil_sublist _) (by rw [hp]; rfl)
  · have hk : (a.kind == b.kind) = false := beq_eq_false_iff_ne.2 hs
    have hp : pairE 7 a b = .error 14 := by rw [pairE, if_neg hs]
    refine wp_cutR (frL [(0, i64V 7), (4, .pt (some 3) (valV a) 0), (5, .pt (some 3) (valV b) 0), (6, .loc c 0), (8, bV false)]) [.obj c valZ] (.cons (.refl _) (.cons (.refl _) (.cons (.refl _) (.cons (.refl _) (.cons (Vle.eq (cBool hk)) (.nil _)))))) (List.Sublist.refl _) ?_
    (repeat ((conv=>arg 2;whnf);first|refine wp_it rfl ?_|refine wp_if rfl ?_))
    (conv=>arg 2;whnf)
    refine wp_cutR (frL [(0, i64V 7), (4, .pt (some 3) (valV a) 0), (5, .pt (some 3) (valV b) 0), (6, .loc c 0), (8, bV false)]) [.obj c valZ] (.cons (.refl _) (.cons (.refl _) (.cons (.refl _) (.cons (.refl _) (.cons (.refl _) (.nil _)))))) (List.Sublist.refl _) ?_
    (repeat ((conv=>arg 2;whnf);first|refine wp_it rfl ?_|refine wp_if rfl ?_))
    (conv=>arg 2;whnf)
    refine wp_cutR (frL [(0, i64V 7), (4, .pt (some 3) (valV a) 0), (5, .pt (some 3) (valV b) 0), (6, .loc c 0), (8, bV false)]) [.obj c valZ] (.cons (.refl _) (.cons (.refl _) (.cons (.refl _) (.cons (.refl _) (.cons (.refl _) (.nil _)))))) (List.Sublist.refl _) ?_
    (repeat ((conv=>arg 2;whnf);first|refine wp_it rfl ?_|refine wp_if rfl ?_))
    (conv=>arg 2;whnf)
    refine wp_cutR (frL [(0, i64V 7), (4, .pt (some 3) (valV a) 0), (5, .pt (some 3) (valV b) 0), (6, .loc c 0), (8, bV false)]) [.obj c valZ] (.cons (.refl _) (.cons (.refl _) (.cons (.refl _) (.cons (.refl _) (.cons (.refl _) (.nil _)))))) (List.Sublist.refl _) ?_
    (repeat ((conv=>arg 2;whnf);first|refine wp_it rfl ?_|refine wp_if rfl ?_))
    (conv=>arg 2;whnf)
    refine wp_cutR (frL [(0, i64V 7), (4, .pt (some 3) (valV a) 0), (5, .pt (some 3) (valV b) 0), (6, .loc c 0), (8, bV false)]) [.obj c valZ] (.cons (.refl _) (.cons (.refl _) (.cons (.refl _) (.cons (.refl _) (.cons (.refl _) (.nil _)))))) (List.Sublist.refl _) ?_
    (repeat ((conv=>arg 2;whnf);first|refine wp_it rfl ?_|refine wp_if rfl ?_))
    (conv=>arg 2;whnf)
    refine wp_cutR (frL [(0, i64V 7), (4, .pt (some 3) (valV a) 0), (5, .pt (some 3) (valV b) 0), (6, .loc c 0), (8, bV false)]) [.obj c valZ] (.cons (.refl _) (.cons (.refl _) (.cons (.refl _) (.cons (.refl _) (.cons (.refl _) (.nil _)))))) (List.Sublist.refl _) ?_
    (conv=>arg 2;whnf);refine wp_storeE (cs := valZ) 0 0 (valL val0) rfl rfl (VleL.refl _) (Nat.le_refl _) rfl (R' := [.obj c (valL val0)]) rfl ?_
    (conv=>arg 2;whnf);refine w_ret2ck (R' := []) (a := valV val0) (u := .c (errV (some 14))) c 0 0 rfl rfl rfl rfl rfl (Vle.refl _) (Vle.refl _) (List.nil_sublist _) (by rw [hp]; rfl)
set_option maxRecDepth 100000 in
theorem pair8_call (a b : Val)  : PCall Tryz.prog 145 [i64V 8, valV a, valV b] (resV (pairE 8 a b)) := by
  refine scall_of (live := []) (ords := [(2, []), (4, []), (6, []), (8, []), (10, []), (12, [])]) Tryz.func145 rfl (by kernel_rfl) (by kernel_rfl) (Nat.le_of_ble_eq_true rfl) ?_
  (conv=>arg 2;whnf);refine wp_allocE valZ rfl fun c => ?_
  (conv=>arg 2;whnf)
  by_cases hs : a.kind = b.kind
  · have hk : (a.kind == b.kind) = true := beq_iff_eq.2 hs
    refine wp_cutR (frL [(0, i64V 8), (4, .pt (some 3) (valV a) 0), (5, .pt (some 3) (valV b) 0), (6, .loc c 0), (8, bV true)]) [.obj c valZ] (.cons (.refl _) (.cons (.refl _) (.cons (.refl _) (.cons (.refl _) (.cons (Vle.eq (cBool hk)) (.nil _)))))) (List.Sublist.refl _) ?_
    (repeat ((conv=>arg 2;whnf);first|refine wp_it rfl ?_|refine wp_if rfl ?_))
    (conv=>arg 2;whnf)
    refine wp_cutR (frL [(0, i64V 8), (4, .pt (some 3) (valV a) 0), (5, .pt (some 3) (valV b) 0), (6, .loc c 0), (8, bV true)]) [.obj c valZ] (.cons (.refl _) (.cons (.refl _) (.cons (.refl _) (.cons (.refl _) (.cons (.refl _) (.nil _)))))) (List.Sublist.refl _) ?_
    (repeat ((conv=>arg 2;whnf);first|refine wp_it rfl ?_|refine wp_if rfl ?_))
    (conv=>arg 2;whnf)
    refine wp_cutR (frL [(0, i64V 8), (4, .pt (some 3) (valV a) 0), (5, .pt (some 3) (valV b) 0), (6, .loc c 0), (8, bV true)]) [.obj c valZ] (.cons (.refl _) (.cons (.refl _) (.cons (.refl _) (.cons (.refl _) (.cons (.refl _) (.nil _)))))) (List.Sublist.refl _) ?_
    (repeat ((conv=>arg 2;whnf);first|refine wp_it rfl ?_|refine wp_if rfl ?_))
    (conv=>arg 2;whnf)
    refine wp_cutR (frL [(0, i64V 8), (4, .pt (some 3) (valV a) 0), (5, .pt (some 3) (valV b) 0), (6, .loc c 0), (8, bV true)]) [.obj c valZ] (.cons (.refl _) (.cons (.refl _) (.cons (.refl _) (.cons (.refl _) (.cons (.refl _) (.nil _)))))) (List.Sublist.refl _) ?_
    have f1 := less_call a b
    have f2 := truth_call (lessV a b)
    (repeat ((conv=>arg 2;whnf);first|refine wp_it rfl ?_|refine wp_if rfl ?_))
    (conv=>arg 2;whnf);refine wp_ite (fun h1 => ?_) (fun h1 => ?_)
    · have h1 : a.kind ≠ 3 := by simpa using h1
      have hp : pairE 8 a b = .ok (boolV (lessV a b)) := by rw [pairE, if_pos hs, if_neg (fun h => absurd h.1 (by decide)), if_neg (by decide), if_neg (by decide), if_pos ⟨rfl, h1⟩]
      (conv=>arg 2;whnf);refine wp_pcall f1 ?_
      (conv=>arg 2;whnf);refine wp_pcall f2 ?_
      (conv=>arg 2;whnf);refine wp_storeE (cs := valZ) 0 0 (valL (boolV (lessV a b))) rfl rfl (VleL.refl _) (Nat.le_refl _) rfl (R' := [.obj c (valL (boolV (lessV a b)))]) rfl ?_
      (conv=>arg 2;whnf);refine w_ret2ck (R' := []) (a := valV (boolV (lessV a b))) (u := .c (errV none)) c 0 0 rfl rfl rfl rfl rfl (Vle.refl _) (Vle.refl _) (List.nil_sublist _) (by rw [hp]; rfl)
    · have h1 : a.kind = 3 := by simpa using h1
      have hp : pairE 8 a b = .error 14 := by rw [pairE, if_pos hs, if_neg (fun h => absurd h.1 (by decide)), if_neg (by decide), if_neg (by decide), if_neg (fun h => h.2 h1), if_neg (fun h => absurd h.1 (by decide))]
      (repeat ((conv=>arg 2;whnf);first|refine wp_it rfl ?_|refine wp_if rfl ?_))
      (conv=>arg 2;whnf)
      refine wp_cutR (frL [(0, i64V 8), (4, .pt (some 3) (valV a) 0), (5, .pt (some 3) (valV b) 0), (6, .loc c 0), (8, bV true)]) [.obj c valZ] (.cons (.refl _) (.cons (.refl _) (.cons (.refl _) (.cons (.refl _) (.cons (.refl _) (.nil _)))))) (List.Sublist.refl _) ?_
      (repeat ((conv=>arg 2;whnf);first|refine wp_it rfl ?_|refine wp_if rfl ?_))
      (conv=>arg 2;whnf)
      refine wp_cutR (frL [(0, i64V 8), (4, .pt (some 3) (valV a) 0), (5, .pt (some 3) (valV b) 0), (6, .loc c 0), (8, bV true)]) [.obj c valZ] (.cons (.refl _) (.cons (.refl _) (.cons (.refl _) (.cons (.refl _) (.cons (.refl _) (.nil _)))))) (List.Sublist.refl _) ?_
      (conv=>arg 2;whnf);refine wp_storeE (cs := valZ) 0 0 (valL val0) rfl rfl (VleL.refl _) (Nat.le_refl _) rfl (R' := [.obj c (valL val0)]) rfl ?_
      (conv=>arg 2;whnf);refine w_ret2ck (R' := []) (a := valV val0) (u := .c (errV (some 14))) c 0 0 rfl rfl rfl rfl rfl (Vle.refl _) (Vle.refl _) (List.nil_sublist _) (by rw [hp]; rfl)
  · have hk : (a.kind == b.kind) = false := beq_eq_false_iff_ne.2 hs
    have hp : pairE 8 a b = .error 14 := by rw [pairE, if_neg hs]
    refine wp_cutR (frL [(0, i64V 8), (4, .pt (some 3) (valV a) 0), (5, .pt (some 3) (valV b) 0), (6, .loc c 0), (8, bV false)]) [.obj c valZ] (.cons (.refl _) (.cons (.refl _) (.cons (.refl _) (.cons (.refl _) (.cons (Vle.eq (cBool hk)) (.nil _)))))) (List.Sublist.refl _) ?_
    (repeat ((conv=>arg 2;whnf);first|refine wp_it rfl ?_|refine wp_if rfl ?_))
    (conv=>arg 2;whnf)
    refine wp_cutR (frL [(0, i64V 8), (4, .pt (some 3) (valV a) 0), (5, .pt (some 3) (valV b) 0), (6, .loc c 0), (8, bV false)]) [.obj c valZ] (.cons (.refl _) (.cons (.refl _) (.cons (.refl _) (.cons (.refl _) (.cons (.refl _) (.nil _)))))) (List.Sublist.refl _) ?_
    (repeat ((conv=>arg 2;whnf);first|refine wp_it rfl ?_|refine wp_if rfl ?_))
    (conv=>arg 2;whnf)
    refine wp_cutR (frL [(0, i64V 8), (4, .pt (some 3) (valV a) 0), (5, .pt (some 3) (valV b) 0), (6, .loc c 0), (8, bV false)]) [.obj c valZ] (.cons (.refl _) (.cons (.refl _) (.cons (.refl _) (.cons (.refl _) (.cons (.refl _) (.nil _)))))) (List.Sublist.refl _) ?_
    (repeat ((conv=>arg 2;whnf);first|refine wp_it rfl ?_|refine wp_if rfl ?_))
    (conv=>arg 2;whnf)
    refine wp_cutR (frL [(0, i64V 8), (4, .pt (some 3) (valV a) 0), (5, .pt (some 3) (valV b) 0), (6, .loc c 0), (8, bV false)]) [.obj c valZ] (.cons (.refl _) (.cons (.refl _) (.cons (.refl _) (.cons (.refl _) (.cons (.refl _) (.nil _)))))) (List.Sublist.refl _) ?_
    (repeat ((conv=>arg 2;whnf);first|refine wp_it rfl ?_|refine wp_if rfl ?_))
    (conv=>arg 2;whnf)
    refine wp_cutR (frL [(0, i64V 8), (4, .pt (some 3) (valV a) 0), (5, .pt (some 3) (valV b) 0), (6, .loc c 0), (8, bV false)]) [.obj c valZ] (.cons (.refl _) (.cons (.refl _) (.cons (.refl _) (.cons (.refl _) (.cons (.refl _) (.nil _)))))) (List.Sublist.refl _) ?_
    (repeat ((conv=>arg 2;whnf);first|refine wp_it rfl ?_|refine wp_if rfl ?_))
    (conv=>arg 2;whnf)
    refine wp_cutR (frL [(0, i64V 8), (4, .pt (some 3) (valV a) 0), (5, .pt (some 3) (valV b) 0), (6, .loc c 0), (8, bV false)]) [.obj c valZ] (.cons (.refl _) (.cons (.refl _) (.cons (.refl _) (.cons (.refl _) (.cons (.refl _) (.nil _)))))) (List.Sublist.refl _) ?_
    (conv=>arg 2;whnf);refine wp_storeE (cs := valZ) 0 0 (valL val0) rfl rfl (VleL.refl _) (Nat.le_refl _) rfl (R' := [.obj c (valL val0)]) rfl ?_
    (conv=>arg 2;whnf);refine w_ret2ck (R' := []) (a := valV val0) (u := .c (errV (some 14))) c 0 0 rfl rfl rfl rfl rfl (Vle.refl _) (Vle.refl _) (List.nil_sublist _) (by rw [hp]; rfl)
set_option maxRecDepth 100000 in
theorem pair9_call (a b : Val)  : PCall Tryz.prog 145 [i64V 9, valV a, valV b] (resV (pairE 9 a b)) := by
  refine scall_of (live := []) (ords := [(2, []), (4, []), (6, []), (8, []), (10, []), (12, [])]) Tryz.func145 rfl (by kernel_rfl) (by kernel_rfl) (Nat.le_of_ble_eq_true rfl) ?_
  (conv=>arg 2;whnf);refine wp_allocE valZ rfl fun c => ?_
  (conv=>arg 2;whnf)
  by_cases hs : a.kind = b.kind
  · have hk : (a.kind == b.kind) = true := beq_iff_eq.2 hs
    refine wp_cutR (frL [(0, i64V 9), (4, .pt (some 3) (valV a) 0), (5, .pt (some 3) (valV b) 0), (6, .loc c 0), (8, bV true)]) [.obj c valZ] (.cons (.refl _) (.cons (.refl _) (.cons (.refl _) (.cons (.refl _) (.cons (Vle.eq (cBool hk)) (.nil _)))))) (List.Sublist.refl _) ?_
    (repeat ((conv=>arg 2;whnf);first|refine wp_it rfl ?_|refine wp_if rfl ?_))
    (conv=>arg 2;whnf)
    refine wp_cutR (frL [(0, i64V 9), (4, .pt (some 3) (valV a) 0), (5, .pt (some 3) (valV b) 0), (6, .loc c 0), (8, bV true)]) [.obj c valZ] (.cons (.refl _) (.cons (.refl _) (.cons (.refl _) (.cons (.refl _) (.cons (.refl _) (.nil _)))))) (List.Sublist.refl _) ?_
    (repeat ((conv=>arg 2;whnf);first|refine wp_it rfl ?_|refine wp_if rfl ?_))
    (conv=>arg 2;whnf)
    refine wp_cutR (frL [(0, i64V 9), (4, .pt (some 3) (valV a) 0), (5, .pt (some 3) (valV b) 0), (6, .loc c 0), (8, bV true)]) [.obj c valZ] (.cons (.refl _) (.cons (.refl _) (.cons (.refl _) (.cons (.refl _) (.cons (.refl _) (.nil _)))))) (List.Sublist.refl _) ?_
    (repeat ((conv=>arg 2;whnf);first|refine wp_it rfl ?_|refine wp_if rfl ?_))
    (conv=>arg 2;whnf)
    refine wp_cutR (frL [(0, i64V 9), (4, .pt (some 3) (valV a) 0), (5, .pt (some 3) (valV b) 0), (6, .loc c 0), (8, bV true)]) [.obj c valZ] (.cons (.refl _) (.cons (.refl _) (.cons (.refl _) (.cons (.refl _) (.cons (.refl _) (.nil _)))))) (List.Sublist.refl _) ?_
    (repeat ((conv=>arg 2;whnf);first|refine wp_it rfl ?_|refine wp_if rfl ?_))
    (conv=>arg 2;whnf)
    refine wp_cutR (frL [(0, i64V 9), (4, .pt (some 3) (valV a) 0), (5, .pt (some 3) (valV b) 0), (6, .loc c 0), (8, bV true)]) [.obj c valZ] (.cons (.refl _) (.cons (.refl _) (.cons (.refl _) (.cons (.refl _) (.cons (.refl _) (.nil _)))))) (List.Sublist.refl _) ?_
    have f1 := less_call b a
    have f2 := truth_call (!lessV b a)
    (repeat ((conv=>arg 2;whnf);first|refine wp_it rfl ?_|refine wp_if rfl ?_))
    (conv=>arg 2;whnf);refine wp_ite (fun h1 => ?_) (fun h1 => ?_)
    · have h1 : a.kind ≠ 3 := by simpa using h1
      have hp : pairE 9 a b = .ok (boolV (!lessV b a)) := by rw [pairE, if_pos hs, if_neg (fun h => absurd h.1 (by decide)), if_neg (by decide), if_neg (by decide), if_neg (fun h => absurd h.1 (by decide)), if_pos ⟨rfl, h1⟩]
      (conv=>arg 2;whnf);refine wp_pcall f1 ?_
      (conv=>arg 2;whnf);refine wp_pcall f2 ?_
      (conv=>arg 2;whnf);refine wp_storeE (cs := valZ) 0 0 (valL (boolV (!lessV b a))) rfl rfl (VleL.refl _) (Nat.le_refl _) rfl (R' := [.obj c (valL (boolV (!lessV b a)))]) rfl ?_
      (conv=>arg 2;whnf);refine w_ret2ck (R' := []) (a := valV (boolV (!lessV b a))) (u := .c (errV none)) c 0 0 rfl rfl rfl rfl rfl (Vle.refl _) (Vle.refl _) (List.nil_sublist _) (by rw [hp]; rfl)
    · have h1 : a.kind = 3 := by simpa using h1
      have hp : pairE 9 a b = .error 14 := by rw [pairE, if_pos hs, if_neg (fun h => absurd h.1 (by decide)), if_neg (by decide), if_neg (by decide), if_neg (fun h => absurd h.1 (by decide)), if_neg (fun h => h.2 h1)]
      (repeat ((conv=>arg 2;whnf);first|refine wp_it rfl ?_|refine wp_if rfl ?_))
      (conv=>arg 2;whnf)
      refine wp_cutR (frL [(0, i64V 9), (4, .pt (some 3) (valV a) 0), (5, .pt (some 3) (valV b) 0), (6, .loc c 0), (8, bV true)]) [.obj c valZ] (.cons (.refl _) (.cons (.refl _) (.cons (.refl _) (.cons (.refl _) (.cons (.refl _) (.nil _)))))) (List.Sublist.refl _) ?_
      (conv=>arg 2;whnf);refine wp_storeE (cs := valZ) 0 0 (valL val0) rfl rfl (VleL.refl _) (Nat.le_refl _) rfl (R' := [.obj c (valL val0)]) rfl ?_
      (conv=>arg 2;whnf);refine w_ret2ck (R' := []) (a := valV val0) (u := .c (errV (some 14))) c 0 0 rfl rfl rfl rfl rfl (Vle.refl _) (Vle.refl _) (List.nil_sublist _) (by rw [hp]; rfl)
  · have hk : (a.kind == b.kind) = false := beq_eq_false_iff_ne.2 hs
    have hp : pairE 9 a b = .error 14 := by rw [pairE, if_neg hs]
    refine wp_cutR (frL [(0, i64V 9), (4, .pt (some 3) (valV a) 0), (5, .pt (some 3) (valV b) 0), (6, .loc c 0), (8, bV false)]) [.obj c valZ] (.cons (.refl _) (.cons (.refl _) (.cons (.refl _) (.cons (.refl _) (.cons (Vle.eq (cBool hk)) (.nil _)))))) (List.Sublist.refl _) ?_
    (repeat ((conv=>arg 2;whnf);first|refine wp_it rfl ?_|refine wp_if rfl ?_))
    (conv=>arg 2;whnf)
    refine wp_cutR (frL [(0, i64V 9), (4, .pt (some 3) (valV a) 0), (5, .pt (some 3) (valV b) 0), (6, .loc c 0), (8, bV false)]) [.obj c valZ] (.cons (.refl _) (.cons (.refl _) (.cons (.refl _) (.cons (.refl _) (.cons (.refl _) (.nil _)))))) (List.Sublist.refl _) ?_
    (repeat ((conv=>arg 2;whnf);first|refine wp_it rfl ?_|refine wp_if rfl ?_))
    (conv=>arg 2;whnf)
    refine wp_cutR (frL [(0, i64V 9), (4, .pt (some 3) (valV a) 0), (5, .pt (some 3) (valV b) 0), (6, .loc c 0), (8, bV false)]) [.obj c valZ] (.cons (.refl _) (.cons (.refl _) (.cons (.refl _) (.cons (.refl _) (.cons (.refl _) (.nil _)))))) (List.Sublist.refl _) ?_
    (repeat ((conv=>arg 2;whnf);first|refine wp_it rfl ?_|refine wp_if rfl ?_))
    (conv=>arg 2;whnf)
    refine wp_cutR (frL [(0, i64V 9), (4, .pt (some 3) (valV a) 0), (5, .pt (some 3) (valV b) 0), (6, .loc c 0), (8, bV false)]) [.obj c valZ] (.cons (.refl _) (.cons (.refl _) (.cons (.refl _) (.cons (.refl _) (.cons (.refl _) (.nil _)))))) (List.Sublist.refl _) ?_
    (repeat ((conv=>arg 2;whnf);first|refine wp_it rfl ?_|refine wp_if rfl ?_))
    (conv=>arg 2;whnf)
    refine wp_cutR (frL [(0, i64V 9), (4, .pt (some 3) (valV a) 0), (5, .pt (some 3) (valV b) 0), (6, .loc c 0), (8, bV false)]) [.obj c valZ] (.cons (.refl _) (.cons (.refl _) (.cons (.refl _) (.cons (.refl _) (.cons (.refl _) (.nil _)))))) (List.Sublist.refl _) ?_
    (repeat ((conv=>arg 2;whnf);first|refine wp_it rfl ?_|refine wp_if rfl ?_))
    (conv=>arg 2;whnf)
    refine wp_cutR (frL [(0, i64V 9), (4, .pt (some 3) (valV a) 0), (5, .pt (some 3) (valV b) 0), (6, .loc c 0), (8, bV false)]) [.obj c valZ] (.cons (.refl _) (.cons (.refl _) (.cons (.refl _) (.cons (.refl _) (.cons (.refl _) (.nil _)))))) (List.Sublist.refl _) ?_
    (conv=>arg 2;whnf);refine wp_storeE (cs := valZ) 0 0 (valL val0) rfl rfl (VleL.refl _) (Nat.le_refl _) rfl (R' := [.obj c (valL val0)]) rfl ?_
    (conv=>arg 2;whnf);refine w_ret2ck (R' := []) (a := valV val0) (u := .c (errV (some 14))) c 0 0 rfl rfl rfl rfl rfl (Vle.refl _) (Vle.refl _) (List.nil_sublist _) (by rw [hp]; rfl)
theorem pair_call (op : Int) (h3 : 3 ≤ op) (h9 : op ≤ 9) (a b : Val) (ha : InR a.n) (hb : InR b.n) : PCall Tryz.prog 145 [i64V op, valV a, valV b] (resV (pairE op a b)) := by
  have : op = 3 ∨ op = 4 ∨ op = 5 ∨ op = 6 ∨ op = 7 ∨ op = 8 ∨ op = 9 := by omega
  rcases this with rfl | rfl | rfl | rfl | rfl | rfl | rfl
  · exact pair3_call a b ha hb
  · exact pair4_call a b ha hb
  · exact pair5_call a b ha hb
  · exact pair6_call a b
  · exact pair7_call a b
  · exact pair8_call a b
  · exact pair9_call a b
end Go.Sv
namespace Go.Sv
open Go Go.Proofs
def bn0 : Bn := ⟨[], ev0⟩
def bnZ : List V := [str [], str [], i64V 0, .sl none [] .zero]
def bwL (l : List Bn) : List (List V) := (List.range l.length).map fun i => [i64V ((l.length : Int) - 1 - (i : Nat)), bnV (l.reverse.getD i bn0)]
theorem bw_at {l : List Bn} {n : Nat} {b : Bn} (h : l.reverse[n]? = some b) : (bwL l)[n]? = some [i64V ((l.length : Int) - 1 - (n : Nat)), bnV b] := by
  have hn := (List.getElem?_eq_some_iff.1 h).1
  rw [List.length_reverse] at hn
  rw [bwL, List.getElem?_map, List.getElem?_range hn, Option.map_some, List.getD_eq_getElem?_getD, h]; rfl
theorem rev_at {l : List Bn} {n : Nat} (h : n < l.length) : ∃ b, l.reverse[n]? = some b ∧ l[l.length - 1 - n]? = some b := by
  refine ⟨l[l.length - 1 - n], ?_, List.getElem?_eq_getElem (by omega)⟩
  rw [List.getElem?_reverse h, List.getElem?_eq_getElem]
theorem bns_at {l : List Bn} {n : Nat} {b : Bn} (h : l[n]? = some b) : (l.map bnV)[n]? = some (.agg (bnC b)) := by rw [List.getElem?_map, h]; rfl
set_option maxRecDepth 100000 in
theorem backward_call (l : List Bn) : PCall Tryz.prog 153 [bnsV l] (.fn (.func 158) [] [.pt none (bnsV l) 0]) := by
  refine scall_of (live := []) (ords := []) Tryz.func153 rfl (by kernel_rfl) (by kernel_rfl) (Nat.le_of_ble_eq_true rfl) ?_
  (conv=>arg 2;whnf);refine w_retp rfl (Vle.eq ?_)
  rfl
set_option maxRecDepth 100000 in
theorem backward_iter (l : List Bn) (hl : l.length < 2 ^ 60) : Iter Tryz.prog 158 [] [.pt none (bnsV l) 0] (bwL l) := by
  refine ⟨⟨_, _, Tryz.func158, rfl, by kernel_rfl⟩, fun y I E R0 h0 hy => ?_⟩
  have hbl : (bwL l).length = l.length := by rw [bwL, List.length_map, List.length_range]
  have w0 : IntKind.i64.wrap (((l.map bnV).length : Int) - 1) = (l.length : Int) - 1 - (0 : Nat) := by rw [List.length_map, w_i64_small (by omega) (by omega)]; omega
  refine scall_of (live := []) (ords := []) Tryz.func158 rfl (by kernel_rfl) (by kernel_rfl) (Nat.le_of_ble_eq_true rfl) ?_
  (conv=>arg 2;whnf);refine wp_loop (fun m fr R => ∃ n : Nat, m = l.length - n ∧ n ≤ l.length ∧ I n R ∧ fr = frL [(0, .fn (.yield y) [] []), (1, .pt none (bnsV l) 0), (3, i64V ((l.length : Int) - 1 - (n : Nat)))])
    l.length _ _ (.cons (.refl _) (.cons (.refl _) (.cons (Vle.i64 _ rfl w0) (.nil _)))) (List.Sublist.refl _) ⟨0, rfl, Nat.zero_le _, h0, rfl⟩ ?_
  rintro m fr R ⟨n, rfl, hn, hI, rfl⟩
  (conv=>arg 2;whnf);refine wp_ite (fun h => ?_) (fun h => ?_)
  · have h : n < l.length := by have := of_decide_eq_true h; omega
    obtain ⟨b, hb1, hb2⟩ := rev_at h
    have hp := bw_at hb1
    have w1 : IntKind.i64.wrap (((l.length : Int) - 1 - (n : Nat)) - 1) = (l.length : Int) - 1 - ((n + 1 : Nat) : Int) := by rw [w_i64_small (by omega) (by omega)]; omega
    (conv=>arg 2;whnf);refine wp_elem (l.length - 1 - n) (bnV b) (by omega) (bns_at hb2) (Vle.refl _) ?_
    (conv=>arg 2;whnf);refine wp_yld (hy _ _ _ hp hI) ?_
    rintro b' R' (⟨rfl, hI2⟩ | ⟨rfl, hE⟩)
    · (repeat ((conv=>arg 2;whnf);first|refine wp_it rfl ?_|refine wp_if rfl ?_))
      (conv=>arg 2;whnf)
      refine wp_leaf (loop_next (l.length - (n + 1)) _ R' (by omega) (.cons (.refl _) (.cons (.refl _) (.cons (Vle.i64 _ rfl w1) (.nil _)))) (List.Sublist.refl _) ⟨n + 1, rfl, by omega, hI2, rfl⟩)
    · (repeat ((conv=>arg 2;whnf);first|refine wp_it rfl ?_|refine wp_if rfl ?_))
      (conv=>arg 2;whnf)
      refine wp_leaf (loop_ret ?_)
      (conv=>arg 2;whnf);refine w_ret0 (R' := R') rfl (List.Sublist.refl _) (.inr hE)
  · have h : n = l.length := by have := of_decide_eq_false h; omega
    subst h
    (conv=>arg 2;whnf)
    refine wp_leaf (loop_exit ?_)
    (conv=>arg 2;whnf);refine w_norm0 rfl (List.Sublist.refl _) (.inl (by rw [hbl]; exact hI))
theorem round_ret {B : List Res → Prop} {E : Exit → List Res → Prop} {fr : Fr} {R : List Res} (h : E .ret R) : roundEnd B E .ret fr R := h
theorem round_exit {B : List Res → Prop} {E : Exit → List Res → Prop} {fr : Fr} {R : List Res} {id : Nat} (h : E (.exit id) R) : roundEnd B E (.exit id) fr R := h
theorem last_hit {al : List UInt8} {l : List Bn} {n : Nat} {b : Bn} (h : ∀ x ∈ l.reverse.take n, x.al ≠ al) (hb : l.reverse[n]? = some b) (hq : b.al = al) : lastB al l = some b := by
  rw [lastB, show l.reverse = l.reverse.take n ++ b :: l.reverse.drop (n + 1) by rw [← drop_at hb, List.take_append_drop], List.find?_append, List.find?_eq_none.2 fun x hx => by simpa using h x hx]
  simp [hq]
theorem last_none {al : List UInt8} {l : List Bn} (h : ∀ x ∈ l.reverse, x.al ≠ al) : lastB al l = none := by
  rw [lastB, List.find?_eq_none]
  exact fun x hx => by simpa using h x hx
theorem len_two {l : List Bn} {i : Nat} {args : List V} (h : (bwL l)[i]? = some args) : args.length = 2 := by
  rw [bwL, List.getElem?_map, Option.map_eq_some_iff] at h
  obtain ⟨_, _, rfl⟩ := h
  rfl
theorem bw_get {l : List Bn} {i : Nat} {args : List V} (h : (bwL l)[i]? = some args) : ∃ b k, l.reverse[i]? = some b ∧ args = [i64V k, bnV b] := by
  have hi := (List.getElem?_eq_some_iff.1 h).1
  rw [bwL, List.length_map, List.length_range] at hi
  obtain ⟨b, hb, _⟩ := rev_at hi
  rw [bw_at hb] at h
  cases h
  exact ⟨b, _, hb, rfl⟩
theorem w_ret2ccE {P : Program} {R : List Res} {fn : Func} {fr : Fr} {x y : Tmp} {tx ty : TypeId} {cs ds : List V} {v0 u0 a b v : V} {sh sh' : Option Nat} (bl off i bl' off' j : Nat) (h : fn.results.toList = [.cell x tx, .cell y ty]) (hx : fr x = .loc bl off) (hy : fr y = .loc bl' off') (hsh : shapeOf P tx = some sh) (hsh' : shapeOf P ty = some sh')
    (hR : R[i]? = some (.obj bl cs)) (hR' : R[j]? = some (.obj bl' ds)) (hp : partOf sh cs off = some v0) (hp' : partOf sh' ds off' = some u0) (ha : Vle v0 a) (hb : Vle u0 b) (he : .tup [a, b] = v) : (Tree.leaf .ret fr).wp P R (Ends P fn fun u _ => u = v) := by
  subst he; exact w_ret2cc bl off i bl' off' j h hx hy hsh hsh' hR hR' hp hp' ha hb
set_option maxRecDepth 100000 in
theorem field_call (s : Sc) (hs : ScOk s) (x : Ex) (l : List Bn) (hl : l.length < 2 ^ 60) : PCall Tryz.prog 143 [scV s, .agg (exC x), bnsV l] (resV (fieldE s l x.al x.fd)) := by
  have hbl : (bwL l).length = l.length := by rw [bwL, List.length_map, List.length_range]
  refine scall_of (live := []) (ords := []) Tryz.func143 rfl (by kernel_rfl) (by kernel_rfl) (Nat.le_of_ble_eq_true rfl) ?_
  (conv=>arg 2;whnf);refine wp_allocE valZ rfl fun c => ?_
  (conv=>arg 2;whnf);refine wp_allocE [.c (errV none)] rfl fun d => ?_
  (conv=>arg 2;whnf);refine wp_pcall (backward_call l) ?_
  (conv=>arg 2;whnf);refine wp_range (backward_iter l hl) (fun i R1 => ∃ T, R1 = .obj c valZ :: .obj d [.c (errV none)] :: T ∧ ∀ y ∈ l.reverse.take i, y.al ≠ x.al) ⟨[], rfl, fun y hy => by simp at hy⟩ (fun i args h => len_two h) (fun i args R1 hi hJ => ?_) (fun R1 hJ => ?_)
  · obtain ⟨T, rfl, hT⟩ := hJ
    obtain ⟨b, k, hb, rfl⟩ := bw_get hi
    have hstr := strEq b.al x.al
    (conv=>arg 2;whnf);refine wp_allocE bnZ rfl fun q => ?_
    (conv=>arg 2;whnf);refine wp_storeE (cs := bnZ) (T.length + 2) 0 (bnC b) (by simp) rfl (VleL.refl _) (Nat.le_refl _) rfl (R' := .obj c valZ :: .obj d [.c (errV none)] :: (T ++ [.obj q (bnC b)])) (by simp [splice, bnC, bnZ, evC]) ?_
    (conv=>arg 2;whnf);refine wp_load (cs := bnC b) (T.length + 2) (by simp) rfl ?_
    (conv=>arg 2;whnf);refine wp_ite (fun h1 => ?_) (fun h1 => ?_)
    · have h1 : b.al ≠ x.al := by rw [hstr] at h1; simpa using h1
      (conv=>arg 2;whnf)
      refine wp_leaf ⟨T ++ [.obj q (bnC b)], rfl, fun y hy => ?_⟩
      rw [List.take_add_one, hb] at hy
      rcases List.mem_append.1 hy with hy | hy
      · exact hT y hy
      · have : y = b := by simpa using hy
        rw [this]; exact h1
    · have h1 : b.al = x.al := by rw [hstr] at h1; simpa using h1
      have hlast := last_hit hT hb h1
      have f1 := getV_call s hs b.e x.fd
      (conv=>arg 2;whnf);refine wp_load (cs := bnC b) (T.length + 2) (by simp) rfl ?_
      cases hg : getV s b.e x.fd with
      | some v =>
        rw [hg] at f1
        have hr : fieldE s l x.al x.fd = .ok v := by rw [fieldE, hlast]; simp only; rw [hg]
        (conv=>arg 2;whnf);refine wp_pcall f1 ?_
        (conv=>arg 2;whnf);refine wp_allocE valZ rfl fun u => ?_
        (conv=>arg 2;whnf);refine wp_storeE (cs := valZ) (T.length + 3) 0 (valL v) (by simp) rfl (VleL.refl _) (Nat.le_refl _) rfl (R' := .obj c valZ :: .obj d [.c (errV none)] :: (T ++ [.obj q (bnC b), .obj u (valL v)])) (by simp [splice, valL, valZ]) ?_
        (repeat ((conv=>arg 2;whnf);first|refine wp_it rfl ?_|refine wp_if rfl ?_))
        (conv=>arg 2;whnf);refine wp_load (cs := valL v) (T.length + 3) (by simp) rfl ?_
        (conv=>arg 2;whnf);refine wp_storeE (cs := valZ) 0 0 (valL v) rfl rfl (VleL.refl _) (Nat.le_refl _) rfl (R' := .obj c (valL v) :: .obj d [.c (errV none)] :: (T ++ [.obj q (bnC b), .obj u (valL v)])) rfl ?_
        (conv=>arg 2;whnf);refine wp_storeE (cs := [.c (errV none)]) 1 0 [.c (errV none)] rfl rfl (VleL.refl _) (Nat.le_refl _) rfl (R' := .obj c (valL v) :: .obj d [.c (errV none)] :: (T ++ [.obj q (bnC b), .obj u (valL v)])) rfl ?_
        (conv=>arg 2;whnf)
        refine wp_leaf (round_ret ?_)
        (conv=>arg 2;whnf);refine w_ret2ccE (cs := valL v) (ds := [.c (errV none)]) c 0 0 d 0 1 rfl rfl rfl rfl rfl rfl rfl rfl rfl (Vle.refl _) (Vle.refl _) (by rw [hr]; rfl)
      | none =>
        rw [hg] at f1
        have hr : fieldE s l x.al x.fd = .error 13 := by rw [fieldE, hlast]; simp only; rw [hg]
        (conv=>arg 2;whnf);refine wp_pcall f1 ?_
        (conv=>arg 2;whnf);refine wp_allocE valZ rfl fun u => ?_
        (conv=>arg 2;whnf);refine wp_storeE (cs := valZ) (T.length + 3) 0 (valL val0) (by simp) rfl (VleL.refl _) (Nat.le_refl _) rfl (R' := .obj c valZ :: .obj d [.c (errV none)] :: (T ++ [.obj q (bnC b), .obj u (valL val0)])) (by simp [splice, valL, valZ]) ?_
        (repeat ((conv=>arg 2;whnf);first|refine wp_it rfl ?_|refine wp_if rfl ?_))
        (conv=>arg 2;whnf)
        refine wp_leaf (round_exit ?_)
        (conv=>arg 2;whnf);refine wp_storeE (cs := valZ) 0 0 (valL val0) rfl rfl (VleL.refl _) (Nat.le_refl _) rfl (R' := .obj c (valL val0) :: .obj d [.c (errV none)] :: (T ++ [.obj q (bnC b), .obj u (valL val0)])) rfl ?_
        (conv=>arg 2;whnf);refine wp_storeE (cs := [.c (errV none)]) 1 0 [.c (errV (some 13))] rfl rfl (VleL.refl _) (Nat.le_refl _) rfl (R' := .obj c (valL val0) :: .obj d [.c (errV (some 13))] :: (T ++ [.obj q (bnC b), .obj u (valL val0)])) rfl ?_
        (conv=>arg 2;whnf);refine w_ret2ccE (cs := valL val0) (ds := [.c (errV (some 13))]) c 0 0 d 0 1 rfl rfl rfl rfl rfl rfl rfl rfl rfl (Vle.refl _) (Vle.refl _) (by rw [hr]; rfl)
  · obtain ⟨T, rfl, hT⟩ := hJ
    rw [hbl, ← List.length_reverse, List.take_length] at hT
    have hr : fieldE s l x.al x.fd = .error 13 := by rw [fieldE, last_none hT]
    (conv=>arg 2;whnf);refine wp_storeE (cs := valZ) 0 0 (valL val0) rfl rfl (VleL.refl _) (Nat.le_refl _) rfl (R' := .obj c (valL val0) :: .obj d [.c (errV none)] :: (T)) rfl ?_
    (conv=>arg 2;whnf);refine wp_storeE (cs := [.c (errV none)]) 1 0 [.c (errV (some 13))] rfl rfl (VleL.refl _) (Nat.le_refl _) rfl (R' := .obj c (valL val0) :: .obj d [.c (errV (some 13))] :: (T)) rfl ?_
    (conv=>arg 2;whnf);refine w_ret2ccE (cs := valL val0) (ds := [.c (errV (some 13))]) c 0 0 d 0 1 rfl rfl rfl rfl rfl rfl rfl rfl rfl (Vle.refl _) (Vle.refl _) (by rw [hr]; rfl)
end Go.Sv
namespace Go.Sv
open Go Go.Proofs
def chE (op : Int) (ra rb : Except Nat Val) : Except Nat Val :=
  match ra with
  | .error e => .error e
  | .ok v => if v.kind ≠ 3 then .error 14 else if decide (v.n = 1) = decide (op = 11) then .ok v else match rb with
    | .error e => .error e
    | .ok u => if u.kind ≠ 3 then .error 14 else .ok u
def shapeV (sv : V) : Prop := ∃ tys, sv = .agg [tys]
theorem okE_val (l : List Val) : ∀ y ∈ l.map valV, okE (some 3) y := by
  intro y hy
  obtain ⟨v, _, rfl⟩ := List.mem_map.1 hy
  exact ⟨valL v, rfl, rfl, fun c hc => by
    simp only [valL, List.mem_cons, List.not_mem_nil, or_false] at hc
    rcases hc with rfl | rfl | rfl <;> rfl⟩
theorem kids_at {l : List Ex} {n : Nat} {x : Ex} (h : l[n]? = some x) : (l.map exV)[n]? = some (.agg (exC x)) := by rw [List.getElem?_map, h, ← exV_eq]; rfl
theorem stopB (v : Val) (op : Int) : ((v.n == 1) == (op == 11)) = decide (decide (v.n = 1) = decide (op = 11)) := by
  rw [Bool.eq_iff_iff, beq_iff_eq, decide_eq_true_eq]
  rw [show (v.n == 1) = decide (v.n = 1) by rw [Bool.eq_iff_iff, beq_iff_eq, decide_eq_true_eq], show (op == 11) = decide (op = 11) by rw [Bool.eq_iff_iff, beq_iff_eq, decide_eq_true_eq]]
set_option maxRecDepth 100000 in
set_option maxHeartbeats 1000000 in
theorem choice_call (sv : V) (o : Int) (xv : Val) (xa xf : List UInt8) (a b : Ex) (bv : V) (ra rb : Except Nat Val) (hsv : shapeV sv)
    (ca : PCall Tryz.prog 134 [sv, .agg (exC a), bv] (resV ra)) (cb : PCall Tryz.prog 134 [sv, .agg (exC b), bv] (resV rb)) :
    PCall Tryz.prog 144 [sv, .agg (exC (.mk o xv xa xf [a, b])), bv] (resV (chE o ra rb)) := by
  obtain ⟨tys, rfl⟩ := hsv
  obtain ⟨x, hx⟩ : ∃ x, x = Ex.mk o xv xa xf [a, b] := ⟨_, rfl⟩
  have hop : x.op = o := by rw [hx]; rfl
  have hk : x.kids = [a, b] := by rw [hx]; rfl
  rw [← hx]
  have hres : ∀ r, chE o ra rb = r → ∀ v, v = resV r → v = resV (chE o ra rb) := fun r h v hv => by rw [hv, h]
  refine scall_of (live := []) (ords := []) Tryz.func144 rfl (by kernel_rfl) (by kernel_rfl) (Nat.le_of_ble_eq_true rfl) ?_
  (conv=>arg 2;whnf);refine wp_allocE valZ rfl fun c => ?_
  (conv=>arg 2;whnf);refine wp_allocE valZ rfl fun d => ?_
  (conv=>arg 2;whnf);refine wp_loop (fun m fr R => ∃ (n : Nat) (w : Val), m = 2 - n ∧ n ≤ 2 ∧ R = [.obj c valZ, .obj d (valL w)] ∧ fr = frL [(2, bv), (3, .pt (some 1) (.agg [tys]) 0), (4, .pt (some 7) (.agg (exC x)) 0), (6, .loc c 0), (8, .loc d 0), (14, exsV x.kids), (15, i64V x.kids.length), (16, i64V n)] ∧
      (n = 0 ∨ (n = 1 ∧ ra = .ok w ∧ w.kind = 3 ∧ ¬ decide (w.n = 1) = decide (o = 11)) ∨ (n = 2 ∧ chE o ra rb = .ok w)))
    2 _ _ (.cons (.refl _) (.cons (.refl _) (.cons (.refl _) (.cons (.refl _) (.cons (.refl _) (.cons (.refl _) (.cons (Vle.i64 _ rfl (by rw [List.length_map])) (.cons (.refl _) (.nil _))))))))) (List.Sublist.refl _) ⟨0, val0, rfl, by omega, rfl, rfl, .inl rfl⟩ ?_
  rintro m fr R ⟨n, w, rfl, hn, rfl, rfl, hI⟩
  have hlen : x.kids.length = 2 := by rw [hk]; rfl
  (conv=>arg 2;whnf);refine wp_ite (fun h => ?_) (fun h => ?_)
  · have h : n < 2 := by have := of_decide_eq_true h; omega
    -- this kid, its result
    obtain ⟨y, r, hy, cy, hr⟩ : ∃ y r, x.kids[n]? = some y ∧ PCall Tryz.prog 134 [.agg [tys], .agg (exC y), bv] (resV r) ∧ ((n = 0 ∧ r = ra) ∨ (n = 1 ∧ r = rb)) := by
      rw [hk]
      rcases hI with rfl | ⟨rfl, _⟩ | ⟨rfl, _⟩
      · exact ⟨a, ra, rfl, ca, .inl ⟨rfl, rfl⟩⟩
      · exact ⟨b, rb, rfl, cb, .inr ⟨rfl, rfl⟩⟩
      · omega
    have herr : ∀ e, r = .error e → chE o ra rb = .error e := by
      intro e he
      rcases hr with ⟨rfl, rfl⟩ | ⟨rfl, rfl⟩
      · unfold chE; rw [he]
      · rcases hI with h0 | ⟨_, h1, h2, h3⟩ | ⟨h0, _⟩
        · omega
        · unfold chE; rw [h1]; simp only; rw [if_neg (fun h => h h2), if_neg h3, he]
        · omega
    have hkind : ∀ u, r = .ok u → u.kind ≠ 3 → chE o ra rb = .error 14 := by
      intro u he hu
      rcases hr with ⟨rfl, rfl⟩ | ⟨rfl, rfl⟩
      · unfold chE; rw [he]; simp only; rw [if_pos hu]
      · rcases hI with h0 | ⟨_, h1, h2, h3⟩ | ⟨h0, _⟩
        · omega
        · unfold chE; rw [h1]; simp only; rw [if_neg (fun h => h h2), if_neg h3, he]; simp only; rw [if_pos hu]
        · omega
    have hend : ∀ u, r = .ok u → u.kind = 3 → (n = 1 ∨ decide (u.n = 1) = decide (o = 11)) → chE o ra rb = .ok u := by
      intro u he hu hs
      rcases hr with ⟨rfl, rfl⟩ | ⟨rfl, rfl⟩
      · rcases hs with hs | hs
        · omega
        · unfold chE; rw [he]; simp only; rw [if_neg (fun h => h hu), if_pos hs]
      · rcases hI with h0 | ⟨_, h1, h2, h3⟩ | ⟨h0, _⟩
        · omega
        · unfold chE; rw [h1]; simp only; rw [if_neg (fun h => h h2), if_neg h3, he]; simp only; rw [if_neg (fun h => h hu)]
        · omega
    have hgo : ∀ u, r = .ok u → u.kind = 3 → ¬ decide (u.n = 1) = decide (o = 11) → (n + 1 = 0 ∨ (n + 1 = 1 ∧ ra = .ok u ∧ u.kind = 3 ∧ ¬ decide (u.n = 1) = decide (o = 11)) ∨ (n + 1 = 2 ∧ chE o ra rb = .ok u)) := by
      intro u he hu hs
      rcases hr with ⟨rfl, rfl⟩ | ⟨rfl, rfl⟩
      · exact .inr (.inl ⟨rfl, he, hu, hs⟩)
      · exact .inr (.inr ⟨rfl, hend u he hu (.inl rfl)⟩)
    (conv=>arg 2;whnf);refine wp_elem n (.agg (exC y)) rfl (kids_at hy) (Vle.refl _) ?_
    (conv=>arg 2;whnf);refine wp_allocE exZ rfl fun q => ?_
    (conv=>arg 2;whnf);refine wp_storeE (cs := exZ) 2 0 (exC y) rfl rfl (VleL.refl _) (Nat.le_refl _) rfl (R' := [.obj c valZ, .obj d (valL w), .obj q (exC y)]) rfl ?_
    (conv=>arg 2;whnf);refine wp_load (cs := exC y) 2 rfl rfl ?_
    cases r with
    | error e =>
      have hr2 := herr e rfl
      (conv=>arg 2;whnf);refine wp_pcall cy ?_
      (conv=>arg 2;whnf);refine wp_allocE valZ rfl fun u => ?_
      (conv=>arg 2;whnf);refine wp_storeE (cs := valZ) 3 0 (valL val0) rfl rfl (VleL.refl _) (Nat.le_refl _) rfl (R' := [.obj c valZ, .obj d (valL w), .obj q (exC y), .obj u (valL val0)]) rfl ?_
      (repeat ((conv=>arg 2;whnf);first|refine wp_it rfl ?_|refine wp_if rfl ?_))
      (conv=>arg 2;whnf);refine wp_storeE (cs := valZ) 0 0 (valL val0) rfl rfl (VleL.refl _) (Nat.le_refl _) rfl (R' := [.obj c (valL val0), .obj d (valL w), .obj q (exC y), .obj u (valL val0)]) rfl ?_
      (conv=>arg 2;whnf)
      refine wp_leaf (loop_ret ?_)
      (conv=>arg 2;whnf);refine w_ret2ck (R' := []) (a := valV val0) (u := .c (errV (some e))) c 0 0 rfl rfl rfl rfl rfl (Vle.refl _) (Vle.refl _) (List.nil_sublist _) (by rw [hr2]; rfl)
    | ok v =>
      (conv=>arg 2;whnf);refine wp_pcall cy ?_
      (conv=>arg 2;whnf);refine wp_allocE valZ rfl fun u => ?_
      (conv=>arg 2;whnf);refine wp_storeE (cs := valZ) 3 0 (valL v) rfl rfl (VleL.refl _) (Nat.le_refl _) rfl (R' := [.obj c valZ, .obj d (valL w), .obj q (exC y), .obj u (valL v)]) rfl ?_
      (repeat ((conv=>arg 2;whnf);first|refine wp_it rfl ?_|refine wp_if rfl ?_))
      (conv=>arg 2;whnf);refine wp_load (cs := valL v) 3 rfl rfl ?_
      (conv=>arg 2;whnf);refine wp_ite (fun h1 => ?_) (fun h1 => ?_)
      · have h1 : v.kind ≠ 3 := by simpa using h1
        have hr2 := hkind v rfl h1
        (conv=>arg 2;whnf);refine wp_storeE (cs := valZ) 0 0 (valL val0) rfl rfl (VleL.refl _) (Nat.le_refl _) rfl (R' := [.obj c (valL val0), .obj d (valL w), .obj q (exC y), .obj u (valL v)]) rfl ?_
        (conv=>arg 2;whnf)
        refine wp_leaf (loop_ret ?_)
        (conv=>arg 2;whnf);refine w_ret2ck (R' := []) (a := valV val0) (u := .c (errV (some 14))) c 0 0 rfl rfl rfl rfl rfl (Vle.refl _) (Vle.refl _) (List.nil_sublist _) (by rw [hr2]; rfl)
      · have h1 : v.kind = 3 := by simpa using h1
        (conv=>arg 2;whnf);refine wp_load (cs := valL v) 3 rfl rfl ?_
        (conv=>arg 2;whnf);refine wp_storeE (cs := valL w) 1 0 (valL v) rfl rfl (VleL.refl _) (Nat.le_refl _) rfl (R' := [.obj c valZ, .obj d (valL v), .obj q (exC y), .obj u (valL v)]) rfl ?_
        (conv=>arg 2;whnf);refine wp_load (cs := valL v) 3 rfl rfl ?_
        (conv=>arg 2;whnf);refine wp_ite (fun h2 => ?_) (fun h2 => ?_)
        · have h2 : decide (v.n = 1) = decide (o = 11) := by
            have h2' : ((v.n == 1) == (x.op == 11)) = true := h2
            rw [stopB, hop] at h2'
            exact of_decide_eq_true h2'
          have hr2 := hend v rfl h1 (.inr h2)
          (conv=>arg 2;whnf)
          refine wp_leaf (loop_exit ?_)
          (conv=>arg 2;whnf);refine wp_load (cs := valL v) 1 rfl rfl ?_
          (conv=>arg 2;whnf);refine wp_storeE (cs := valZ) 0 0 (valL v) rfl rfl (VleL.refl _) (Nat.le_refl _) rfl (R' := [.obj c (valL v), .obj d (valL v), .obj q (exC y), .obj u (valL v)]) rfl ?_
          (conv=>arg 2;whnf);refine w_ret2ck (R' := []) (a := valV v) (u := .c (errV none)) c 0 0 rfl rfl rfl rfl rfl (Vle.refl _) (Vle.refl _) (List.nil_sublist _) (by rw [hr2]; rfl)
        · have h2 : ¬ decide (v.n = 1) = decide (o = 11) := by
            have h2' : ((v.n == 1) == (x.op == 11)) = false := h2
            rw [stopB, hop] at h2'
            exact of_decide_eq_false h2'
          (conv=>arg 2;whnf)
          refine wp_leaf (loop_next (2 - (n + 1)) _ [.obj c valZ, .obj d (valL v)] (by omega) (.cons (.refl _) (.cons (.refl _) (.cons (.refl _) (.cons (.refl _) (.cons (.refl _) (.cons (.refl _) (.cons (.refl _) (.cons (Vle.inc n rfl (by omega)) (.nil _))))))))) (by simp) ⟨n + 1, v, rfl, by omega, rfl, rfl, hgo v rfl h1 h2⟩)
  · have h : n = 2 := by have := of_decide_eq_false h; omega
    have hr2 : chE o ra rb = .ok w := by
      rcases hI with h0 | ⟨h0, _⟩ | ⟨_, h1⟩
      · omega
      · omega
      · exact h1
    (conv=>arg 2;whnf)
    refine wp_leaf (loop_exit ?_)
    (conv=>arg 2;whnf);refine wp_load (cs := valL w) 1 rfl rfl ?_
    (conv=>arg 2;whnf);refine wp_storeE (cs := valZ) 0 0 (valL w) rfl rfl (VleL.refl _) (Nat.le_refl _) rfl (R' := [.obj c (valL w), .obj d (valL w)]) rfl ?_
    (conv=>arg 2;whnf);refine w_ret2ck (R' := []) (a := valV w) (u := .c (errV none)) c 0 0 rfl rfl rfl rfl rfl (Vle.refl _) (Vle.refl _) (List.nil_sublist _) (by rw [hr2]; rfl)
end Go.Sv
namespace Go.Sv
open Go Go.Proofs
theorem boolV_rg (b : Bool) : InR (boolV b).n := by
  unfold InR boolV
  cases b <;> decide
theorem arithE_rg {op x y : Int} {v : Val} (h : arithE op x y = .ok v) : InR v.n := by
  unfold arithE at h
  split at h
  · rename_i hi
    cases h
    rw [inI, Bool.and_eq_true] at hi
    exact ⟨of_decide_eq_true hi.1, of_decide_eq_true hi.2⟩
  · cases h
theorem pairE_rg {op : Int} {a b v : Val} (h : pairE op a b = .ok v) : InR v.n := by
  unfold pairE at h
  split at h
  · split at h
    · exact arithE_rg h
    · repeat' (split at h)
      all_goals first | (cases h; exact boolV_rg _) | cases h
  · cases h
theorem getV_mem {s : Sc} {e : Ev} {f : List UInt8} {v : Val} (h : getV s e f = some v) : v ∈ e.vals := by
  unfold getV at h
  split at h
  · cases h
  · split at h
    · cases h
    · exact List.mem_of_getElem? h
def BnRg (l : List Bn) : Prop := ∀ b ∈ l, ∀ v ∈ b.e.vals, InR v.n
theorem fieldE_rg {s : Sc} {l : List Bn} (hl : BnRg l) {al f : List UInt8} {v : Val} (h : fieldE s l al f = .ok v) : InR v.n := by
  unfold fieldE at h
  split at h
  · cases h
  · rename_i b hb
    split at h
    · cases h
    · rename_i w hw
      cases h
      have : b ∈ l := by simpa using List.mem_of_find?_eq_some hb
      exact hl b this v (getV_mem hw)
theorem evE_rg {s : Sc} {l : List Bn} (hl : BnRg l) : ∀ (k : Nat) (x : Ex) (v : Val), exRg x → evE s l k x = .ok v → InR v.n
  | 0, _, _, _, h => by cases h
  | k + 1, x, v, hr, h => by
    have hr2 := (exRg_eq x).1 hr
    rw [evE] at h
    split at h
    · cases h; exact hr2.1
    split at h
    · exact fieldE_rg hl h
    split at h
    · split at h
      · rename_i a b hk
        split at h
        · cases h
        · rename_i w hw
          split at h
          · cases h
          · split at h
            · cases h; exact evE_rg hl k a v (hr2.2 a (by rw [hk]; simp)) hw
            · split at h
              · cases h
              · rename_i u hu
                split at h
                · cases h
                · cases h; exact evE_rg hl k b v (hr2.2 b (by rw [hk]; simp)) hu
      · cases h
    split at h
    · split at h
      · split at h
        · cases h
        · split at h
          · cases h
          · cases h; exact boolV_rg _
      · cases h
    · split at h
      · split at h
        · cases h
        · split at h
          · cases h
          · exact pairE_rg h
      · cases h
theorem evE_ch {s : Sc} {l : List Bn} {k : Nat} {o : Int} {xv : Val} {xa xf : List UInt8} {a b : Ex} (h : o = 10 ∨ o = 11) : evE s l (k + 1) (.mk o xv xa xf [a, b]) = chE o (evE s l k a) (evE s l k b) := by
  rw [evE, if_neg (by show ¬ o = 1; omega), if_neg (by show ¬ o = 2; omega), if_pos (show Ex.op (.mk o xv xa xf [a, b]) = 10 ∨ Ex.op (.mk o xv xa xf [a, b]) = 11 from h)]
  rfl
def notE : Except Nat Val → Except Nat Val
  | .error e => .error e
  | .ok v => if v.kind ≠ 3 then .error 14 else .ok (boolV (decide (v.n = 0)))
def twoE (o : Int) (ra rb : Except Nat Val) : Except Nat Val :=
  match ra with
  | .error e => .error e
  | .ok v => match rb with
    | .error e => .error e
    | .ok u => pairE o v u
theorem evE_not {s : Sc} {l : List Bn} {k : Nat} {xv : Val} {xa xf : List UInt8} {a : Ex} : evE s l (k + 1) (.mk 12 xv xa xf [a]) = notE (evE s l k a) := by
  rw [evE, if_neg (by show ¬ (12 : Int) = 1; decide), if_neg (by show ¬ (12 : Int) = 2; decide), if_neg (by show ¬ ((12 : Int) = 10 ∨ (12 : Int) = 11); decide), if_pos (show Ex.op (.mk 12 xv xa xf [a]) = 12 from rfl)]
  show (match evE s l k a with | .error e => _ | .ok v => _) = _
  cases evE s l k a <;> rfl
theorem evE_two {s : Sc} {l : List Bn} {k : Nat} {o : Int} {xv : Val} {xa xf : List UInt8} {a b : Ex} (h3 : 3 ≤ o) (h9 : o ≤ 9) : evE s l (k + 1) (.mk o xv xa xf [a, b]) = twoE o (evE s l k a) (evE s l k b) := by
  rw [evE, if_neg (by show ¬ o = 1; omega), if_neg (by show ¬ o = 2; omega), if_neg (by show ¬ (o = 10 ∨ o = 11); omega), if_neg (by show ¬ o = 12; omega)]
  show (match evE s l k a with | .error e => _ | .ok v => _) = _
  cases evE s l k a with
  | error e => rfl
  | ok v =>
    show (match evE s l k b with | .error e => _ | .ok v => _) = _
    cases evE s l k b <;> rfl
theorem ok_next {r : Ex → Except Nat Val} {l : List Ex} {n : Nat} {vs : List Val} {y : Ex} {v : Val} (h : (l.take n).map r = vs.map .ok) (hy : l[n]? = some y) (hv : r y = .ok v) : (l.take (n + 1)).map r = (vs ++ [v]).map .ok := by
  rw [List.take_add_one, hy, List.map_append, h, List.map_append]
  simp [hv]
theorem ok_err2 {r : Ex → Except Nat Val} {a b : Ex} {n : Nat} {vs : List Val} {y : Ex} {e : Nat} {o : Int} (h : ([a, b].take n).map r = vs.map .ok) (hy : [a, b][n]? = some y) (he : r y = .error e) : twoE o (r a) (r b) = .error e := by
  match n, hy with
  | 0, hy => cases hy; unfold twoE; rw [he]
  | 1, hy =>
    cases hy
    cases vs with
    | nil => simp at h
    | cons v vs =>
      have : r a = .ok v := by simpa using (List.cons.inj h).1
      unfold twoE; rw [this]; simp only; rw [he]
set_option maxRecDepth 100000 in
set_option maxHeartbeats 2000000 in
theorem evalkids_call (s : Sc) (l : List Bn) (x : Ex) (r : Ex → Except Nat Val) (hn : x.op ≠ 1 ∧ x.op ≠ 2 ∧ x.op ≠ 10 ∧ x.op ≠ 11) (hk : (x.op = 12 ∧ ∃ a, x.kids = [a]) ∨ (3 ≤ x.op ∧ x.op ≤ 9 ∧ ∃ a b, x.kids = [a, b]))
    (hc : ∀ y ∈ x.kids, PCall Tryz.prog 134 [scV s, .agg (exC y), bnsV l] (resV (r y))) (hrg : ∀ y ∈ x.kids, ∀ v, r y = .ok v → InR v.n) (res : Except Nat Val)
    (hres : (∀ a, x.op = 12 → x.kids = [a] → res = notE (r a)) ∧ ∀ a b, 3 ≤ x.op → x.op ≤ 9 → x.kids = [a, b] → res = twoE x.op (r a) (r b)) : PCall Tryz.prog 134 [scV s, .agg (exC x), bnsV l] (resV res) := by
  have b1 : (x.op == 1) = false := beq_eq_false_iff_ne.2 hn.1
  have b2 : (x.op == 2) = false := beq_eq_false_iff_ne.2 hn.2.1
  have b10 : (x.op == 10) = false := beq_eq_false_iff_ne.2 hn.2.2.1
  have b11 : (x.op == 11) = false := beq_eq_false_iff_ne.2 hn.2.2.2
  have hlen2 : x.kids.length ≤ 2 := by
    rcases hk with ⟨_, a, h⟩ | ⟨_, _, a, b, h⟩ <;> rw [h] <;> simp
  have herr : ∀ (n : Nat) (vs : List Val) (y : Ex) (e : Nat), (x.kids.take n).map r = vs.map .ok → x.kids[n]? = some y → r y = .error e → res = .error e := by
    intro n vs y e h1 h2 h3
    rcases hk with ⟨ho, a, h⟩ | ⟨ho, ho2, a, b, h⟩
    · rw [hres.1 a ho h]
      rw [h] at h2
      match n, h2 with
      | 0, h2 => cases h2; rw [h3]; rfl
    · rw [hres.2 a b ho ho2 h]
      rw [h] at h1 h2
      exact ok_err2 h1 h2 h3
  refine scall_of (live := []) (ords := [(18, [])]) Tryz.func134 rfl (by kernel_rfl) (by kernel_rfl) (Nat.le_of_ble_eq_true rfl) ?_
  (conv=>arg 2;whnf);refine wp_allocE valZ rfl fun c => ?_
  (conv=>arg 2;whnf);refine wp_if b1 ?_
  (conv=>arg 2;whnf);refine wp_if b2 ?_
  (conv=>arg 2;whnf);refine wp_if b10 ?_
  (conv=>arg 2;whnf);refine wp_if b11 ?_
  (conv=>arg 2;whnf);refine wp_loop (fun m fr R => ∃ (n : Nat) (t : Option Nat) (vs : List Val), m = x.kids.length - n ∧ n ≤ x.kids.length ∧ (x.kids.take n).map r = vs.map .ok ∧ (t = none → vs = []) ∧ R = .obj c valZ :: tokR (some 3) t ∧
      fr = frL [(2, bnsV l), (3, .pt (some 1) (scV s) 0), (4, .pt (some 7) (.agg (exC x)) 0), (6, .loc c 0), (8, .sl (shOf (some 3) t) (vs.map valV) (tkOf t)), (37, exsV x.kids), (38, i64V x.kids.length), (39, i64V n)])
    x.kids.length _ _ (.cons (.refl _) (.cons (.refl _) (.cons (.refl _) (.cons (.refl _) (.cons (.refl _) (.cons (.refl _) (.cons (Vle.i64 _ rfl (by rw [List.length_map])) (.cons (.refl _) (.nil _))))))))) (List.Sublist.refl _) ⟨0, none, [], rfl, Nat.zero_le _, rfl, fun _ => rfl, rfl, rfl⟩ ?_
  rintro m fr R ⟨n, t, vs, rfl, hn2, hvs, ht, rfl, rfl⟩
  have hvl : vs.length = n := by
    have := congrArg List.length hvs
    rw [List.length_map, List.length_take, List.length_map] at this
    omega
  (conv=>arg 2;whnf);refine wp_ite (fun h => ?_) (fun h => ?_)
  · have h : n < x.kids.length := by have := of_decide_eq_true h; omega
    obtain ⟨y, hy⟩ : ∃ y, x.kids[n]? = some y := ⟨_, List.getElem?_eq_getElem h⟩
    have cy := hc y (List.mem_of_getElem? hy)
    (conv=>arg 2;whnf);refine wp_elem n (.agg (exC y)) rfl (kids_at hy) (Vle.refl _) ?_
    (conv=>arg 2;whnf);refine wp_allocE exZ rfl fun q => ?_
    (conv=>arg 2;whnf);refine wp_storeE (cs := exZ) ((tokR (some 3) t).length + 1) 0 (exC y) (by simp) rfl (VleL.refl _) (Nat.le_refl _) rfl (R' := [.obj c valZ] ++ (tokR (some 3) t ++ [.obj q (exC y)])) (by simp [splice, exZ, exC]) ?_
    (conv=>arg 2;whnf);refine wp_load (cs := exC y) ((tokR (some 3) t).length + 1) (by simp) rfl ?_
    cases hr : r y with
    | error e =>
      rw [hr] at cy
      have hr2 := herr n vs y e hvs hy hr
      (conv=>arg 2;whnf);refine wp_pcall cy ?_
      (conv=>arg 2;whnf);refine wp_allocE valZ rfl fun u => ?_
      (conv=>arg 2;whnf);refine wp_storeE (cs := valZ) ((tokR (some 3) t).length + 2) 0 (valL val0) (by simp) rfl (VleL.refl _) (Nat.le_refl _) rfl (R' := [.obj c valZ] ++ (tokR (some 3) t ++ [.obj q (exC y), .obj u (valL val0)])) (by simp [splice, valZ, valL]) ?_
      (repeat ((conv=>arg 2;whnf);first|refine wp_it rfl ?_|refine wp_if rfl ?_))
      (conv=>arg 2;whnf);refine wp_storeE (cs := valZ) 0 0 (valL val0) rfl rfl (VleL.refl _) (Nat.le_refl _) rfl (R' := [.obj c (valL val0)] ++ (tokR (some 3) t ++ [.obj q (exC y), .obj u (valL val0)])) rfl ?_
      (conv=>arg 2;whnf)
      refine wp_leaf (loop_ret ?_)
      (conv=>arg 2;whnf);refine w_ret2ck (R' := []) (a := valV val0) (u := .c (errV (some e))) c 0 0 rfl rfl rfl rfl rfl (Vle.refl _) (Vle.refl _) (List.nil_sublist _) (by rw [hr2]; rfl)
    | ok v =>
      rw [hr] at cy
      have hnx := ok_next hvs hy hr
      (conv=>arg 2;whnf);refine wp_pcall cy ?_
      (conv=>arg 2;whnf);refine wp_allocE valZ rfl fun u => ?_
      (conv=>arg 2;whnf);refine wp_storeE (cs := valZ) ((tokR (some 3) t).length + 2) 0 (valL v) (by simp) rfl (VleL.refl _) (Nat.le_refl _) rfl (R' := [.obj c valZ] ++ (tokR (some 3) t ++ [.obj q (exC y), .obj u (valL v)])) (by simp [splice, valZ, valL]) ?_
      (repeat ((conv=>arg 2;whnf);first|refine wp_it rfl ?_|refine wp_if rfl ?_))
      (conv=>arg 2;whnf);refine wp_load (cs := valL v) ((tokR (some 3) t).length + 2) (by simp) rfl ?_
      (conv=>arg 2;whnf);refine wp_append_x (A := [.obj c valZ]) (B := [.obj q (exC y), .obj u (valL v)]) (sh := some 3) (t := t) (xs := vs.map valV) (ys := [valV v]) (fun h => by rw [ht h]; rfl) (okE_val [v]) (show (_ + 1) * 32 ≤ _ by rw [List.length_map]; omega) (fun t' S' hS => ?_)
      (conv=>arg 2;whnf)
      refine wp_leaf (loop_next (x.kids.length - (n + 1)) _ (.obj c valZ :: [.tok t' (some 3)]) (by omega) (.cons (.refl _) (.cons (.refl _) (.cons (.refl _) (.cons (.refl _) (.cons (Vle.of (.sl (some 3) (vs.map valV ++ [valV v]) (.t t')) rfl ?_) (.cons (.refl _) (.cons (.refl _) (.cons (Vle.inc n rfl (by omega)) (.nil _))))))))) (List.Sublist.cons_cons _ hS) ⟨n + 1, some t', vs ++ [v], rfl, by omega, hnx, (fun h => by cases h), rfl, rfl⟩)
      rw [List.map_append]; rfl
  · have h : n = x.kids.length := by have := of_decide_eq_false h; omega
    rw [h, List.take_length] at hvs
    obtain ⟨t, rfl⟩ : ∃ u, t = some u := by
      cases t with
      | none =>
        exfalso
        rw [ht rfl] at hvl
        rcases hk with ⟨_, a, hk⟩ | ⟨_, _, a, b, hk⟩ <;> rw [hk] at h <;> simp at h hvl <;> omega
      | some u => exact ⟨u, rfl⟩
    (conv=>arg 2;whnf)
    refine wp_leaf (loop_exit ?_)
    refine wp_cutR (frL [(4, .pt (some 7) (.agg (exC x)) 0), (6, .loc c 0), (8, .sl (some 3) (vs.map valV) (.t t))]) [.obj c valZ] (.cons (.refl _) (.cons (.refl _) (.cons (.refl _) (.nil _)))) (by simp) ?_
    rcases hk with ⟨ho, a, hk⟩ | ⟨ho, ho2, a, b, hk⟩
    · have b12 : (x.op == 12) = true := beq_iff_eq.2 ho
      have hr := hres.1 a ho hk
      rw [hk] at hvs
      obtain ⟨v, rfl⟩ : ∃ v, vs = [v] := by
        have hl := congrArg List.length hvs
        simp only [List.length_map, List.length_cons, List.length_nil] at hl
        obtain ⟨v, hv⟩ := List.length_eq_one_iff.1 hl.symm
        exact ⟨v, hv⟩
      have hv : r a = .ok v := by simpa using hvs
      rw [hv] at hr
      (conv=>arg 2;whnf);refine wp_it b12 ?_
      (conv=>arg 2;whnf);refine wp_elem 0 (valV v) rfl rfl (Vle.refl _) ?_
      (conv=>arg 2;whnf);refine wp_ite (fun h1 => ?_) (fun h1 => ?_)
      · have h1 : v.kind ≠ 3 := by simpa using h1
        have hr : res = .error 14 := by rw [hr, notE, if_pos h1]
        (conv=>arg 2;whnf);refine wp_storeE (cs := valZ) 0 0 (valL val0) rfl rfl (VleL.refl _) (Nat.le_refl _) rfl (R' := [.obj c (valL val0)]) rfl ?_
        (conv=>arg 2;whnf);refine w_ret2ck (R' := []) (a := valV val0) (u := .c (errV (some 14))) c 0 0 rfl rfl rfl rfl rfl (Vle.refl _) (Vle.refl _) (List.nil_sublist _) (by rw [hr]; rfl)
      · have h1 : v.kind = 3 := by simpa using h1
        have hr : res = .ok (boolV (decide (v.n = 0))) := by rw [hr, notE, if_neg (fun h => h h1)]
        have hz : (v.n == 0) = decide (v.n = 0) := by rw [Bool.eq_iff_iff, beq_iff_eq, decide_eq_true_eq]
        (conv=>arg 2;whnf);refine wp_elem 0 (valV v) rfl rfl (Vle.refl _) ?_
        (conv=>arg 2;whnf);refine wp_pcallV (.cons (Vle.eq (cBool hz)) .nil) (truth_call (decide (v.n = 0))) ?_
        (conv=>arg 2;whnf);refine wp_storeE (cs := valZ) 0 0 (valL (boolV (decide (v.n = 0)))) rfl rfl (VleL.refl _) (Nat.le_refl _) rfl (R' := [.obj c (valL (boolV (decide (v.n = 0))))]) rfl ?_
        (conv=>arg 2;whnf);refine w_ret2ck (R' := []) (a := valV (boolV (decide (v.n = 0)))) (u := .c (errV none)) c 0 0 rfl rfl rfl rfl rfl (Vle.refl _) (Vle.refl _) (List.nil_sublist _) (by rw [hr]; rfl)
    · have b12 : (x.op == 12) = false := beq_eq_false_iff_ne.2 (by omega)
      have hr := hres.2 a b ho ho2 hk
      rw [hk] at hvs
      obtain ⟨v, u, rfl⟩ : ∃ v u, vs = [v, u] := by
        have hl := congrArg List.length hvs
        simp only [List.length_map, List.length_cons, List.length_nil] at hl
        rcases vs with _ | ⟨v, _ | ⟨u, _ | ⟨z, vs⟩⟩⟩
        · simp at hl
        · simp at hl
        · exact ⟨v, u, rfl⟩
        · simp at hl
      have hv : r a = .ok v ∧ r b = .ok u := by simpa using hvs
      have hr : res = pairE x.op v u := by rw [hr, hv.1, hv.2]; rfl
      have f1 := pair_call x.op ho ho2 v u (hrg a (by rw [hk]; simp) v hv.1) (hrg b (by rw [hk]; simp) u hv.2)
      (conv=>arg 2;whnf);refine wp_if b12 ?_
      (conv=>arg 2;whnf);refine wp_elem 0 (valV v) rfl rfl (Vle.refl _) ?_
      (conv=>arg 2;whnf);refine wp_elem 1 (valV u) rfl rfl (Vle.refl _) ?_
      cases hp : pairE x.op v u with
      | ok y =>
        rw [hp] at f1 hr
        (conv=>arg 2;whnf);refine wp_pc f1 ?_
        (conv=>arg 2;whnf);refine wp_storeE (cs := valZ) 0 0 (valL y) rfl rfl (VleL.refl _) (Nat.le_refl _) rfl (R' := [.obj c (valL y)]) rfl ?_
        (conv=>arg 2;whnf);refine w_ret2ck (R' := []) (a := valV y) (u := .c (errV none)) c 0 0 rfl rfl rfl rfl rfl (Vle.refl _) (Vle.refl _) (List.nil_sublist _) (by rw [hr]; rfl)
      | error e =>
        rw [hp] at f1 hr
        (conv=>arg 2;whnf);refine wp_pc f1 ?_
        (conv=>arg 2;whnf);refine wp_storeE (cs := valZ) 0 0 (valL val0) rfl rfl (VleL.refl _) (Nat.le_refl _) rfl (R' := [.obj c (valL val0)]) rfl ?_
        (conv=>arg 2;whnf);refine w_ret2ck (R' := []) (a := valV val0) (u := .c (errV (some e))) c 0 0 rfl rfl rfl rfl rfl (Vle.refl _) (Vle.refl _) (List.nil_sublist _) (by rw [hr]; rfl)
end Go.Sv
namespace Go.Sv
open Go Go.Proofs
set_option maxRecDepth 100000 in
set_option maxHeartbeats 1000000 in
theorem eval_call (s : Sc) (hs : ScOk s) (l : List Bn) (hl : l.length < 2 ^ 60) (hb : BnRg l) : ∀ (k : Nat) (x : Ex), shapedN k x = true → exRg x → PCall Tryz.prog 134 [scV s, .agg (exC x), bnsV l] (resV (evE s l k x))
  | 0, _, h, _ => by cases h
  | k + 1, .mk o xv xa xf ks, hsh, hrg => by
    have hrg2 := (exRg_eq _).1 hrg
    rcases shape_cases hsh with rfl | rfl | ⟨rfl, a, rfl, ha⟩ | ⟨h3, h11, a, b, rfl, ha, hb2⟩
    · have hr : evE s l (k + 1) (.mk 1 xv xa xf ks) = .ok xv := by rw [evE, if_pos (show Ex.op _ = 1 from rfl)]; rfl
      refine scall_of (live := []) (ords := []) Tryz.func134 rfl (by kernel_rfl) (by kernel_rfl) (Nat.le_of_ble_eq_true rfl) ?_
      (conv=>arg 2;whnf);refine wp_allocE valZ rfl fun c => ?_
      (repeat ((conv=>arg 2;whnf);first|refine wp_it rfl ?_|refine wp_if rfl ?_))
      (conv=>arg 2;whnf);refine wp_storeE (cs := valZ) 0 0 (valL xv) rfl rfl (VleL.refl _) (Nat.le_refl _) rfl (R' := [.obj c (valL xv)]) rfl ?_
      (conv=>arg 2;whnf);refine w_ret2ck (R' := []) (a := valV xv) (u := .c (errV none)) c 0 0 rfl rfl rfl rfl rfl (Vle.refl _) (Vle.refl _) (List.nil_sublist _) (by rw [hr]; rfl)
    · have hr : evE s l (k + 1) (.mk 2 xv xa xf ks) = fieldE s l xa xf := by rw [evE, if_neg (show ¬ Ex.op (.mk 2 xv xa xf ks) = 1 from (by decide : ¬ (2 : Int) = 1)), if_pos (show Ex.op _ = 2 from rfl)]; rfl
      have f1 := field_call s hs (.mk 2 xv xa xf ks) l hl
      rw [show Ex.al (.mk 2 xv xa xf ks) = xa from rfl, show Ex.fd (.mk 2 xv xa xf ks) = xf from rfl] at f1
      refine scall_of (live := []) (ords := []) Tryz.func134 rfl (by kernel_rfl) (by kernel_rfl) (Nat.le_of_ble_eq_true rfl) ?_
      (conv=>arg 2;whnf);refine wp_allocE valZ rfl fun c => ?_
      (repeat ((conv=>arg 2;whnf);first|refine wp_it rfl ?_|refine wp_if rfl ?_))
      cases hf : fieldE s l xa xf with
      | ok v =>
        rw [hf] at f1 hr
        (conv=>arg 2;whnf);refine wp_pcall f1 ?_
        (conv=>arg 2;whnf);refine wp_storeE (cs := valZ) 0 0 (valL v) rfl rfl (VleL.refl _) (Nat.le_refl _) rfl (R' := [.obj c (valL v)]) rfl ?_
        (conv=>arg 2;whnf);refine w_ret2ck (R' := []) (a := valV v) (u := .c (errV none)) c 0 0 rfl rfl rfl rfl rfl (Vle.refl _) (Vle.refl _) (List.nil_sublist _) (by rw [hr]; rfl)
      | error e =>
        rw [hf] at f1 hr
        (conv=>arg 2;whnf);refine wp_pcall f1 ?_
        (conv=>arg 2;whnf);refine wp_storeE (cs := valZ) 0 0 (valL val0) rfl rfl (VleL.refl _) (Nat.le_refl _) rfl (R' := [.obj c (valL val0)]) rfl ?_
        (conv=>arg 2;whnf);refine w_ret2ck (R' := []) (a := valV val0) (u := .c (errV (some e))) c 0 0 rfl rfl rfl rfl rfl (Vle.refl _) (Vle.refl _) (List.nil_sublist _) (by rw [hr]; rfl)
    · have ca := eval_call s hs l hl hb k a ha (hrg2.2 a (by simp [Ex.kids]))
      refine evalkids_call s l (.mk 12 xv xa xf [a]) (evE s l k) (by show (12 : Int) ≠ 1 ∧ (12 : Int) ≠ 2 ∧ (12 : Int) ≠ 10 ∧ (12 : Int) ≠ 11; decide) (.inl ⟨rfl, a, rfl⟩) (fun y hy => ?_) (fun y hy v hv => ?_) _ ⟨fun a' _ hk => ?_, fun a' b' _ h9 _ => ?_⟩
      · rw [List.mem_singleton.1 (show y ∈ [a] from hy)]; exact ca
      · rw [List.mem_singleton.1 (show y ∈ [a] from hy)] at hv
        exact evE_rg hb k a v (hrg2.2 a (by simp [Ex.kids])) hv
      · have : a = a' := by simpa using (List.cons.inj (show [a] = [a'] from hk)).1
        rw [← this]; exact evE_not
      · exact absurd (show (12 : Int) ≤ 9 from h9) (by decide)
    · have ca := eval_call s hs l hl hb k a ha (hrg2.2 a (by simp [Ex.kids]))
      have cb := eval_call s hs l hl hb k b hb2 (hrg2.2 b (by simp [Ex.kids]))
      by_cases h10 : o = 10 ∨ o = 11
      · have hr := evE_ch (s := s) (l := l) (k := k) (xv := xv) (xa := xa) (xf := xf) (a := a) (b := b) h10
        have f1 := choice_call (scV s) o xv xa xf a b (bnsV l) _ _ ⟨_, rfl⟩ ca cb
        rw [← hr] at f1
        rcases h10 with rfl | rfl
        · refine scall_of (live := []) (ords := []) Tryz.func134 rfl (by kernel_rfl) (by kernel_rfl) (Nat.le_of_ble_eq_true rfl) ?_
          (conv=>arg 2;whnf);refine wp_allocE valZ rfl fun c => ?_
          (repeat ((conv=>arg 2;whnf);first|refine wp_it rfl ?_|refine wp_if rfl ?_))
          cases hf : evE s l (k + 1) (.mk 10 xv xa xf [a, b]) with
          | ok v =>
            rw [hf] at f1
            (conv=>arg 2;whnf);refine wp_pcall f1 ?_
            (conv=>arg 2;whnf);refine wp_storeE (cs := valZ) 0 0 (valL v) rfl rfl (VleL.refl _) (Nat.le_refl _) rfl (R' := [.obj c (valL v)]) rfl ?_
            (conv=>arg 2;whnf);refine w_ret2ck (R' := []) (a := valV v) (u := .c (errV none)) c 0 0 rfl rfl rfl rfl rfl (Vle.refl _) (Vle.refl _) (List.nil_sublist _) rfl
          | error e =>
            rw [hf] at f1
            (conv=>arg 2;whnf);refine wp_pcall f1 ?_
            (conv=>arg 2;whnf);refine wp_storeE (cs := valZ) 0 0 (valL val0) rfl rfl (VleL.refl _) (Nat.le_refl _) rfl (R' := [.obj c (valL val0)]) rfl ?_
            (conv=>arg 2;whnf);refine w_ret2ck (R' := []) (a := valV val0) (u := .c (errV (some e))) c 0 0 rfl rfl rfl rfl rfl (Vle.refl _) (Vle.refl _) (List.nil_sublist _) rfl
        · refine scall_of (live := []) (ords := []) Tryz.func134 rfl (by kernel_rfl) (by kernel_rfl) (Nat.le_of_ble_eq_true rfl) ?_
          (conv=>arg 2;whnf);refine wp_allocE valZ rfl fun c => ?_
          (repeat ((conv=>arg 2;whnf);first|refine wp_it rfl ?_|refine wp_if rfl ?_))
          cases hf : evE s l (k + 1) (.mk 11 xv xa xf [a, b]) with
          | ok v =>
            rw [hf] at f1
            (conv=>arg 2;whnf);refine wp_pcall f1 ?_
            (conv=>arg 2;whnf);refine wp_storeE (cs := valZ) 0 0 (valL v) rfl rfl (VleL.refl _) (Nat.le_refl _) rfl (R' := [.obj c (valL v)]) rfl ?_
            (conv=>arg 2;whnf);refine w_ret2ck (R' := []) (a := valV v) (u := .c (errV none)) c 0 0 rfl rfl rfl rfl rfl (Vle.refl _) (Vle.refl _) (List.nil_sublist _) rfl
          | error e =>
            rw [hf] at f1
            (conv=>arg 2;whnf);refine wp_pcall f1 ?_
            (conv=>arg 2;whnf);refine wp_storeE (cs := valZ) 0 0 (valL val0) rfl rfl (VleL.refl _) (Nat.le_refl _) rfl (R' := [.obj c (valL val0)]) rfl ?_
            (conv=>arg 2;whnf);refine w_ret2ck (R' := []) (a := valV val0) (u := .c (errV (some e))) c 0 0 rfl rfl rfl rfl rfl (Vle.refl _) (Vle.refl _) (List.nil_sublist _) rfl
      · refine evalkids_call s l (.mk o xv xa xf [a, b]) (evE s l k) (by show o ≠ 1 ∧ o ≠ 2 ∧ o ≠ 10 ∧ o ≠ 11; omega) (.inr ⟨h3, by show o ≤ 9; omega, a, b, rfl⟩) (fun y hy => ?_) (fun y hy v hv => ?_) _ ⟨fun a' h12 _ => ?_, fun a' b' _ _ hk => ?_⟩
        · have hy : y = a ∨ y = b := by simpa [Ex.kids] using hy
          rcases hy with rfl | rfl
          · exact ca
          · exact cb
        · exact evE_rg hb k y v (hrg2.2 y hy) hv
        · have : o = 12 := h12
          omega
        · have hk : [a, b] = [a', b'] := hk
          obtain ⟨e1, e2⟩ := List.cons.inj hk
          have e2 := (List.cons.inj e2).1
          subst e1 e2
          exact evE_two h3 (by omega)
def topE (s : Sc) (l : List Bn) (x : Ex) : Except Nat Val := if isExB x then evE s l 5 x else .error 10
set_option maxRecDepth 100000 in
theorem evaltop_call (s : Sc) (hs : ScOk s) (l : List Bn) (hl : l.length < 2 ^ 60) (hb : BnRg l) (x : Ex) (hx : ExOk 20 x) (hrg : exRg x) : PCall Tryz.prog 127 [scV s, .agg (exC x), bnsV l] (resV (topE s l x)) := by
  have f1 := isexpr_call x hx
  refine scall_of (live := []) (ords := []) Tryz.func127 rfl (by kernel_rfl) (by kernel_rfl) (Nat.le_of_ble_eq_true rfl) ?_
  cases hi : isExB x with
  | false =>
    rw [hi] at f1
    have hr : topE s l x = .error 10 := by rw [topE, hi]; rfl
    (conv=>arg 2;whnf);refine wp_allocE valZ rfl fun c => ?_
    (conv=>arg 2;whnf);refine wp_pcall f1 ?_
    (repeat ((conv=>arg 2;whnf);first|refine wp_it rfl ?_|refine wp_if rfl ?_))
    (conv=>arg 2;whnf);refine wp_storeE (cs := valZ) 0 0 (valL val0) rfl rfl (VleL.refl _) (Nat.le_refl _) rfl (R' := [.obj c (valL val0)]) rfl ?_
    (conv=>arg 2;whnf);refine w_ret2ck (R' := []) (a := valV val0) (u := .c (errV (some 10))) c 0 0 rfl rfl rfl rfl rfl (Vle.refl _) (Vle.refl _) (List.nil_sublist _) (by rw [hr]; rfl)
  | true =>
    rw [hi] at f1
    have hsh : shapedN 5 x = true := by
      rw [← isEx_same, isExR, Bool.and_eq_true] at hi
      exact hi.1
    have hr : topE s l x = evE s l 5 x := by rw [topE, if_pos hi]
    have f2 := eval_call s hs l hl hb 5 x hsh hrg
    rw [← hr] at f2
    (conv=>arg 2;whnf);refine wp_allocE valZ rfl fun c => ?_
    (conv=>arg 2;whnf);refine wp_pcall f1 ?_
    (repeat ((conv=>arg 2;whnf);first|refine wp_it rfl ?_|refine wp_if rfl ?_))
    cases hf : topE s l x with
    | ok v =>
      rw [hf] at f2
      (conv=>arg 2;whnf);refine wp_pcall f2 ?_
      (conv=>arg 2;whnf);refine wp_storeE (cs := valZ) 0 0 (valL v) rfl rfl (VleL.refl _) (Nat.le_refl _) rfl (R' := [.obj c (valL v)]) rfl ?_
      (conv=>arg 2;whnf);refine w_ret2ck (R' := []) (a := valV v) (u := .c (errV none)) c 0 0 rfl rfl rfl rfl rfl (Vle.refl _) (Vle.refl _) (List.nil_sublist _) rfl
    | error e =>
      rw [hf] at f2
      (conv=>arg 2;whnf);refine wp_pcall f2 ?_
      (conv=>arg 2;whnf);refine wp_storeE (cs := valZ) 0 0 (valL val0) rfl rfl (VleL.refl _) (Nat.le_refl _) rfl (R' := [.obj c (valL val0)]) rfl ?_
      (conv=>arg 2;whnf);refine w_ret2ck (R' := []) (a := valV val0) (u := .c (errV (some e))) c 0 0 rfl rfl rfl rfl rfl (Vle.refl _) (Vle.refl _) (List.nil_sublist _) rfl
theorem holdsE_ok {s : Sc} {l : List Bn} {x : Ex} {v : Val} (h0 : zeroB x = false) (h : topE s l x = .ok v) : holdsE s x l = decide (v = boolV true) := by
  unfold topE at h
  split at h
  · rename_i hi
    rw [holdsE, h0, hi, h]; rfl
  · cases h
theorem holdsE_err {s : Sc} {l : List Bn} {x : Ex} {e : Nat} (h0 : zeroB x = false) (h : topE s l x = .error e) : holdsE s x l = false := by
  unfold topE at h
  split at h
  · rename_i hi
    rw [holdsE, h0, hi, h]; rfl
  · rename_i hi
    rw [holdsE, h0]
    have : isExB x = false := by simpa using hi
    rw [this]; rfl
set_option maxRecDepth 100000 in
theorem holds_call (s : Sc) (hs : ScOk s) (x : Ex) (l : List Bn) (hl : l.length < 2 ^ 60) (hb : BnRg l) (hx : ExOk 20 x) (hrg : exRg x) (hk : x.kids.length < 2 ^ 60) : PCall Tryz.prog 119 [scV s, .agg (exC x), bnsV l] (bV (holdsE s x l)) := by
  have f1 := same0_call x hk
  have f2 := evaltop_call s hs l hl hb x hx hrg
  have f3 := truth_call true
  refine scall_of (live := [22]) (ords := []) Tryz.func119 rfl (by kernel_rfl) (by kernel_rfl) (Nat.le_of_ble_eq_true rfl) ?_
  (conv=>arg 2;whnf);refine wp_pcallV (.cons (.refl _) (.cons zero_vle .nil)) f1 ?_
  cases h0 : zeroB x with
  | true =>
    (repeat ((conv=>arg 2;whnf);first|refine wp_it rfl ?_|refine wp_if rfl ?_))
    (conv=>arg 2;whnf);refine w_retp rfl (Vle.eq (cBool (by rw [holdsE, h0]; rfl)))
  | false =>
    (repeat ((conv=>arg 2;whnf);first|refine wp_it rfl ?_|refine wp_if rfl ?_))
    cases hf : topE s l x with
    | ok v =>
      rw [hf] at f2
      have hr := holdsE_ok h0 hf
      have hv := val_eq v (boolV true)
      (conv=>arg 2;whnf);refine wp_pcall f2 ?_
      (conv=>arg 2;whnf);refine wp_allocE valZ rfl fun c => ?_
      (conv=>arg 2;whnf);refine wp_storeE (cs := valZ) 0 0 (valL v) rfl rfl (VleL.refl _) (Nat.le_refl _) rfl (R' := [.obj c (valL v)]) rfl ?_
      (repeat ((conv=>arg 2;whnf);first|refine wp_it rfl ?_|refine wp_if rfl ?_))
      (conv=>arg 2;whnf);refine wp_load (cs := valL v) 0 rfl rfl ?_
      (conv=>arg 2;whnf);refine wp_pc f3 ?_
      (conv=>arg 2;whnf);refine wp_need valEqB ?_
      (conv=>arg 2;whnf);refine w_ret1 rfl (Vle.eq (cBool (hv.trans hr.symm))) (List.nil_sublist _) rfl
    | error e =>
      rw [hf] at f2
      have hr := holdsE_err h0 hf
      (conv=>arg 2;whnf);refine wp_pcall f2 ?_
      (conv=>arg 2;whnf);refine wp_allocE valZ rfl fun c => ?_
      (conv=>arg 2;whnf);refine wp_storeE (cs := valZ) 0 0 (valL val0) rfl rfl (VleL.refl _) (Nat.le_refl _) rfl (R' := [.obj c (valL val0)]) rfl ?_
      (repeat ((conv=>arg 2;whnf);first|refine wp_it rfl ?_|refine wp_if rfl ?_))
      (conv=>arg 2;whnf);refine w_ret1 rfl (Vle.eq (cBool hr.symm)) (List.nil_sublist _) rfl
end Go.Sv
