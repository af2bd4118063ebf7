/- Parts of the proof, one behind the other. -/
import Derived.Test.YtjmkgippihpkoaaGreatDoorMgRowPTells4
import Derived.Lib.Join
import Derived.Test.YtjmkgippihpkoaaGreatDoorProg
/- The nodes of a condition, one by one. -/
namespace Go.Sv
open Go Go.Proofs

theorem flat_at {α β : Type} {f : α → List β} {l : List α} {n i : Nat} {y : α} {z : β} (h : l[n]? = some y) (hz : (f y)[i]? = some z) : (l.flatMap f)[((l.take n).flatMap f).length + i]? = some z := by
  have e : l = l.take n ++ y :: l.drop (n + 1) := by rw [← drop_at h, List.take_append_drop]
  have hi := (List.getElem?_eq_some_iff.1 hz).1
  conv => lhs; arg 1; rw [e, List.flatMap_append, List.flatMap_cons]
  rw [List.getElem?_append_right (by omega), Nat.add_sub_cancel_left, List.getElem?_append_left hi]
  exact hz
theorem flat_take {α β : Type} {f : α → List β} {l : List α} {n : Nat} {y : α} (h : l[n]? = some y) : ((l.take (n + 1)).flatMap f).length = ((l.take n).flatMap f).length + (f y).length := by
  rw [List.take_add_one, h, List.flatMap_append, List.length_append]
  simp

/-- A variable of no condition. -/
def exZ : List V := [i64V 0, i64V 0, i64V 0, str [], str [], str [], .sl none [] .zero]
theorem splice_ex (y : Ex) : splice exZ 0 (exC y) = exC y := rfl

def nodesF (x : Ex) (at_ : Nat) : V := .fn (.func 113) [] [.pt (some 7) (.agg (exC x)) 0, .pt none (i64V at_) 0]

set_option maxRecDepth 100000 in
theorem nodes_call (x : Ex) (at_ : Nat) : PCall Tryz.prog 101 [.agg (exC x), i64V at_] (nodesF x at_) := by
  refine scall_of (live := []) (ords := []) Tryz.func101 rfl (by kernel_rfl) (by kernel_rfl) (Nat.le_of_ble_eq_true rfl) ?_
  (conv => arg 2; whnf); refine w_retp rfl (Vle.eq ?_)
  rfl

set_option maxRecDepth 100000 in
theorem nodes_iter : ∀ (k : Nat) (x : Ex) (at_ : Nat), at_ + k = 21 → ExOk k x →
    Iter Tryz.prog 113 [] [.pt (some 7) (.agg (exC x)) 0, .pt none (i64V at_) 0] ((nodesN k x).map fun y => [V.agg (exC y)]) := by
  intro k
  induction k with
  | zero =>
    intro x at_ hat _
    refine ⟨⟨_, _, Tryz.func113, rfl, by kernel_rfl⟩, fun l I E R0 h0 hy => ?_⟩
    refine scall_of (live := []) (ords := []) Tryz.func113 rfl (by kernel_rfl) (by kernel_rfl) (Nat.le_of_ble_eq_true rfl) ?_
    (conv => arg 2; whnf); refine wp_ite (fun h1 => ?_) (fun h1 => ?_)
    · (repeat ((conv => arg 2; whnf); first | refine wp_ite (fun _ => ?_) (fun h => Bool.noConfusion h) | refine wp_ite (fun h => Bool.noConfusion h) (fun _ => ?_)))
      (conv => arg 2; whnf); refine w_ret0 rfl (List.Sublist.refl _) (.inl h0)
    · (conv => arg 2; whnf); refine wp_ite (fun h2 => ?_) (fun h2 => ?_)
      · (repeat ((conv => arg 2; whnf); first | refine wp_ite (fun _ => ?_) (fun h => Bool.noConfusion h) | refine wp_ite (fun h => Bool.noConfusion h) (fun _ => ?_)))
        (conv => arg 2; whnf); refine w_ret0 rfl (List.Sublist.refl _) (.inl h0)
      · have h2 : ¬ (20 < (at_ : Int)) := of_decide_eq_false h2
        omega
  | succ k ih =>
    intro x at_ hat hok
    refine ⟨⟨_, _, Tryz.func113, rfl, by kernel_rfl⟩, fun l I E R0 h0 hy => ?_⟩
    refine scall_of (live := []) (ords := []) Tryz.func113 rfl (by kernel_rfl) (by kernel_rfl) (Nat.le_of_ble_eq_true rfl) ?_
    (conv => arg 2; whnf); refine wp_ite (fun h1 => ?_) (fun h1 => ?_)
    · have h1 : x.op = 0 := by simpa using h1
      (repeat ((conv => arg 2; whnf); first | refine wp_ite (fun _ => ?_) (fun h => Bool.noConfusion h) | refine wp_ite (fun h => Bool.noConfusion h) (fun _ => ?_)))
      (conv => arg 2; whnf); refine w_ret0 rfl (List.Sublist.refl _) (.inl ?_)
      rw [nodesN_op h1]; exact h0
    have h1 : x.op ≠ 0 := by simpa using h1
    (conv => arg 2; whnf); refine wp_ite (fun h2 => ?_) (fun h2 => ?_)
    · have h2 : 20 < (at_ : Int) := of_decide_eq_true h2
      omega
    rw [nodesN_kids h1] at hy ⊢
    have hl := hok.2.2.2.1
    (conv => arg 2; whnf); refine wp_yld (hy 0 _ _ rfl h0) ?_
    rintro b' R' (⟨rfl, hI⟩ | ⟨rfl, hE⟩)
    · (repeat ((conv => arg 2; whnf); first | refine wp_ite (fun _ => ?_) (fun h => Bool.noConfusion h) | refine wp_ite (fun h => Bool.noConfusion h) (fun _ => ?_)))
      (conv => arg 2; whnf); refine wp_loop (fun m fr R => ∃ n : Nat, m = x.kids.length - n ∧ n ≤ x.kids.length ∧ I (1 + ((x.kids.take n).flatMap (nodesN k)).length) R ∧
          fr = frL [(2, .pt none (i64V at_) 0), (3, .pt none (.fn (.yield l) [] []) 0), (21, exsV x.kids), (22, i64V x.kids.length), (23, i64V n)])
        x.kids.length _ _ (.cons (.refl _) (.cons (.refl _) (.cons (.refl _) (.cons (Vle.eq ?_) (.cons (.refl _) (.nil _)))))) (List.Sublist.refl _) ⟨0, rfl, Nat.zero_le _, hI, rfl⟩ ?_
      · show V.c (.int .i64 (x.kids.map exV).length) = _
        rw [List.length_map]; rfl
      rintro m fr R ⟨n, rfl, hn, hI, rfl⟩
      (conv => arg 2; whnf); refine wp_ite (fun h => ?_) (fun h => ?_)
      · have h : n < x.kids.length := by have := of_decide_eq_true h; omega
        obtain ⟨y, hk⟩ : ∃ y, x.kids[n]? = some y := ⟨_, List.getElem?_eq_getElem h⟩
        have hit := ih y (at_ + 1) (by omega) (exOk_kid hok hk)
        (conv => arg 2; whnf); refine wp_elem n (.agg (exC y)) rfl (kid_at hk) (Vle.refl _) ?_
        (conv => arg 2; whnf); refine wp_allocE exZ rfl fun b => ?_
        (conv => arg 2; whnf); refine wp_storeE (cs := exZ) R.length 0 (exC y) (by simp) rfl (VleL.refl _) (Nat.le_refl _) rfl (R' := R ++ [.obj b (exC y)]) (by simp [splice_ex]) ?_
        (conv => arg 2; whnf); refine wp_load (cs := exC y) R.length (by simp) rfl ?_
        (conv => arg 2; whnf); refine wp_pcallV (.cons (.refl _) (.cons (Vle.i64 _ rfl (wadd (by omega : (at_ : Int) + 1 = ((at_ + 1 : Nat) : Int)) (by omega) (by omega))) .nil)) (nodes_call y (at_ + 1)) ?_
        (conv => arg 2; whnf); refine wp_range hit (fun i R' => ∃ S T, R' = S ++ T ∧ I (1 + ((x.kids.take n).flatMap (nodesN k)).length + i) S) ⟨R, [.obj b (exC y)], rfl, hI⟩ ?_ ?_ ?_
        · intro i args hi
          rw [List.getElem?_map, Option.map_eq_some_iff] at hi
          obtain ⟨z, _, rfl⟩ := hi
          rfl
        · rintro i args R1 hi ⟨S, T, rfl, hS⟩
          rw [List.getElem?_map, Option.map_eq_some_iff] at hi
          obtain ⟨z, hz, rfl⟩ := hi
          have hz2 : ((x :: x.kids.flatMap (nodesN k)).map fun y => [V.agg (exC y)])[1 + ((x.kids.take n).flatMap (nodesN k)).length + i]? = some [V.agg (exC z)] := by
            rw [show 1 + ((x.kids.take n).flatMap (nodesN k)).length + i = (((x.kids.take n).flatMap (nodesN k)).length + i) + 1 by omega, List.map_cons, List.getElem?_cons_succ, List.getElem?_map, flat_at hk hz]
            rfl
          (conv => arg 2; whnf); refine wp_allocE exZ rfl fun c => ?_
          (conv => arg 2; whnf); refine wp_storeE (cs := exZ) (S ++ T).length 0 (exC z) (by simp) rfl (VleL.refl _) (Nat.le_refl _) rfl (R' := S ++ (T ++ [.obj c (exC z)])) (by simp [splice_ex]) ?_
          (conv => arg 2; whnf); refine wp_load (cs := exC z) (S ++ T).length (by simp) rfl ?_
          have hyc := (hy _ _ S hz2 hS).frame (A := []) (B := T ++ [.obj c (exC z)])
          (conv => arg 2; whnf); refine wp_yld hyc ?_
          rintro b' R' ⟨S2, ⟨rfl, hI2⟩ | ⟨rfl, hE⟩, rfl⟩
          · (repeat ((conv => arg 2; whnf); first | refine wp_ite (fun _ => ?_) (fun h => Bool.noConfusion h) | refine wp_ite (fun h => Bool.noConfusion h) (fun _ => ?_)))
            (conv => arg 2; whnf)
            exact wp_leaf ⟨S2, _, rfl, hI2⟩
          · (repeat ((conv => arg 2; whnf); first | refine wp_ite (fun _ => ?_) (fun h => Bool.noConfusion h) | refine wp_ite (fun h => Bool.noConfusion h) (fun _ => ?_)))
            (conv => arg 2; whnf)
            refine wp_leaf ?_
            show (Tree.leaf Exit.ret _).wp Tryz.prog _ (loopPost _ _ _)
            refine wp_leaf (loop_ret ?_)
            (conv => arg 2; whnf); refine w_ret0 rfl (List.sublist_append_left S2 _) (.inr hE)
        · rintro R1 ⟨S, T, rfl, hS⟩
          (conv => arg 2; whnf)
          refine wp_leaf (loop_next (x.kids.length - (n + 1)) _ _ (by omega) (.cons (.refl _) (.cons (.refl _) (.cons (.refl _) (.cons (.refl _) (.cons (Vle.inc n rfl (by omega)) (.nil _)))))) (List.sublist_append_left _ _) ⟨n + 1, rfl, h, ?_, rfl⟩)
          rw [flat_take hk, ← Nat.add_assoc]
          rw [List.length_map] at hS
          exact hS
      · have h : n = x.kids.length := by have := of_decide_eq_false h; omega
        subst h
        rw [List.take_length] at hI
        (conv => arg 2; whnf)
        refine wp_leaf (loop_exit ?_)
        (conv => arg 2; whnf); refine w_norm0 rfl (List.Sublist.refl _) (.inl ?_)
        rw [List.length_map, List.length_cons, Nat.add_comm]
        exact hI
    · (repeat ((conv => arg 2; whnf); first | refine wp_ite (fun _ => ?_) (fun h => Bool.noConfusion h) | refine wp_ite (fun h => Bool.noConfusion h) (fun _ => ?_)))
      (conv => arg 2; whnf); refine w_ret0 rfl (List.Sublist.refl _) (.inr hE)
end Go.Sv
/- What a node may be; what a condition is. -/
namespace Go.Sv
open Go Go.Proofs

set_option maxRecDepth 100000 in
theorem isop_call (y : Ex) : PCall Tryz.prog 116 [.agg (exC y)] (bV (decide (y.op = 0))) := by
  refine scall_of (live := []) (ords := []) Tryz.func116 rfl (by kernel_rfl) (by kernel_rfl) (Nat.le_of_ble_eq_true rfl) ?_
  (conv => arg 2; whnf); refine w_retp rfl (Vle.eq (cBool ?_))
  rw [Bool.eq_iff_iff]; simp

set_option maxRecDepth 100000 in
theorem indexop_call (l : List Ex) (hl : l.length < 2 ^ 60) : SCall Tryz.prog 130 [exsV l, .fn (.func 116) [] []] [] fun v R' => R' = [] ∧ ∃ i : Int, v = i64V i ∧ decide (0 ≤ i) = l.any (fun k => decide (k.op = 0)) := by
  refine scall_of (live := []) (ords := []) Tryz.func130 rfl (by kernel_rfl) (by kernel_rfl) (Nat.le_of_ble_eq_true rfl) ?_
  (conv => arg 2; whnf); refine wp_loop (fun m fr R => ∃ n : Nat, m = l.length - n ∧ n ≤ l.length ∧ R = [] ∧ (l.take n).any (fun k => decide (k.op = 0)) = false ∧ fr = frL [(0, exsV l), (1, .fn (.func 116) [] []), (7, i64V l.length), (8, i64V n)])
    l.length _ _ (.cons (.refl _) (.cons (.refl _) (.cons (Vle.eq ?_) (.cons (.refl _) (.nil _))))) (List.Sublist.refl _) ⟨0, rfl, Nat.zero_le _, rfl, rfl, rfl⟩ ?_
  · show V.c (.int .i64 (l.map exV).length) = _
    rw [List.length_map]; rfl
  rintro m fr R ⟨n, rfl, hn, rfl, ha, rfl⟩
  (conv => arg 2; whnf); refine wp_ite (fun h => ?_) (fun h => ?_)
  · have h : n < l.length := by have := of_decide_eq_true h; omega
    obtain ⟨y, hy⟩ : ∃ y, l[n]? = some y := ⟨_, List.getElem?_eq_getElem h⟩
    have hm : (l.map exV)[n]? = some (.agg (exC y)) := by rw [List.getElem?_map, hy, ← exV_eq]; rfl
    (conv => arg 2; whnf); refine wp_elem n (.agg (exC y)) rfl hm (Vle.refl _) ?_
    (conv => arg 2; whnf); refine wp_pcall (isop_call y) ?_
    (conv => arg 2; whnf); refine wp_ite (fun h1 => ?_) (fun h1 => ?_)
    · (conv => arg 2; whnf)
      refine wp_leaf (loop_ret ?_)
      (conv => arg 2; whnf); refine w_ret1 rfl (Vle.refl _) (List.Sublist.refl _) ⟨rfl, n, rfl, ?_⟩
      rw [decide_eq_true (by omega : (0 : Int) ≤ n), show l = l.take n ++ y :: l.drop (n + 1) by rw [← drop_at hy, List.take_append_drop]]
      simp [of_decide_eq_true h1]
    · (conv => arg 2; whnf)
      refine wp_leaf (loop_next (l.length - (n + 1)) _ _ (by omega) (.cons (.refl _) (.cons (.refl _) (.cons (.refl _) (.cons (Vle.inc n rfl (by omega)) (.nil _))))) (List.Sublist.refl _) ⟨n + 1, rfl, h, rfl, ?_, rfl⟩)
      rw [List.take_add_one, hy, List.any_append, ha]
      simp [of_decide_eq_false h1]
  · have h : n = l.length := by have := of_decide_eq_false h; omega
    subst h
    rw [List.take_length] at ha
    (conv => arg 2; whnf)
    refine wp_leaf (loop_exit ?_)
    (conv => arg 2; whnf); refine w_ret1 rfl (Vle.refl _) (List.Sublist.refl _) ⟨rfl, -1, rfl, ha.symm⟩

set_option maxRecDepth 100000 in
theorem hasop_call (l : List Ex) (hl : l.length < 2 ^ 60) : PCall Tryz.prog 115 [exsV l, .fn (.func 116) [] []] (bV (l.any (fun k => decide (k.op = 0)))) := by
  refine scall_of (live := []) (ords := []) Tryz.func115 rfl (by kernel_rfl) (by kernel_rfl) (Nat.le_of_ble_eq_true rfl) ?_
  (conv => arg 2; whnf); refine wp_call (indexop_call l hl) ?_
  rintro v R' ⟨rfl, i, rfl, hi⟩
  (conv => arg 2; whnf); refine w_retp rfl (Vle.eq (cBool hi))
end Go.Sv
/- What a node may be. -/
namespace Go.Sv
open Go Go.Proofs

theorem valEqB : structEqB Tryz.prog 35 = true := by kernel_rfl
theorem str_ne (s : List UInt8) : (!((S s).toList == (⟨#[]⟩ : ByteArray).toList)) = !decide (s = []) := congrArg _ nilS
theorem val_eq0 (x : Ex) : (x.val.kind == 0 && (x.val.n == 0 && ((S x.val.s).toList == (⟨#[]⟩ : ByteArray).toList && true))) = decide (x.val = val0) := by
  rw [show ((S x.val.s).toList == (⟨#[]⟩ : ByteArray).toList) = decide (x.val.s = []) from nilS]
  cases h : x.val with
  | mk k n s => rw [Bool.eq_iff_iff]; simp [val0]
theorem val_ne0 (x : Ex) : (!(x.val.kind == 0 && (x.val.n == 0 && ((S x.val.s).toList == (⟨#[]⟩ : ByteArray).toList && true)))) = hasV x := congrArg _ (val_eq0 x)

theorem nodeB_bad {x : Ex} (h : x.op < 1 ∨ 12 < x.op ∨ x.kids.length ≠ kidsN x.op) : nodeB x = false := by rw [nodeB, if_pos h]
theorem nodeB_kid {x : Ex} (h : x.kids.any (fun k => decide (k.op = 0)) = true) : nodeB x = false := by
  rw [nodeB]; split
  · rfl
  · rfl
theorem nodeB_lit {x : Ex} (h : ¬ (x.op < 1 ∨ 12 < x.op ∨ x.kids.length ≠ kidsN x.op)) (h1 : x.kids.any (fun k => decide (k.op = 0)) = false) (h2 : x.op = 1) : nodeB x = (valIs x.val && !hasF x) := by
  rw [nodeB, if_neg h, if_neg (by rw [h1]; simp), if_pos h2]
theorem nodeB_fld {x : Ex} (h : ¬ (x.op < 1 ∨ 12 < x.op ∨ x.kids.length ≠ kidsN x.op)) (h1 : x.kids.any (fun k => decide (k.op = 0)) = false) (h2 : x.op = 2) : nodeB x = (!hasV x && (isNm x.al && isNm x.fd)) := by
  rw [nodeB, if_neg h, if_neg (by rw [h1]; simp), if_neg (by omega), if_pos h2]
theorem nodeB_in {x : Ex} (h : ¬ (x.op < 1 ∨ 12 < x.op ∨ x.kids.length ≠ kidsN x.op)) (h1 : x.kids.any (fun k => decide (k.op = 0)) = false) (h2 : x.op ≠ 1) (h3 : x.op ≠ 2) : nodeB x = (!hasV x && !hasF x) := by
  rw [nodeB, if_neg h, if_neg (by rw [h1]; simp), if_neg h2, if_neg h3]

set_option maxRecDepth 100000 in
theorem isnode_call (x : Ex) (hs : x.val.s.length < 2 ^ 60) (ha : x.al.length < 2 ^ 60) (hf : x.fd.length < 2 ^ 60) (hl : x.kids.length < 2 ^ 60) : PCall Tryz.prog 102 [.agg (exC x)] (bV (nodeB x)) := by
  have hF1 : decide (x.al = []) = false → hasF x = true := fun h => by rw [hasF, h]; rfl
  have hF2 : decide (x.al = []) = true → hasF x = !decide (x.fd = []) := fun h => by rw [hasF, h]; rfl
  have hv := val_ne0 x
  have ha0 := str_ne x.al
  have hf0 := str_ne x.fd
  have fk := kids_call x.op
  have fh := hasop_call x.kids hl
  have fv := valueis_call x.val hs
  have fa := name_call x.al ha
  have ff := name_call x.fd hf
  refine scall_of (live := []) (ords := [(2, [])]) Tryz.func102 rfl (by kernel_rfl) (by kernel_rfl) (Nat.le_of_ble_eq_true rfl) ?_
  (conv => arg 2; whnf); refine wp_need valEqB ?_
  apply wp_joinT
  case h1 =>
    intro rest
    (conv => arg 2; whnf); refine wp_ite (fun h1 => ?_) (fun h1 => ?_)
    · (repeat ((conv => arg 2; whnf); first | refine wp_ite (fun _ => ?_) (fun h => Bool.noConfusion h) | refine wp_ite (fun h => Bool.noConfusion h) (fun _ => ?_)))
      (conv => arg 2; whnf)
      exact wp_cutR (frL [(1, .pt (some 7) (.agg (exC x)) 0), (3, bV (hasV x)), (4, bV (hasF x))]) [] (.cons (.refl _) (.cons (Vle.eq (cBool hv)) (.cons (Vle.eq (cBool (hF1 (by rw [ha0] at h1; simpa using h1)).symm)) (.nil _)))) (List.Sublist.refl _) rest
    · (conv => arg 2; whnf)
      exact wp_cutR (frL [(1, .pt (some 7) (.agg (exC x)) 0), (3, bV (hasV x)), (4, bV (hasF x))]) [] (.cons (.refl _) (.cons (Vle.eq (cBool hv)) (.cons (Vle.eq (cBool (hf0.trans (hF2 (by rw [ha0] at h1; simpa using h1)).symm))) (.nil _)))) (List.Sublist.refl _) rest
  case rest =>
    (conv => arg 2; whnf); refine wp_ite (fun h1 => ?_) (fun h1 => ?_)
    · have h1 : x.op < 1 := of_decide_eq_true h1
      (repeat ((conv => arg 2; whnf); first | refine wp_ite (fun _ => ?_) (fun h => Bool.noConfusion h) | refine wp_ite (fun h => Bool.noConfusion h) (fun _ => ?_)))
      (conv => arg 2; whnf); refine w_retp rfl (Vle.eq (cBool (nodeB_bad (.inl h1)).symm))
    have h1 : ¬ x.op < 1 := of_decide_eq_false h1
    (conv => arg 2; whnf); refine wp_ite (fun h2 => ?_) (fun h2 => ?_)
    · have h2 : 12 < x.op := of_decide_eq_true h2
      (repeat ((conv => arg 2; whnf); first | refine wp_ite (fun _ => ?_) (fun h => Bool.noConfusion h) | refine wp_ite (fun h => Bool.noConfusion h) (fun _ => ?_)))
      (conv => arg 2; whnf); refine w_retp rfl (Vle.eq (cBool (nodeB_bad (.inr (.inl h2))).symm))
    have h2 : ¬ 12 < x.op := of_decide_eq_false h2
    (conv => arg 2; whnf); refine wp_pc fk ?_
    (conv => arg 2; whnf); refine wp_ite (fun h3 => ?_) (fun h3 => ?_)
    · have h3 : x.kids.length ≠ kidsN x.op := by
        intro e
        simp [e] at h3
      (conv => arg 2; whnf); refine w_retp rfl (Vle.eq (cBool (nodeB_bad (.inr (.inr h3))).symm))
    have h3 : x.kids.length = kidsN x.op := by
      simp at h3
      omega
    have hb : ¬ (x.op < 1 ∨ 12 < x.op ∨ x.kids.length ≠ kidsN x.op) := by omega
    (conv => arg 2; whnf); refine wp_pcall fh ?_
    (conv => arg 2; whnf); refine wp_ite (fun h4 => ?_) (fun h4 => ?_)
    · (conv => arg 2; whnf); refine w_retp rfl (Vle.eq (cBool (nodeB_kid h4).symm))
    (conv => arg 2; whnf); refine wp_ite (fun h5 => ?_) (fun h5 => ?_)
    · have h5 : x.op = 1 := by simpa using h5
      (conv => arg 2; whnf); refine wp_pcall fv ?_
      (conv => arg 2; whnf); refine wp_ite (fun h6 => ?_) (fun h6 => ?_)
      · (conv => arg 2; whnf); refine w_retp rfl (Vle.eq (cBool ?_))
        rw [nodeB_lit hb h4 h5, h6]; rfl
      · (conv => arg 2; whnf); refine w_retp rfl (Vle.eq (cBool ?_))
        rw [nodeB_lit hb h4 h5, h6]; rfl
    have h5 : x.op ≠ 1 := by simpa using h5
    (conv => arg 2; whnf); refine wp_ite (fun h6 => ?_) (fun h6 => ?_)
    · have h6 : x.op = 2 := by simpa using h6
      (conv => arg 2; whnf); refine wp_ite (fun h7 => ?_) (fun h7 => ?_)
      · (conv => arg 2; whnf); refine wp_pcall fa ?_
        (conv => arg 2; whnf); refine wp_ite (fun h8 => ?_) (fun h8 => ?_)
        · (conv => arg 2; whnf); refine wp_pcall ff ?_
          (conv => arg 2; whnf); refine w_retp rfl (Vle.eq (cBool ?_))
          rw [nodeB_fld hb h4 h6, h7, h8]; rfl
        · (repeat ((conv => arg 2; whnf); first | refine wp_ite (fun _ => ?_) (fun h => Bool.noConfusion h) | refine wp_ite (fun h => Bool.noConfusion h) (fun _ => ?_)))
          (conv => arg 2; whnf); refine w_retp rfl (Vle.eq (cBool ?_))
          rw [nodeB_fld hb h4 h6, h7, h8]; rfl
      · (repeat ((conv => arg 2; whnf); first | refine wp_ite (fun _ => ?_) (fun h => Bool.noConfusion h) | refine wp_ite (fun h => Bool.noConfusion h) (fun _ => ?_)))
        (conv => arg 2; whnf); refine w_retp rfl (Vle.eq (cBool ?_))
        rw [nodeB_fld hb h4 h6, h7]; rfl
    have h6 : x.op ≠ 2 := by simpa using h6
    (conv => arg 2; whnf); refine wp_ite (fun h7 => ?_) (fun h7 => ?_)
    · (conv => arg 2; whnf); refine w_retp rfl (Vle.eq (cBool ?_))
      rw [nodeB_in hb h4 h5 h6, h7]; rfl
    · (conv => arg 2; whnf); refine w_retp rfl (Vle.eq (cBool ?_))
      rw [nodeB_in hb h4 h5 h6, h7]; rfl
end Go.Sv
/- What a condition is. -/
namespace Go.Sv
open Go Go.Proofs

/-- One result, in a cell. -/
theorem w_ret1c {P : Program} {R : List Res} {fn : Func} {fr : Fr} {x : Tmp} {ty : TypeId} {cs : List V} {v a : V} {sh : Option Nat} (bl off i : Nat) (h : fn.results.toList = [.cell x ty]) (hx : fr x = .loc bl off) (hsh : shapeOf P ty = some sh)
    (hR : R[i]? = some (.obj bl cs)) (hp : partOf sh cs off = some v) (ha : Vle v a) : (Tree.leaf .ret fr).wp P R (Ends P fn fun u _ => u = a) :=
  ⟨.inr rfl, [v], a, [], by rw [h]; exact ⟨bl, off, sh, i, cs, v, _, hx, hsh, hR, hp, rfl, rfl⟩, UpdV.vle ha (List.nil_sublist _), rfl⟩

/-- What is bounded in a node. -/
def NodeOk (x : Ex) : Prop := x.val.s.length < 2 ^ 60 ∧ x.al.length < 2 ^ 60 ∧ x.fd.length < 2 ^ 60 ∧ x.kids.length < 2 ^ 60
theorem nodes_ok : ∀ {k : Nat} {x z : Ex}, ExOk k x → z ∈ nodesN k x → NodeOk z
  | 0, _, _, _, hz => by simp [nodesN] at hz
  | k + 1, x, z, h, hz => by
    by_cases h0 : x.op = 0
    · rw [nodesN_op h0] at hz; cases hz
    · rw [nodesN_kids h0, List.mem_cons] at hz
      rcases hz with rfl | hz
      · exact ⟨h.1, h.2.1, h.2.2.1, h.2.2.2.1⟩
      · obtain ⟨y, hy, hz⟩ := List.mem_flatMap.1 hz
        exact nodes_ok (h.2.2.2.2 y hy) hz
theorem isExB_deep {x : Ex} (h : 5 < depthN 20 x) : isExB x = false := by rw [isExB, decide_eq_false (by omega : ¬ depthN 20 x ≤ 5)]; simp
theorem isExB_many {x : Ex} (h : 24 < (nodesN 20 x).length) : isExB x = false := by rw [isExB, decide_eq_false (by omega : ¬ (nodesN 20 x).length ≤ 24)]; simp
theorem isExB_bad {x z : Ex} (hz : z ∈ nodesN 20 x) (h : nodeB z = false) : isExB x = false := by
  have : (nodesN 20 x).all nodeB = false := by rw [List.all_eq_false]; exact ⟨z, hz, by simp [h]⟩
  rw [isExB, this]; simp
theorem isExB_ok {x : Ex} (h1 : depthN 20 x ≤ 5) (h2 : (nodesN 20 x).length ≤ 24) (h3 : (nodesN 20 x).all nodeB = true) : isExB x = decide (0 < (nodesN 20 x).length) := by
  rw [isExB, decide_eq_true h1, decide_eq_true h2, h3]; simp

set_option maxRecDepth 100000 in
theorem isexpr_call (x : Ex) (hok : ExOk 20 x) : PCall Tryz.prog 78 [.agg (exC x)] (bV (isExB x)) := by
  have fd := Depth_call x hok
  rw [exV_eq] at fd
  have hit := nodes_iter 20 x 1 rfl hok
  refine scall_of (live := []) (ords := []) Tryz.func78 rfl (by kernel_rfl) (by kernel_rfl) (Nat.le_of_ble_eq_true rfl) ?_
  (conv => arg 2; whnf); refine wp_allocE [bV false] rfl fun b => ?_
  (conv => arg 2; whnf); refine wp_pcall fd ?_
  (conv => arg 2; whnf); refine wp_ite (fun h1 => ?_) (fun h1 => ?_)
  · have h1 : 5 < depthN 20 x := by have := of_decide_eq_true h1; omega
    (conv => arg 2; whnf); refine wp_storeE 0 0 [bV false] rfl rfl (VleL.refl _) (Nat.le_refl _) rfl (R' := [.obj b [bV false]]) rfl ?_
    (conv => arg 2; whnf); refine w_ret1c b 0 0 rfl rfl rfl rfl rfl (Vle.eq (cBool (isExB_deep h1).symm))
  have h1 : depthN 20 x ≤ 5 := by have := of_decide_eq_false h1; omega
  (conv => arg 2; whnf); refine wp_allocE [i64V 0] rfl fun c => ?_
  (conv => arg 2; whnf); refine wp_storeE 1 0 [i64V 0] rfl rfl (VleL.refl _) (Nat.le_refl _) rfl (R' := [.obj b [bV false], .obj c [i64V 0]]) rfl ?_
  (conv => arg 2; whnf); refine wp_pcall (nodes_call x 1) ?_
  (conv => arg 2; whnf); refine wp_range hit (fun i R' => ∃ T, R' = .obj b [bV false] :: .obj c [i64V (i : Nat)] :: T ∧ ((nodesN 20 x).take i).all nodeB = true ∧ i ≤ 24) ⟨[], rfl, rfl, Nat.zero_le _⟩ ?_ ?_ ?_
  · intro i args hi
    rw [List.getElem?_map, Option.map_eq_some_iff] at hi
    obtain ⟨z, _, rfl⟩ := hi
    rfl
  · rintro i args R1 hi ⟨T, rfl, hT, hi24⟩
    rw [List.getElem?_map, Option.map_eq_some_iff] at hi
    obtain ⟨z, hz, rfl⟩ := hi
    have hm := List.mem_of_getElem? hz
    have hlt := (List.getElem?_eq_some_iff.1 hz).1
    have hzo := nodes_ok hok hm
    have hn := isnode_call z hzo.1 hzo.2.1 hzo.2.2.1 hzo.2.2.2
    have hw : IntKind.i64.wrap ((i : Int) + 1) = ((i + 1 : Nat) : Int) := wadd (by omega) (by omega) (by omega)
    (conv => arg 2; whnf); refine wp_allocE exZ rfl fun d => ?_
    (conv => arg 2; whnf); refine wp_storeE (cs := exZ) (T.length + 2) 0 (exC z) (by simp) rfl (VleL.refl _) (Nat.le_refl _) rfl (R' := .obj b [bV false] :: .obj c [i64V (i : Nat)] :: (T ++ [.obj d (exC z)])) (by simp [splice_ex]) ?_
    (conv => arg 2; whnf); refine wp_load (cs := [i64V (i : Nat)]) 1 rfl rfl ?_
    (conv => arg 2; whnf); refine wp_storeE (cs := [i64V (i : Nat)]) 1 0 [i64V ((i + 1 : Nat) : Int)] rfl rfl (.cons (Vle.eq (cI64 hw)) .nil) (Nat.le_refl _) rfl (R' := .obj b [bV false] :: .obj c [i64V ((i + 1 : Nat) : Int)] :: (T ++ [.obj d (exC z)])) rfl ?_
    (conv => arg 2; whnf); refine wp_load (cs := [i64V ((i + 1 : Nat) : Int)]) 1 rfl rfl ?_
    (conv => arg 2; whnf); refine wp_ite (fun h2 => ?_) (fun h2 => ?_)
    · have h2 : 24 < (nodesN 20 x).length := by have := of_decide_eq_true h2; omega
      (repeat ((conv => arg 2; whnf); first | refine wp_ite (fun _ => ?_) (fun h => Bool.noConfusion h) | refine wp_ite (fun h => Bool.noConfusion h) (fun _ => ?_)))
      (conv => arg 2; whnf); refine wp_storeE (cs := [bV false]) 0 0 [bV false] rfl rfl (VleL.refl _) (Nat.le_refl _) rfl (R' := .obj b [bV false] :: .obj c [i64V ((i + 1 : Nat) : Int)] :: (T ++ [.obj d (exC z)])) rfl ?_
      (conv => arg 2; whnf)
      refine wp_leaf ?_
      show (Tree.leaf Exit.ret _).wp Tryz.prog _ (Ends _ _ _)
      exact w_ret1c b 0 0 rfl rfl rfl rfl rfl (Vle.eq (cBool (isExB_many h2).symm))
    have h2 : i + 1 ≤ 24 := by have := of_decide_eq_false h2; omega
    (conv => arg 2; whnf); refine wp_load (cs := exC z) (T.length + 2) (by simp) rfl ?_
    (conv => arg 2; whnf); refine wp_pcall hn ?_
    (conv => arg 2; whnf); refine wp_ite (fun h3 => ?_) (fun h3 => ?_)
    · have h3 : nodeB z = false := by simpa using h3
      (conv => arg 2; whnf); refine wp_storeE (cs := [bV false]) 0 0 [bV false] rfl rfl (VleL.refl _) (Nat.le_refl _) rfl (R' := .obj b [bV false] :: .obj c [i64V ((i + 1 : Nat) : Int)] :: (T ++ [.obj d (exC z)])) rfl ?_
      (conv => arg 2; whnf)
      refine wp_leaf ?_
      show (Tree.leaf Exit.ret _).wp Tryz.prog _ (Ends _ _ _)
      exact w_ret1c b 0 0 rfl rfl rfl rfl rfl (Vle.eq (cBool (isExB_bad hm h3).symm))
    · have h3 : nodeB z = true := by simpa using h3
      (conv => arg 2; whnf)
      refine wp_leaf ⟨_, rfl, ?_, h2⟩
      rw [List.take_add_one, hz, List.all_append, hT]
      simp [h3]
  · rintro R1 ⟨T, rfl, hT, hi24⟩
    rw [List.length_map] at hT hi24 ⊢
    rw [List.take_length] at hT
    (conv => arg 2; whnf); refine wp_load (cs := [i64V ((nodesN 20 x).length : Nat)]) 1 rfl rfl ?_
    (conv => arg 2; whnf); refine wp_storeE (cs := [bV false]) 0 0 [bV (isExB x)] rfl rfl (.cons (Vle.eq (cBool ?_)) .nil) (Nat.le_refl _) rfl (R' := .obj b [bV (isExB x)] :: .obj c [i64V ((nodesN 20 x).length : Nat)] :: T) rfl ?_
    · rw [isExB_ok h1 hi24 hT]
      exact decide_eq_decide.2 (by omega)
    (conv => arg 2; whnf); refine w_ret1c b 0 0 rfl rfl rfl rfl rfl (Vle.refl _)
end Go.Sv
/- The nodes of a condition, as the reference has them. -/
namespace Go.Sv
open Go Go.Proofs

theorem wp_made {P : Program} {R : List Res} {Q : Exit → Fr → List Res → Prop} {sh : Option Nat} {xs : List V} {k : V → Tree} (h : ∀ t, (k (.sl sh xs (.t t))).wp P (R ++ [.tok t sh]) Q) : (Tree.made sh xs k).wp P R Q := h
theorem oneV_sl (sh : Option Nat) (xs : List V) (tk : Tk) : oneV (.sl sh xs tk) = true := rfl
theorem okE_ex (l : List Ex) : ∀ y ∈ l.map exV, okE (some 7) y := by
  intro y hy
  obtain ⟨x, _, rfl⟩ := List.mem_map.1 hy
  refine ⟨exC x, exV_eq x, rfl, ?_⟩
  intro c hc
  simp only [exC, List.mem_cons, List.not_mem_nil, or_false] at hc
  rcases hc with rfl | rfl | rfl | rfl | rfl | rfl | rfl <;> rfl
theorem flat_pos {α β : Type} {f : α → List β} (l : List α) (n : Nat) : ((l.take n).flatMap f).length ≤ (l.flatMap f).length := by
  conv => rhs; rw [← List.take_append_drop n l, List.flatMap_append, List.length_append]
  omega
theorem exsV_nil {l : List Ex} (h : l = []) : Vle (.sl none [] .zero) (exsV l) := by subst h; exact Vle.nil _ _ _

set_option maxRecDepth 100000 in
theorem refnodes_call : ∀ (k : Nat) (x : Ex), k < 2 ^ 60 → ExOk k x → (nodesN k x).length ≤ 2 ^ 40 → PCall Tryz.prog 81 [.agg (exC x), i64V k] (exsV (nodesN k x)) := by
  intro k
  induction k with
  | zero =>
    intro x _ _ _
    refine scall_of (live := [15]) (ords := []) Tryz.func81 rfl (by kernel_rfl) (by kernel_rfl) (Nat.le_of_ble_eq_true rfl) ?_
    (conv => arg 2; whnf); refine wp_ite (fun h1 => ?_) (fun h1 => ?_)
    · (repeat ((conv => arg 2; whnf); first | refine wp_ite (fun _ => ?_) (fun h => Bool.noConfusion h) | refine wp_ite (fun h => Bool.noConfusion h) (fun _ => ?_)))
      (conv => arg 2; whnf); refine w_retp rfl (exsV_nil rfl)
    · (repeat ((conv => arg 2; whnf); first | refine wp_ite (fun _ => ?_) (fun h => Bool.noConfusion h) | refine wp_ite (fun h => Bool.noConfusion h) (fun _ => ?_)))
      (conv => arg 2; whnf); refine w_retp rfl (exsV_nil rfl)
  | succ k ih =>
    intro x hk hok hn
    refine scall_of (live := [15]) (ords := []) Tryz.func81 rfl (by kernel_rfl) (by kernel_rfl) (Nat.le_of_ble_eq_true rfl) ?_
    (conv => arg 2; whnf); refine wp_ite (fun h1 => ?_) (fun h1 => ?_)
    · have h1 : x.op = 0 := by simpa using h1
      (repeat ((conv => arg 2; whnf); first | refine wp_ite (fun _ => ?_) (fun h => Bool.noConfusion h) | refine wp_ite (fun h => Bool.noConfusion h) (fun _ => ?_)))
      (conv => arg 2; whnf); refine w_retp rfl (exsV_nil (nodesN_op h1))
    have h1 : x.op ≠ 0 := by simpa using h1
    (conv => arg 2; whnf); refine wp_ite (fun h2 => ?_) (fun h2 => ?_)
    · have h2 : ((k + 1 : Nat) : Int) = 0 := by simpa using h2
      omega
    rw [nodesN_kids h1] at hn ⊢
    rw [List.length_cons] at hn
    have hl := hok.2.2.2.1
    (conv => arg 2; whnf); refine wp_made fun t => ?_
    (conv => arg 2; whnf); refine wp_loop (fun m fr R => ∃ n t, m = x.kids.length - n ∧ n ≤ x.kids.length ∧ R = [.tok t (some 7)] ∧ fr = frL [(1, i64V (k + 1 : Nat)), (2, .pt (some 7) (.agg (exC x)) 0), (5, .sl (some 7) ((x :: (x.kids.take n).flatMap (nodesN k)).map exV) (.t t)), (6, i64V (n : Nat))])
      x.kids.length _ _ (.cons (.refl _) (.cons (.refl _) (.cons (Vle.of (.sl (some 7) [.agg (exC x)] (.t t)) rfl ?_) (.cons (.refl _) (.nil _))))) (List.Sublist.refl _) ⟨0, t, rfl, Nat.zero_le _, rfl, rfl⟩ ?_
    · rw [← exV_eq]; rfl
    rintro m fr R ⟨n, t, rfl, hn2, rfl, rfl⟩
    (conv => arg 2; whnf); refine wp_ite (fun h => ?_) (fun h => ?_)
    · have h : n < x.kids.length := by
        have := of_decide_eq_true h
        rw [List.length_map] at this; omega
      obtain ⟨y, hy⟩ : ∃ y, x.kids[n]? = some y := ⟨_, List.getElem?_eq_getElem h⟩
      have hft := flat_take (f := nodesN k) hy
      have hle := flat_pos (f := nodesN k) x.kids (n + 1)
      have hc := ih y (by omega) (exOk_kid hok hy) (by omega)
      (conv => arg 2; whnf); refine wp_elem n (.agg (exC y)) rfl (kid_at hy) (Vle.refl _) ?_
      (conv => arg 2; whnf); refine wp_pcallV (.cons (.refl _) (.cons (Vle.i64 _ rfl (wsub (by omega : ((k + 1 : Nat) : Int) - 1 = (k : Int)) (by omega) (by omega))) .nil)) hc ?_
      (conv => arg 2; whnf); refine wp_append_tok 0 rfl (okE_ex (nodesN k y)) ?_ (fun t' => ?_)
      · rw [List.length_map, List.length_map, List.length_cons]
        show (_ + _) * 96 ≤ _
        omega
      (conv => arg 2; whnf)
      refine wp_leaf (loop_next (x.kids.length - (n + 1)) _ _ (by omega) (.cons (.refl _) (.cons (.refl _) (.cons (Vle.of (.sl (some 7) ((x :: (x.kids.take n).flatMap (nodesN k)).map exV ++ (nodesN k y).map exV) (.t t')) rfl ?_) (.cons (Vle.inc n rfl (by omega)) (.nil _))))) (List.Sublist.refl _) ⟨n + 1, t', rfl, h, rfl, rfl⟩)
      rw [List.take_add_one, hy, List.flatMap_append, ← List.map_append]
      simp
    · have h : n = x.kids.length := by
        have := of_decide_eq_false h
        rw [List.length_map] at this; omega
      subst h
      (conv => arg 2; whnf)
      refine wp_leaf (loop_exit ?_)
      (conv => arg 2; whnf); refine w_retp rfl ?_
      rw [List.take_length]
      exact Vle.sl _ _ _

set_option maxRecDepth 100000 in
theorem refNodes_call (x : Ex) (hok : ExOk 20 x) (hn : (nodesN 20 x).length ≤ 2 ^ 40) : PCall Tryz.prog 56 [.agg (exC x)] (exsV (nodesN 20 x)) := by
  have hc := refnodes_call 20 x (by omega) hok hn
  refine scall_of (live := []) (ords := []) Tryz.func56 rfl (by kernel_rfl) (by kernel_rfl) (Nat.le_of_ble_eq_true rfl) ?_
  (conv => arg 2; whnf); refine wp_pcall hc ?_
  (conv => arg 2; whnf); refine w_retp rfl (Vle.refl _)
end Go.Sv
/- What a value is, as the reference has it. -/
namespace Go.Sv
open Go Go.Proofs

set_option maxRecDepth 100000 in
theorem plain_call (s : List UInt8) (hs : s.length < 2 ^ 60) : PCall Tryz.prog 103 [str s] (bV (isTextB s)) := by
  refine scall_of (live := []) (ords := []) Tryz.func103 rfl (by kernel_rfl) (by kernel_rfl) (Nat.le_of_ble_eq_true rfl) ?_
  (conv => arg 2; whnf); refine wp_loop (fun m fr R => ∃ n : Nat, m = s.length - n ∧ n ≤ s.length ∧ R = [] ∧ (s.take n).all okCh = true ∧ fr = frL [(0, str s), (3, i64V n)])
    s.length _ _ (.cons (.refl _) (.cons (.refl _) (.nil _))) (List.Sublist.refl _) ⟨0, rfl, Nat.zero_le _, rfl, rfl, rfl⟩ ?_
  rintro m fr R ⟨n, rfl, hn, rfl, ha, rfl⟩
  (conv => arg 2; whnf); refine wp_ite (fun h => ?_) (fun h => ?_)
  · have h : n < s.length := by have := of_decide_eq_true h; rw [S_size] at this; omega
    obtain ⟨c, hc⟩ : ∃ c, s[n]? = some c := ⟨_, List.getElem?_eq_getElem h⟩
    have hb : byteAt (S s) (Int.toNat (n : Int)) = c := byte_at hc
    have hsplit : s = s.take n ++ c :: s.drop (n + 1) := by rw [← drop_at hc, List.take_append_drop]
    (conv => arg 2; whnf); refine wp_need (by rw [S_size]; omega) ?_
    rw [hb]
    (conv => arg 2; whnf); refine wp_ite (fun h1 => ?_) (fun h1 => ?_)
    · have h1 : c.toNat < 32 := by have := of_decide_eq_true h1; omega
      (repeat ((conv => arg 2; whnf); first | refine wp_ite (fun _ => ?_) (fun h => Bool.noConfusion h) | refine wp_ite (fun h => Bool.noConfusion h) (fun _ => ?_)))
      (conv => arg 2; whnf)
      refine wp_leaf (loop_ret ?_)
      (conv => arg 2; whnf); refine w_retp rfl (Vle.eq (cBool ?_))
      rw [hsplit, isTextB]
      have : okCh c = false := by rw [okCh, decide_eq_false (by omega : ¬ 32 ≤ c.toNat), Bool.false_and]
      simp [this]
    · have h1 : 32 ≤ c.toNat := by have := of_decide_eq_false h1; omega
      (conv => arg 2; whnf); refine wp_need (by rw [S_size]; omega) ?_
      rw [hb]
      (conv => arg 2; whnf); refine wp_ite (fun h2 => ?_) (fun h2 => ?_)
      · have h2 : 126 < c.toNat := by have := of_decide_eq_true h2; omega
        (repeat ((conv => arg 2; whnf); first | refine wp_ite (fun _ => ?_) (fun h => Bool.noConfusion h) | refine wp_ite (fun h => Bool.noConfusion h) (fun _ => ?_)))
        (conv => arg 2; whnf)
        refine wp_leaf (loop_ret ?_)
        (conv => arg 2; whnf); refine w_retp rfl (Vle.eq (cBool ?_))
        rw [hsplit, isTextB]
        have : okCh c = false := by rw [okCh, decide_eq_false (by omega : ¬ c.toNat ≤ 126), Bool.and_false]
        simp [this]
      · have h2 : c.toNat ≤ 126 := by have := of_decide_eq_false h2; omega
        (repeat ((conv => arg 2; whnf); first | refine wp_ite (fun _ => ?_) (fun h => Bool.noConfusion h) | refine wp_ite (fun h => Bool.noConfusion h) (fun _ => ?_)))
        (conv => arg 2; whnf)
        refine wp_leaf (loop_next (s.length - (n + 1)) _ _ (by omega) (.cons (.refl _) (.cons (Vle.inc n rfl (by omega)) (.nil _))) (List.Sublist.refl _) ⟨n + 1, rfl, h, rfl, ?_, rfl⟩)
        rw [List.take_add_one, hc, List.all_append, ha]
        have : okCh c = true := by rw [okCh, decide_eq_true h1, decide_eq_true h2]; rfl
        simp [this]
  · have h : n = s.length := by have := of_decide_eq_false h; rw [S_size] at this; omega
    subst h
    rw [List.take_length] at ha
    (repeat ((conv => arg 2; whnf); first | refine wp_ite (fun _ => ?_) (fun h => Bool.noConfusion h) | refine wp_ite (fun h => Bool.noConfusion h) (fun _ => ?_)))
    (conv => arg 2; whnf)
    refine wp_leaf (loop_exit ?_)
    (conv => arg 2; whnf); refine w_retp rfl (Vle.eq (cBool ?_))
    rw [isTextB, ha, Bool.true_and]
    exact decide_eq_decide.2 (by rw [S_size]; omega)

set_option maxRecDepth 100000 in
theorem refvalue_call (v : Val) (hs : v.s.length < 2 ^ 60) : PCall Tryz.prog 79 [valV v] (bV (valIs v)) := by
  obtain ⟨k, n, s⟩ := v
  refine scall_of (live := []) (ords := []) Tryz.func79 rfl (by kernel_rfl) (by kernel_rfl) (Nat.le_of_ble_eq_true rfl) ?_
  (conv => arg 2; whnf); refine wp_ite (fun h1 => ?_) (fun h1 => ?_)
  · have h1 : k = 1 := by simpa using h1
    (conv => arg 2; whnf); refine w_retp rfl (Vle.eq (cBool ?_))
    rw [valIs, if_pos h1]; exact nilS
  have h1 : k ≠ 1 := by simpa using h1
  (conv => arg 2; whnf); refine wp_ite (fun h2 => ?_) (fun h2 => ?_)
  · have h2 : k = 2 := by simpa using h2
    (conv => arg 2; whnf); refine wp_ite (fun h3 => ?_) (fun h3 => ?_)
    · have h3 : n = 0 := by simpa using h3
      (conv => arg 2; whnf); refine wp_pcall (plain_call s hs) ?_
      (conv => arg 2; whnf); refine w_retp rfl (Vle.eq (cBool ?_))
      rw [valIs, if_neg h1, if_pos h2, decide_eq_true h3]; rfl
    · have h3 : n ≠ 0 := by simpa using h3
      (conv => arg 2; whnf); refine w_retp rfl (Vle.eq (cBool ?_))
      rw [valIs, if_neg h1, if_pos h2, decide_eq_false h3]; rfl
  have h2 : k ≠ 2 := by simpa using h2
  (conv => arg 2; whnf); refine wp_ite (fun h3 => ?_) (fun h3 => ?_)
  · have h3 : k = 3 := by simpa using h3
    (conv => arg 2; whnf); refine wp_ite (fun h4 => ?_) (fun h4 => ?_)
    · have h4 : n = 0 := by simpa using h4
      (repeat ((conv => arg 2; whnf); first | refine wp_ite (fun _ => ?_) (fun h => Bool.noConfusion h) | refine wp_ite (fun h => Bool.noConfusion h) (fun _ => ?_)))
      (conv => arg 2; whnf); refine w_retp rfl (Vle.eq (cBool ?_))
      rw [valIs, if_neg h1, if_neg h2, if_pos h3, decide_eq_true h4]; exact nilS
    · have h4 : n ≠ 0 := by simpa using h4
      (conv => arg 2; whnf); refine wp_ite (fun h5 => ?_) (fun h5 => ?_)
      · have h5 : n = 1 := by simpa using h5
        (conv => arg 2; whnf); refine w_retp rfl (Vle.eq (cBool ?_))
        rw [valIs, if_neg h1, if_neg h2, if_pos h3, decide_eq_false h4, decide_eq_true h5]; exact nilS
      · have h5 : n ≠ 1 := by simpa using h5
        (conv => arg 2; whnf); refine w_retp rfl (Vle.eq (cBool ?_))
        rw [valIs, if_neg h1, if_neg h2, if_pos h3, decide_eq_false h4, decide_eq_false h5]; rfl
  have h3 : k ≠ 3 := by simpa using h3
  (conv => arg 2; whnf); refine w_retp rfl (Vle.eq (cBool ?_))
  rw [valIs, if_neg h1, if_neg h2, if_neg h3]
end Go.Sv
/- What a condition is, as the reference has it. -/
namespace Go.Sv
open Go Go.Proofs

theorem str_eq (s : List UInt8) : ((S s).toList == (⟨#[]⟩ : ByteArray).toList) = decide (s = []) := nilS
theorem val_e0 (x : Ex) : (x.val.kind == 0 && (x.val.n == 0 && ((S x.val.s).toList == (⟨#[]⟩ : ByteArray).toList && true))) = !hasV x := by
  rw [val_eq0, hasV]; simp
theorem shapedN_bad {k : Nat} {x : Ex} (h : x.op < 1 ∨ 12 < x.op ∨ x.kids.length ≠ kidsN x.op) : shapedN k x = false := by
  cases k with
  | zero => rfl
  | succ k => rw [shapedN, if_pos h]
theorem shapedN_lit {k : Nat} {x : Ex} (h : ¬ (x.op < 1 ∨ 12 < x.op ∨ x.kids.length ≠ kidsN x.op)) (h2 : x.op = 1) : shapedN (k + 1) x = (valIs x.val && !hasF x) := by
  rw [shapedN, if_neg h, if_pos h2]
theorem shapedN_fld {k : Nat} {x : Ex} (h : ¬ (x.op < 1 ∨ 12 < x.op ∨ x.kids.length ≠ kidsN x.op)) (h2 : x.op = 2) : shapedN (k + 1) x = (!hasV x && (isNm x.al && isNm x.fd)) := by
  rw [shapedN, if_neg h, if_neg (by omega), if_pos h2]
theorem shapedN_in {k : Nat} {x : Ex} (h : ¬ (x.op < 1 ∨ 12 < x.op ∨ x.kids.length ≠ kidsN x.op)) (h2 : x.op ≠ 1) (h3 : x.op ≠ 2) : shapedN (k + 1) x = (x.kids.all (shapedN k) && (!hasV x && !hasF x)) := by
  rw [shapedN, if_neg h, if_neg h2, if_neg h3]

set_option maxRecDepth 100000 in
theorem refshaped_call : ∀ (k : Nat) (x : Ex) (at_ : Nat), at_ + k = 6 → ExOk (k + 1) x → PCall Tryz.prog 55 [.agg (exC x), i64V at_] (bV (shapedN k x)) := by
  intro k
  induction k with
  | zero =>
    intro x at_ hat hok
    have fk := refkids_call x.op
    refine scall_of (live := []) (ords := []) Tryz.func55 rfl (by kernel_rfl) (by kernel_rfl) (Nat.le_of_ble_eq_true rfl) ?_
    (conv => arg 2; whnf); refine wp_ite (fun h1 => ?_) (fun h1 => ?_)
    · (repeat ((conv => arg 2; whnf); first | refine wp_ite (fun _ => ?_) (fun h => Bool.noConfusion h) | refine wp_ite (fun h => Bool.noConfusion h) (fun _ => ?_)))
      (conv => arg 2; whnf); refine w_retp rfl (.refl _)
    (conv => arg 2; whnf); refine wp_ite (fun h2 => ?_) (fun h2 => ?_)
    · (repeat ((conv => arg 2; whnf); first | refine wp_ite (fun _ => ?_) (fun h => Bool.noConfusion h) | refine wp_ite (fun h => Bool.noConfusion h) (fun _ => ?_)))
      (conv => arg 2; whnf); refine w_retp rfl (.refl _)
    (conv => arg 2; whnf); refine wp_pc fk ?_
    (conv => arg 2; whnf); refine wp_ite (fun h3 => ?_) (fun h3 => ?_)
    · (repeat ((conv => arg 2; whnf); first | refine wp_ite (fun _ => ?_) (fun h => Bool.noConfusion h) | refine wp_ite (fun h => Bool.noConfusion h) (fun _ => ?_)))
      (conv => arg 2; whnf); refine w_retp rfl (.refl _)
    (conv => arg 2; whnf); refine wp_ite (fun h4 => ?_) (fun h4 => ?_)
    · (conv => arg 2; whnf); refine w_retp rfl (.refl _)
    · have h4 : ¬ (5 < (at_ : Int)) := of_decide_eq_false h4
      omega
  | succ k ih =>
    intro x at_ hat hok
    have fk := refkids_call x.op
    have fv := refvalue_call x.val hok.1
    have fa := refname_call x.al hok.2.1
    have ff := refname_call x.fd hok.2.2.1
    have hl := hok.2.2.2.1
    have hv := val_e0 x
    have ha0 := str_eq x.al
    have hf0 := str_eq x.fd
    have hF1 : decide (x.al = []) = false → (!hasF x) = false := fun h => by rw [hasF, h]; rfl
    have hF2 : decide (x.al = []) = true → (!hasF x) = decide (x.fd = []) := fun h => by rw [hasF, h]; simp
    refine scall_of (live := []) (ords := [(4, [])]) Tryz.func55 rfl (by kernel_rfl) (by kernel_rfl) (Nat.le_of_ble_eq_true rfl) ?_
    (conv => arg 2; whnf); refine wp_ite (fun h1 => ?_) (fun h1 => ?_)
    · have h1 : x.op < 1 := of_decide_eq_true h1
      (repeat ((conv => arg 2; whnf); first | refine wp_ite (fun _ => ?_) (fun h => Bool.noConfusion h) | refine wp_ite (fun h => Bool.noConfusion h) (fun _ => ?_)))
      (conv => arg 2; whnf); refine w_retp rfl (Vle.eq (cBool (shapedN_bad (.inl h1)).symm))
    have h1 : ¬ x.op < 1 := of_decide_eq_false h1
    (conv => arg 2; whnf); refine wp_ite (fun h2 => ?_) (fun h2 => ?_)
    · have h2 : 12 < x.op := of_decide_eq_true h2
      (repeat ((conv => arg 2; whnf); first | refine wp_ite (fun _ => ?_) (fun h => Bool.noConfusion h) | refine wp_ite (fun h => Bool.noConfusion h) (fun _ => ?_)))
      (conv => arg 2; whnf); refine w_retp rfl (Vle.eq (cBool (shapedN_bad (.inr (.inl h2))).symm))
    have h2 : ¬ 12 < x.op := of_decide_eq_false h2
    (conv => arg 2; whnf); refine wp_pc fk ?_
    (conv => arg 2; whnf); refine wp_ite (fun h3 => ?_) (fun h3 => ?_)
    · have h3 : x.kids.length ≠ kidsN x.op := by
        intro e
        simp [e] at h3
      (repeat ((conv => arg 2; whnf); first | refine wp_ite (fun _ => ?_) (fun h => Bool.noConfusion h) | refine wp_ite (fun h => Bool.noConfusion h) (fun _ => ?_)))
      (conv => arg 2; whnf); refine w_retp rfl (Vle.eq (cBool (shapedN_bad (.inr (.inr h3))).symm))
    have h3 : x.kids.length = kidsN x.op := by
      simp at h3
      omega
    have hb : ¬ (x.op < 1 ∨ 12 < x.op ∨ x.kids.length ≠ kidsN x.op) := by omega
    (conv => arg 2; whnf); refine wp_ite (fun h4 => ?_) (fun h4 => ?_)
    · have h4 : 5 < (at_ : Int) := of_decide_eq_true h4
      omega
    (conv => arg 2; whnf); refine wp_need valEqB ?_
    apply wp_joinT
    case h1 =>
      intro rest
      (conv => arg 2; whnf); refine wp_ite (fun h5 => ?_) (fun h5 => ?_)
      · (conv => arg 2; whnf)
        exact wp_cutR (frL [(1, i64V at_), (2, .pt (some 7) (.agg (exC x)) 0), (5, bV (!hasV x)), (6, bV (!hasF x))]) [] (.cons (.refl _) (.cons (.refl _) (.cons (Vle.eq (cBool hv)) (.cons (Vle.eq (cBool (hf0.trans (hF2 (ha0.symm.trans h5)).symm))) (.nil _))))) (List.Sublist.refl _) rest
      · (repeat ((conv => arg 2; whnf); first | refine wp_ite (fun _ => ?_) (fun h => Bool.noConfusion h) | refine wp_ite (fun h => Bool.noConfusion h) (fun _ => ?_)))
        (conv => arg 2; whnf)
        exact wp_cutR (frL [(1, i64V at_), (2, .pt (some 7) (.agg (exC x)) 0), (5, bV (!hasV x)), (6, bV (!hasF x))]) [] (.cons (.refl _) (.cons (.refl _) (.cons (Vle.eq (cBool hv)) (.cons (Vle.eq (cBool (hF1 (ha0.symm.trans h5)).symm)) (.nil _))))) (List.Sublist.refl _) rest
    case rest =>
      (conv => arg 2; whnf); refine wp_ite (fun h5 => ?_) (fun h5 => ?_)
      · have h5 : x.op = 1 := by simpa using h5
        (conv => arg 2; whnf); refine wp_pcall fv ?_
        (conv => arg 2; whnf); refine wp_ite (fun h6 => ?_) (fun h6 => ?_)
        · (conv => arg 2; whnf); refine w_retp rfl (Vle.eq (cBool ?_))
          rw [shapedN_lit hb h5, h6]; rfl
        · (conv => arg 2; whnf); refine w_retp rfl (Vle.eq (cBool ?_))
          rw [shapedN_lit hb h5, h6]; rfl
      have h5 : x.op ≠ 1 := by simpa using h5
      (conv => arg 2; whnf); refine wp_ite (fun h6 => ?_) (fun h6 => ?_)
      · have h6 : x.op = 2 := by simpa using h6
        (conv => arg 2; whnf); refine wp_ite (fun h7 => ?_) (fun h7 => ?_)
        · (conv => arg 2; whnf); refine wp_pcall fa ?_
          (conv => arg 2; whnf); refine wp_ite (fun h8 => ?_) (fun h8 => ?_)
          · (conv => arg 2; whnf); refine wp_pcall ff ?_
            (conv => arg 2; whnf); refine w_retp rfl (Vle.eq (cBool ?_))
            rw [shapedN_fld hb h6, h7, h8]; rfl
          · (repeat ((conv => arg 2; whnf); first | refine wp_ite (fun _ => ?_) (fun h => Bool.noConfusion h) | refine wp_ite (fun h => Bool.noConfusion h) (fun _ => ?_)))
            (conv => arg 2; whnf); refine w_retp rfl (Vle.eq (cBool ?_))
            rw [shapedN_fld hb h6, h7, h8]; rfl
        · (repeat ((conv => arg 2; whnf); first | refine wp_ite (fun _ => ?_) (fun h => Bool.noConfusion h) | refine wp_ite (fun h => Bool.noConfusion h) (fun _ => ?_)))
          (conv => arg 2; whnf); refine w_retp rfl (Vle.eq (cBool ?_))
          rw [shapedN_fld hb h6, h7]; rfl
      have h6 : x.op ≠ 2 := by simpa using h6
      have hin := shapedN_in (k := k) hb h5 h6
      (conv => arg 2; whnf); refine wp_loop (fun m fr R => ∃ n : Nat, m = x.kids.length - n ∧ n ≤ x.kids.length ∧ R = [] ∧ (x.kids.take n).all (shapedN k) = true ∧ fr = frL [(1, i64V at_), (2, .pt (some 7) (.agg (exC x)) 0), (5, bV (!hasV x)), (6, bV (!hasF x)), (7, i64V n)])
        x.kids.length _ _ (.cons (.refl _) (.cons (.refl _) (.cons (.refl _) (.cons (.refl _) (.cons (.refl _) (.nil _)))))) (List.Sublist.refl _) ⟨0, rfl, Nat.zero_le _, rfl, rfl, rfl⟩ ?_
      rintro m fr R ⟨n, rfl, hn, rfl, hall, rfl⟩
      (conv => arg 2; whnf); refine wp_ite (fun h => ?_) (fun h => ?_)
      · have h : n < x.kids.length := by
          have := of_decide_eq_true h
          rw [List.length_map] at this; omega
        obtain ⟨y, hy⟩ : ∃ y, x.kids[n]? = some y := ⟨_, List.getElem?_eq_getElem h⟩
        have hc := ih y (at_ + 1) (by omega) (exOk_kid hok hy)
        (conv => arg 2; whnf); refine wp_elem n (.agg (exC y)) rfl (kid_at hy) (Vle.refl _) ?_
        (conv => arg 2; whnf); refine wp_pcallV (.cons (.refl _) (.cons (Vle.i64 _ rfl (wadd (by omega : (at_ : Int) + 1 = ((at_ + 1 : Nat) : Int)) (by omega) (by omega))) .nil)) hc ?_
        (conv => arg 2; whnf); refine wp_ite (fun h7 => ?_) (fun h7 => ?_)
        · have h7 : shapedN k y = false := by simpa using h7
          (conv => arg 2; whnf)
          refine wp_leaf (loop_ret ?_)
          (conv => arg 2; whnf); refine w_retp rfl (Vle.eq (cBool ?_))
          rw [hin]
          have : x.kids.all (shapedN k) = false := by rw [List.all_eq_false]; exact ⟨y, List.mem_of_getElem? hy, by simp [h7]⟩
          rw [this]; rfl
        · have h7 : shapedN k y = true := by simpa using h7
          (conv => arg 2; whnf)
          refine wp_leaf (loop_next (x.kids.length - (n + 1)) _ _ (by omega) (.cons (.refl _) (.cons (.refl _) (.cons (.refl _) (.cons (.refl _) (.cons (Vle.inc n rfl (by omega)) (.nil _)))))) (List.Sublist.refl _) ⟨n + 1, rfl, h, rfl, ?_, rfl⟩)
          rw [List.take_add_one, hy, List.all_append, hall]
          simp [h7]
      · have h : n = x.kids.length := by
          have := of_decide_eq_false h
          rw [List.length_map] at this; omega
        subst h
        rw [List.take_length] at hall
        rw [hall, Bool.true_and] at hin
        (conv => arg 2; whnf)
        refine wp_leaf (loop_exit ?_)
        (conv => arg 2; whnf); refine wp_ite (fun h7 => ?_) (fun h7 => ?_)
        · (conv => arg 2; whnf); refine w_retp rfl (Vle.eq (cBool ?_))
          rw [hin, h7]; rfl
        · (conv => arg 2; whnf); refine w_retp rfl (Vle.eq (cBool ?_))
          rw [hin, h7]; rfl

set_option maxRecDepth 100000 in
theorem refisexpr_call (x : Ex) (hok : ExOk 20 x) (hok6 : ExOk 6 x) (hn : (nodesN 20 x).length ≤ 2 ^ 40) : PCall Tryz.prog 28 [.agg (exC x)] (bV (isExR x)) := by
  have hc := refshaped_call 5 x 1 rfl hok6
  have hd := refNodes_call x hok hn
  refine scall_of (live := []) (ords := []) Tryz.func28 rfl (by kernel_rfl) (by kernel_rfl) (Nat.le_of_ble_eq_true rfl) ?_
  (conv => arg 2; whnf); refine wp_pcall hc ?_
  (conv => arg 2; whnf); refine wp_ite (fun h1 => ?_) (fun h1 => ?_)
  · (conv => arg 2; whnf); refine wp_pcall hd ?_
    (conv => arg 2; whnf); refine w_retp rfl (Vle.eq (cBool ?_))
    rw [isExR, h1, Bool.true_and]
    exact decide_eq_decide.2 (by rw [List.length_map]; omega)
  · (repeat ((conv => arg 2; whnf); first | refine wp_ite (fun _ => ?_) (fun h => Bool.noConfusion h) | refine wp_ite (fun h => Bool.noConfusion h) (fun _ => ?_)))
    (conv => arg 2; whnf); refine w_retp rfl (Vle.eq (cBool ?_))
    rw [isExR, h1]; rfl
end Go.Sv
/- Both say the same of a condition. -/
namespace Go.Sv
open Go Go.Proofs

theorem shapedN_op {k : Nat} {x : Ex} (h : shapedN k x = true) : x.op ≠ 0 := by
  intro e
  rw [shapedN_bad (.inl (by omega))] at h
  cases h
theorem le_foldl_max : ∀ (l : List Nat) (b : Nat), b ≤ l.foldl max b
  | [], _ => Nat.le_refl _
  | a :: l, b => Nat.le_trans (Nat.le_max_left b a) (le_foldl_max l _)
theorem mem_foldl_max : ∀ (l : List Nat) (b a : Nat), a ∈ l → a ≤ l.foldl max b
  | c :: l, b, a, h => by
    rcases List.mem_cons.1 h with rfl | h
    · exact Nat.le_trans (Nat.le_max_right b a) (le_foldl_max l _)
    · exact mem_foldl_max l _ a h
theorem maxL_le_iff {l : List Nat} {k : Nat} : maxL l ≤ k ↔ ∀ a ∈ l, a ≤ k :=
  ⟨fun h a ha => Nat.le_trans (mem_foldl_max l 0 a ha) h, maxL_le⟩
theorem nodes_all {j : Nat} {x : Ex} (h : x.op ≠ 0) : (nodesN (j + 1) x).all nodeB = true ↔ nodeB x = true ∧ ∀ y ∈ x.kids, (nodesN j y).all nodeB = true := by
  rw [nodesN_kids h, List.all_cons, Bool.and_eq_true, List.all_flatMap, List.all_eq_true]
theorem depth_iff {j k : Nat} {x : Ex} (h : x.op ≠ 0) : depthN (j + 1) x ≤ k + 1 ↔ ∀ y ∈ x.kids, depthN j y ≤ k := by
  rw [depthN_kids h, Nat.add_le_add_iff_right, maxL_le_iff]
  simp

theorem shaped_iff : ∀ (k j : Nat), k < j → ∀ x : Ex, x.op ≠ 0 → (shapedN k x = true ↔ depthN j x ≤ k ∧ (nodesN j x).all nodeB = true)
  | 0, j + 1, _, x, h0 => by
    refine ⟨fun h => (Bool.noConfusion h), fun h => ?_⟩
    have := h.1
    rw [depthN_kids h0] at this
    omega
  | k + 1, j + 1, hj, x, h0 => by
    rw [depth_iff h0, nodes_all h0]
    by_cases hb : x.op < 1 ∨ 12 < x.op ∨ x.kids.length ≠ kidsN x.op
    · rw [shapedN_bad hb, nodeB_bad hb]; simp
    have hlen : x.kids.length = kidsN x.op := by omega
    by_cases h1 : x.op = 1
    · have hk : x.kids = [] := List.length_eq_zero_iff.1 (by rw [hlen, h1]; rfl)
      rw [shapedN_lit hb h1, nodeB_lit hb (by rw [hk]; rfl) h1, hk]; simp
    by_cases h2 : x.op = 2
    · have hk : x.kids = [] := List.length_eq_zero_iff.1 (by rw [hlen, h2]; rfl)
      rw [shapedN_fld hb h2, nodeB_fld hb (by rw [hk]; rfl) h2, hk]; simp
    have ih := shaped_iff k j (by omega)
    rw [shapedN_in hb h1 h2]
    cases hany : x.kids.any (fun k => decide (k.op = 0)) with
    | true =>
      rw [nodeB_kid hany]
      obtain ⟨y, hy, hy0⟩ := List.any_eq_true.1 hany
      have hy0 : y.op = 0 := of_decide_eq_true hy0
      have : x.kids.all (shapedN k) = false := by
        rw [List.all_eq_false]; exact ⟨y, hy, fun h => shapedN_op h hy0⟩
      rw [this]; simp
    | false =>
      rw [nodeB_in hb hany h1 h2, Bool.and_eq_true, List.all_eq_true]
      have hne : ∀ y ∈ x.kids, y.op ≠ 0 := fun y hy e => by
        have := List.any_eq_false.1 hany y hy
        exact this (decide_eq_true e)
      constructor
      · rintro ⟨ha, hn⟩
        exact ⟨fun y hy => ((ih y (hne y hy)).1 (ha y hy)).1, hn, fun y hy => ((ih y (hne y hy)).1 (ha y hy)).2⟩
      · rintro ⟨ha, hn, hc⟩
        exact ⟨fun y hy => (ih y (hne y hy)).2 ⟨ha y hy, hc y hy⟩, hn⟩

theorem isEx_same (x : Ex) : isExR x = isExB x := by
  rw [Bool.eq_iff_iff, isExR, isExB]
  by_cases h0 : x.op = 0
  · rw [shapedN_bad (.inl (by omega)), nodesN_op h0]; simp
  have hpos : 0 < (nodesN 20 x).length := by rw [nodesN_kids h0]; simp
  simp only [Bool.and_eq_true, decide_eq_true_eq]
  rw [shaped_iff 5 20 (by omega) x h0]
  constructor
  · rintro ⟨⟨h1, h2⟩, h3⟩; exact ⟨⟨⟨h1, h3⟩, h2⟩, hpos⟩
  · rintro ⟨⟨⟨h1, h3⟩, h2⟩, _⟩; exact ⟨⟨h1, h2⟩, h3⟩
end Go.Sv
/- Signs. -/
namespace Go.Sv
open Go Go.Proofs

def signT (op : Int) : List UInt8 :=
  if op = 3 then [43] else if op = 4 then [45] else if op = 5 then [42] else if op = 6 then [61] else if op = 7 then [33, 61]
  else if op = 8 then [60] else if op = 9 then [60, 61] else if op = 10 then [65, 78, 68] else [79, 82]


set_option maxRecDepth 100000 in
theorem refsign_call (op : Int) (h1 : 3 ≤ op) (h2 : op ≤ 11) : PCall Tryz.prog 53 [i64V op] (str (signT op)) := by
  have h : op = 3 ∨ op = 4 ∨ op = 5 ∨ op = 6 ∨ op = 7 ∨ op = 8 ∨ op = 9 ∨ op = 10 ∨ op = 11 := by omega
  rcases h with rfl | rfl | rfl | rfl | rfl | rfl | rfl | rfl | rfl
  all_goals
    refine scall_of (live := []) (ords := []) Tryz.func53 rfl (by kernel_rfl) (by kernel_rfl) (Nat.le_of_ble_eq_true rfl) ?_
    (repeat ((conv => arg 2; whnf); first | refine wp_ite (fun _ => ?_) (fun h => Bool.noConfusion h) | refine wp_ite (fun h => Bool.noConfusion h) (fun _ => ?_)))
    (conv => arg 2; whnf); refine wp_need ⟨by decide, by decide⟩ ?_
    (conv => arg 2; whnf); refine w_retp rfl (Vle.eq rfl)
end Go.Sv
/- The text of a condition. -/
namespace Go.Sv
open Go Go.Proofs

def notL : List UInt8 := [40, 78, 79, 84, 32]
def toldN (sv : Val → List UInt8) : Nat → Ex → List UInt8
  | 0, _ => []
  | k + 1, x =>
    if x.op = 1 then sv x.val
    else if x.op = 2 then x.al ++ [46] ++ x.fd
    else if x.op = 12 then (match x.kids with
      | [a] => notL ++ toldN sv k a ++ [41]
      | _ => [])
    else match x.kids with
      | [a, b] => [40] ++ toldN sv k a ++ [32] ++ signT x.op ++ [32] ++ toldN sv k b ++ [41]
      | _ => []

theorem toldN_1 {sv : Val → List UInt8} {k : Nat} {v : Val} {a f : List UInt8} {l : List Ex} : toldN sv (k + 1) (.mk 1 v a f l) = sv v := by rw [toldN, if_pos (show Ex.op _ = 1 from rfl)]; rfl
theorem toldN_2 {sv : Val → List UInt8} {k : Nat} {v : Val} {a f : List UInt8} {l : List Ex} : toldN sv (k + 1) (.mk 2 v a f l) = a ++ [46] ++ f := by
  rw [toldN, if_neg (show ¬ Ex.op (.mk 2 v a f l) = 1 from (by decide : ¬ (2 : Int) = 1)), if_pos (show Ex.op _ = 2 from rfl)]; rfl
theorem toldN_12 {sv : Val → List UInt8} {k : Nat} {v : Val} {a f : List UInt8} {x : Ex} : toldN sv (k + 1) (.mk 12 v a f [x]) = notL ++ toldN sv k x ++ [41] := by
  rw [toldN, if_neg (show ¬ Ex.op (.mk 12 v a f [x]) = 1 from (by decide : ¬ (12 : Int) = 1)), if_neg (show ¬ Ex.op (.mk 12 v a f [x]) = 2 from (by decide : ¬ (12 : Int) = 2)), if_pos (show Ex.op _ = 12 from rfl)]; rfl
theorem toldN_op {sv : Val → List UInt8} {k : Nat} {o : Int} {v : Val} {a f : List UInt8} {x y : Ex} (h1 : o ≠ 1) (h2 : o ≠ 2) (h3 : o ≠ 12) :
    toldN sv (k + 1) (.mk o v a f [x, y]) = [40] ++ toldN sv k x ++ [32] ++ signT o ++ [32] ++ toldN sv k y ++ [41] := by
  rw [toldN, if_neg (show ¬ Ex.op (.mk o v a f [x, y]) = 1 from h1), if_neg (show ¬ Ex.op (.mk o v a f [x, y]) = 2 from h2), if_neg (show ¬ Ex.op (.mk o v a f [x, y]) = 12 from h3)]; rfl

theorem shape_cases {k : Nat} {o : Int} {v : Val} {a f : List UInt8} {l : List Ex} (h : shapedN (k + 1) (.mk o v a f l) = true) :
    o = 1 ∨ o = 2 ∨ (o = 12 ∧ ∃ x, l = [x] ∧ shapedN k x = true) ∨ (3 ≤ o ∧ o ≤ 11 ∧ ∃ x y, l = [x, y] ∧ shapedN k x = true ∧ shapedN k y = true) := by
  by_cases h1 : o = 1
  · exact .inl h1
  by_cases h2 : o = 2
  · exact .inr (.inl h2)
  have hb : ¬ (o < 1 ∨ 12 < o ∨ l.length ≠ kidsN o) := fun hb => by
    rw [shapedN_bad (x := .mk o v a f l) hb] at h; cases h
  rw [shapedN_in (x := .mk o v a f l) hb h1 h2, Bool.and_eq_true, List.all_eq_true] at h
  have hl : l.length = kidsN o := by omega
  have hs : ∀ x ∈ l, shapedN k x = true := h.1
  by_cases h3 : o = 12
  · rw [kidsN_12 h3] at hl
    obtain ⟨x, rfl⟩ := List.length_eq_one_iff.1 hl
    exact .inr (.inr (.inl ⟨h3, x, rfl, hs x (by simp)⟩))
  · rw [kidsN_2 (by omega) (by omega)] at hl
    obtain ⟨x, y, rfl⟩ : ∃ x y, l = [x, y] := by
      rcases l with _ | ⟨x, _ | ⟨y, _ | ⟨z, l⟩⟩⟩
      · cases hl
      · cases hl
      · exact ⟨x, y, rfl⟩
      · simp at hl
    exact .inr (.inr (.inr ⟨by omega, by omega, x, y, rfl, hs x (by simp), hs y (by simp)⟩))

theorem map1 (x : Ex) : ([x].map exV)[0]? = some (.agg (exC x)) := by rw [← exV_eq]; rfl
theorem map20 (x y : Ex) : ([x, y].map exV)[0]? = some (.agg (exC x)) := by rw [← exV_eq]; rfl
theorem map21 (x y : Ex) : ([x, y].map exV)[1]? = some (.agg (exC y)) := by rw [← exV_eq]; rfl
theorem cat3 (a b c : List UInt8) : V.c (.string (S a ++ S b ++ S c)) = str (a ++ b ++ c) := by rw [S_append, S_append]; rfl
theorem cat7 (a b c d e f g : List UInt8) : V.c (.string (S a ++ S b ++ S c ++ S d ++ S e ++ S f ++ S g)) = str (a ++ b ++ c ++ d ++ e ++ f ++ g) := by simp only [S_append]; rfl

/-- A value of 64 bits, of a short text. -/
def ValSm (v : Val) : Prop := v.s.length < 2 ^ 40 ∧ -9223372036854775808 ≤ v.n ∧ v.n < 9223372036854775808
/-- Short texts, so many levels deep. -/
def ExSm : Nat → Ex → Prop
  | 0, _ => True
  | k + 1, x => ValSm x.val ∧ x.al.length < 2 ^ 40 ∧ x.fd.length < 2 ^ 40 ∧ ∀ y ∈ x.kids, ExSm k y
theorem need2 {a b : List UInt8} (h : a.length + b.length ≤ 4611686018427387904) : (S a).size + (S b).size ≤ 4611686018427387904 := by simp only [S_size]; exact h
theorem need3 {a b c : List UInt8} (h : a.length + b.length + c.length ≤ 4611686018427387904) : (S a ++ S b).size + (S c).size ≤ 4611686018427387904 := by simp only [S_append, S_size, List.length_append]; exact h
theorem need4 {a b c d : List UInt8} (h : a.length + b.length + c.length + d.length ≤ 4611686018427387904) : (S a ++ S b ++ S c).size + (S d).size ≤ 4611686018427387904 := by simp only [S_append, S_size, List.length_append]; exact h
theorem need5 {a b c d e : List UInt8} (h : a.length + b.length + c.length + d.length + e.length ≤ 4611686018427387904) : (S a ++ S b ++ S c ++ S d).size + (S e).size ≤ 4611686018427387904 := by simp only [S_append, S_size, List.length_append]; exact h
theorem need6 {a b c d e f : List UInt8} (h : a.length + b.length + c.length + d.length + e.length + f.length ≤ 4611686018427387904) : (S a ++ S b ++ S c ++ S d ++ S e).size + (S f).size ≤ 4611686018427387904 := by simp only [S_append, S_size, List.length_append]; exact h
theorem need7 {a b c d e f g : List UInt8} (h : a.length + b.length + c.length + d.length + e.length + f.length + g.length ≤ 4611686018427387904) : (S a ++ S b ++ S c ++ S d ++ S e ++ S f).size + (S g).size ≤ 4611686018427387904 := by simp only [S_append, S_size, List.length_append]; exact h
theorem signT_len (o : Int) : (signT o).length ≤ 3 := by
  unfold signT
  repeat' split
  all_goals decide
theorem toldN_len {sv : Val → List UInt8} (hB : ∀ v : Val, ValSm v → (sv v).length ≤ 2 ^ 42) : ∀ (k : Nat) (x : Ex), ExSm k x → shapedN k x = true → (toldN sv k x).length ≤ 2 ^ (42 + 2 * k)
  | 0, _, _, h => by cases h
  | k + 1, .mk o v a f l, hok, hsh => by
    have hp : 2 ^ (42 + 2 * (k + 1)) = 4 * 2 ^ (42 + 2 * k) := by rw [show 42 + 2 * (k + 1) = (42 + 2 * k) + 2 by omega, Nat.pow_add]; omega
    have hq : 2 ^ 42 ≤ 2 ^ (42 + 2 * k) := Nat.pow_le_pow_right (by omega) (by omega)
    have ha : a.length < 2 ^ 40 := hok.2.1
    have hf : f.length < 2 ^ 40 := hok.2.2.1
    rcases shape_cases hsh with rfl | rfl | ⟨rfl, x, rfl, hx⟩ | ⟨h3, h11, x, y, rfl, hx, hy⟩
    · rw [toldN_1]
      have := hB v hok.1
      omega
    · rw [toldN_2]
      simp only [List.length_append, List.length_cons, List.length_nil]
      omega
    · rw [toldN_12]
      have := toldN_len hB k x (hok.2.2.2 x (by simp [Ex.kids])) hx
      simp only [List.length_append, List.length_cons, List.length_nil, notL]
      omega
    · rw [toldN_op (by omega) (by omega) (by omega)]
      have h1 := toldN_len hB k x (hok.2.2.2 x (by simp [Ex.kids])) hx
      have h2 := toldN_len hB k y (hok.2.2.2 y (by simp [Ex.kids])) hy
      have h3 := signT_len o
      simp only [List.length_append, List.length_cons, List.length_nil]
      omega
theorem toldN_len5 {sv : Val → List UInt8} (hB : ∀ v : Val, ValSm v → (sv v).length ≤ 2 ^ 42) {k : Nat} (hk : k ≤ 5) {x : Ex} (h1 : ExSm k x) (h2 : shapedN k x = true) : (toldN sv k x).length ≤ 2 ^ 52 :=
  Nat.le_trans (toldN_len hB k x h1 h2) (Nat.pow_le_pow_right (by omega) (by omega))


set_option maxRecDepth 100000 in
theorem refshow_call (sv : Val → List UInt8) (hV : ∀ v : Val, ValSm v → PCall Tryz.prog 52 [valV v] (str (sv v)))
    (hB : ∀ v : Val, ValSm v → (sv v).length ≤ 2 ^ 42) : ∀ (k : Nat) (x : Ex), k ≤ 5 → ExOk k x → ExSm k x → shapedN k x = true → PCall Tryz.prog 23 [.agg (exC x)] (str (toldN sv k x)) := by
  intro k
  induction k with
  | zero => intro x _ _ _ h; cases h
  | succ k ih =>
    rintro ⟨o, v, a, f, l⟩ hk5 hok hsm hsh
    have ha : a.length < 2 ^ 40 := hsm.2.1
    have hf : f.length < 2 ^ 40 := hsm.2.2.1
    have hv := hV v hsm.1
    rcases shape_cases hsh with rfl | rfl | ⟨rfl, x, rfl, hx⟩ | ⟨h3, h11, x, y, rfl, hx, hy⟩
    · rw [toldN_1]
      refine scall_of (live := []) (ords := []) Tryz.func23 rfl (by kernel_rfl) (by kernel_rfl) (Nat.le_of_ble_eq_true rfl) ?_
      (repeat ((conv => arg 2; whnf); first | refine wp_ite (fun _ => ?_) (fun h => Bool.noConfusion h) | refine wp_ite (fun h => Bool.noConfusion h) (fun _ => ?_)))
      (conv => arg 2; whnf); refine wp_pcall hv ?_
      (conv => arg 2; whnf); refine w_retp rfl (.refl _)
    · rw [toldN_2]
      refine scall_of (live := []) (ords := []) Tryz.func23 rfl (by kernel_rfl) (by kernel_rfl) (Nat.le_of_ble_eq_true rfl) ?_
      (repeat ((conv => arg 2; whnf); first | refine wp_ite (fun _ => ?_) (fun h => Bool.noConfusion h) | refine wp_ite (fun h => Bool.noConfusion h) (fun _ => ?_)))
      (conv => arg 2; whnf); refine wp_need (need2 (a := a) (b := [46]) (by simp only [List.length_cons, List.length_nil]; omega)) ?_
      (conv => arg 2; whnf); refine wp_need (need3 (a := a) (b := [46]) (c := f) (by simp only [List.length_cons, List.length_nil]; omega)) ?_
      (conv => arg 2; whnf); refine w_retp rfl (Vle.eq (cat3 a [46] f))
    · rw [toldN_12]
      have hc := ih x (by omega) (hok.2.2.2.2 x (by simp [Ex.kids])) (hsm.2.2.2 x (by simp [Ex.kids])) hx
      have lx := toldN_len5 hB (by omega) (hsm.2.2.2 x (by simp [Ex.kids])) hx
      refine scall_of (live := []) (ords := []) Tryz.func23 rfl (by kernel_rfl) (by kernel_rfl) (Nat.le_of_ble_eq_true rfl) ?_
      (repeat ((conv => arg 2; whnf); first | refine wp_ite (fun _ => ?_) (fun h => Bool.noConfusion h) | refine wp_ite (fun h => Bool.noConfusion h) (fun _ => ?_)))
      (conv => arg 2; whnf); refine wp_elem 0 (.agg (exC x)) rfl (map1 x) (Vle.refl _) ?_
      (conv => arg 2; whnf); refine wp_pcall hc ?_
      (conv => arg 2; whnf); refine wp_need (need2 (a := notL) (b := toldN sv k x) (by simp only [List.length_cons, List.length_nil, notL]; omega)) ?_
      (conv => arg 2; whnf); refine wp_need (need3 (a := notL) (b := toldN sv k x) (c := [41]) (by simp only [List.length_cons, List.length_nil, notL]; omega)) ?_
      (conv => arg 2; whnf); refine w_retp rfl (Vle.eq (cat3 notL _ [41]))
    · have n1 : o ≠ 1 := by omega
      have n2 : o ≠ 2 := by omega
      have n12 : o ≠ 12 := by omega
      rw [toldN_op n1 n2 n12]
      have hc := ih x (by omega) (hok.2.2.2.2 x (by simp [Ex.kids])) (hsm.2.2.2 x (by simp [Ex.kids])) hx
      have lx := toldN_len5 hB (by omega) (hsm.2.2.2 x (by simp [Ex.kids])) hx
      have hd := ih y (by omega) (hok.2.2.2.2 y (by simp [Ex.kids])) (hsm.2.2.2 y (by simp [Ex.kids])) hy
      have ly := toldN_len5 hB (by omega) (hsm.2.2.2 y (by simp [Ex.kids])) hy
      have ls := signT_len o
      have hs := refsign_call o h3 h11
      refine scall_of (live := []) (ords := []) Tryz.func23 rfl (by kernel_rfl) (by kernel_rfl) (Nat.le_of_ble_eq_true rfl) ?_
      (conv => arg 2; whnf); refine wp_ite (fun h => (n1 (eq_of_beq h)).elim) (fun _ => ?_)
      (conv => arg 2; whnf); refine wp_ite (fun h => (n2 (eq_of_beq h)).elim) (fun _ => ?_)
      (conv => arg 2; whnf); refine wp_ite (fun h => (n12 (eq_of_beq h)).elim) (fun _ => ?_)
      (conv => arg 2; whnf); refine wp_elem 0 (.agg (exC x)) rfl (map20 x y) (Vle.refl _) ?_
      (conv => arg 2; whnf); refine wp_pc hc ?_
      (conv => arg 2; whnf); refine wp_need (need2 (a := [40]) (b := toldN sv k x) (by simp only [List.length_cons, List.length_nil]; omega)) ?_
      (conv => arg 2; whnf); refine wp_need (need3 (a := [40]) (b := toldN sv k x) (c := [32]) (by simp only [List.length_cons, List.length_nil]; omega)) ?_
      (conv => arg 2; whnf); refine wp_pc hs ?_
      (conv => arg 2; whnf); refine wp_need (need4 (a := [40]) (b := toldN sv k x) (c := [32]) (d := signT o) (by simp only [List.length_cons, List.length_nil]; omega)) ?_
      (conv => arg 2; whnf); refine wp_need (need5 (a := [40]) (b := toldN sv k x) (c := [32]) (d := signT o) (e := [32]) (by simp only [List.length_cons, List.length_nil]; omega)) ?_
      (conv => arg 2; whnf); refine wp_elem 1 (.agg (exC y)) rfl (map21 x y) (Vle.refl _) ?_
      (conv => arg 2; whnf); refine wp_pc hd ?_
      (conv => arg 2; whnf); refine wp_need (need6 (a := [40]) (b := toldN sv k x) (c := [32]) (d := signT o) (e := [32]) (f := toldN sv k y) (by simp only [List.length_cons, List.length_nil]; omega)) ?_
      (conv => arg 2; whnf); refine wp_need (need7 (a := [40]) (b := toldN sv k x) (c := [32]) (d := signT o) (e := [32]) (f := toldN sv k y) (g := [41]) (by simp only [List.length_cons, List.length_nil]; omega)) ?_
      (conv => arg 2; whnf); refine w_retp rfl (Vle.eq (cat7 [40] _ [32] _ [32] _ [41]))
end Go.Sv
/- The same conditions, as the reference has it: one level. -/
namespace Go.Sv
open Go Go.Proofs

theorem val_eqD (u v : Val) : (u.kind == v.kind && (u.n == v.n && ((S u.s).toList == (S v.s).toList && true))) = decide (u = v) := by
  rw [strEq]
  cases u with
  | mk k n s =>
    cases v with
    | mk k' n' s' => rw [Bool.eq_iff_iff]; simp
def headB (a b : Ex) : Bool := decide (a.op = b.op) && (decide (a.val = b.val) && (decide (a.al = b.al) && (decide (a.fd = b.fd) && decide (a.kids.length = b.kids.length))))
theorem headB_false {a b : Ex} (h : a.op ≠ b.op ∨ a.val ≠ b.val ∨ a.al ≠ b.al ∨ a.fd ≠ b.fd ∨ a.kids.length ≠ b.kids.length) : headB a b = false := by
  rw [headB]
  rcases h with h | h | h | h | h <;> simp [h]
theorem headB_true {a b : Ex} (h1 : a.op = b.op) (h2 : a.val = b.val) (h3 : a.al = b.al) (h4 : a.fd = b.fd) (h5 : a.kids.length = b.kids.length) : headB a b = true := by
  rw [headB]; simp [h1, h2, h3, h4, h5]

set_option maxRecDepth 100000 in
theorem refsame_step (a b : Ex) (r : Nat → Bool) (hl : a.kids.length < 2 ^ 60)
    (hr : ∀ n y z, a.kids[n]? = some y → b.kids[n]? = some z → PCall Tryz.prog 16 [.agg (exC y), .agg (exC z)] (bV (r n))) :
    PCall Tryz.prog 16 [.agg (exC a), .agg (exC b)] (bV (headB a b && (List.range a.kids.length).all r)) := by
  have hv := val_eqD a.val b.val
  have hal := strEq a.al b.al
  have hfd := strEq a.fd b.fd
  refine scall_of (live := []) (ords := []) Tryz.func16 rfl (by kernel_rfl) (by kernel_rfl) (Nat.le_of_ble_eq_true rfl) ?_
  (conv => arg 2; whnf); refine wp_ite (fun h1 => ?_) (fun h1 => ?_)
  · have h1 : a.op ≠ b.op := by simpa using h1
    (repeat ((conv => arg 2; whnf); first | refine wp_ite (fun _ => ?_) (fun h => Bool.noConfusion h) | refine wp_ite (fun h => Bool.noConfusion h) (fun _ => ?_)))
    (conv => arg 2; whnf); refine w_retp rfl (Vle.eq (cBool ?_))
    rw [headB_false (.inl h1)]; rfl
  have h1 : a.op = b.op := by simpa using h1
  (conv => arg 2; whnf); refine wp_need valEqB ?_
  (conv => arg 2; whnf); refine wp_ite (fun h2 => ?_) (fun h2 => ?_)
  · have h2 : a.val ≠ b.val := by
      rw [hv] at h2; simpa using h2
    (repeat ((conv => arg 2; whnf); first | refine wp_ite (fun _ => ?_) (fun h => Bool.noConfusion h) | refine wp_ite (fun h => Bool.noConfusion h) (fun _ => ?_)))
    (conv => arg 2; whnf); refine w_retp rfl (Vle.eq (cBool ?_))
    rw [headB_false (.inr (.inl h2))]; rfl
  have h2 : a.val = b.val := by
    rw [hv] at h2; simpa using h2
  (conv => arg 2; whnf); refine wp_ite (fun h3 => ?_) (fun h3 => ?_)
  · have h3 : a.al ≠ b.al := by
      rw [hal] at h3; simpa using h3
    (repeat ((conv => arg 2; whnf); first | refine wp_ite (fun _ => ?_) (fun h => Bool.noConfusion h) | refine wp_ite (fun h => Bool.noConfusion h) (fun _ => ?_)))
    (conv => arg 2; whnf); refine w_retp rfl (Vle.eq (cBool ?_))
    rw [headB_false (.inr (.inr (.inl h3)))]; rfl
  have h3 : a.al = b.al := by
    rw [hal] at h3; simpa using h3
  (conv => arg 2; whnf); refine wp_ite (fun h4 => ?_) (fun h4 => ?_)
  · have h4 : a.fd ≠ b.fd := by
      rw [hfd] at h4; simpa using h4
    (repeat ((conv => arg 2; whnf); first | refine wp_ite (fun _ => ?_) (fun h => Bool.noConfusion h) | refine wp_ite (fun h => Bool.noConfusion h) (fun _ => ?_)))
    (conv => arg 2; whnf); refine w_retp rfl (Vle.eq (cBool ?_))
    rw [headB_false (.inr (.inr (.inr (.inl h4))))]; rfl
  have h4 : a.fd = b.fd := by
    rw [hfd] at h4; simpa using h4
  (conv => arg 2; whnf); refine wp_ite (fun h5 => ?_) (fun h5 => ?_)
  · have h5 : a.kids.length ≠ b.kids.length := by
      intro e
      simp [e] at h5
    (conv => arg 2; whnf); refine w_retp rfl (Vle.eq (cBool ?_))
    rw [headB_false (.inr (.inr (.inr (.inr h5))))]; rfl
  have h5 : a.kids.length = b.kids.length := by
    simp at h5
    omega
  rw [headB_true h1 h2 h3 h4 h5, Bool.true_and]
  (conv => arg 2; whnf); refine wp_loop (fun m fr R => ∃ n : Nat, m = a.kids.length - n ∧ n ≤ a.kids.length ∧ R = [] ∧ (List.range n).all r = true ∧ fr = frL [(2, .pt (some 7) (.agg (exC a)) 0), (3, .pt (some 7) (.agg (exC b)) 0), (5, i64V n)])
    a.kids.length _ _ (.cons (.refl _) (.cons (.refl _) (.cons (.refl _) (.nil _)))) (List.Sublist.refl _) ⟨0, rfl, Nat.zero_le _, rfl, rfl, rfl⟩ ?_
  rintro m fr R ⟨n, rfl, hn, rfl, hall, rfl⟩
  (conv => arg 2; whnf); refine wp_ite (fun h => ?_) (fun h => ?_)
  · have h : n < a.kids.length := by
      have := of_decide_eq_true h
      rw [List.length_map] at this; omega
    obtain ⟨y, hy⟩ : ∃ y, a.kids[n]? = some y := ⟨_, List.getElem?_eq_getElem h⟩
    obtain ⟨z, hz⟩ : ∃ z, b.kids[n]? = some z := ⟨_, List.getElem?_eq_getElem (by omega)⟩
    have hc := hr n y z hy hz
    (conv => arg 2; whnf); refine wp_elem n (.agg (exC y)) rfl (kid_at hy) (Vle.refl _) ?_
    (conv => arg 2; whnf); refine wp_elem n (.agg (exC z)) rfl (kid_at hz) (Vle.refl _) ?_
    (conv => arg 2; whnf); refine wp_pc hc ?_
    (conv => arg 2; whnf); refine wp_ite (fun h6 => ?_) (fun h6 => ?_)
    · have h6 : r n = false := by simpa using h6
      (conv => arg 2; whnf)
      refine wp_leaf (loop_ret ?_)
      (conv => arg 2; whnf); refine w_retp rfl (Vle.eq (cBool ?_))
      symm
      rw [List.all_eq_false]; exact ⟨n, List.mem_range.2 h, by simp [h6]⟩
    · have h6 : r n = true := by simpa using h6
      (conv => arg 2; whnf)
      refine wp_leaf (loop_next (a.kids.length - (n + 1)) _ _ (by omega) (.cons (.refl _) (.cons (.refl _) (.cons (Vle.inc n rfl (by omega)) (.nil _)))) (List.Sublist.refl _) ⟨n + 1, rfl, h, rfl, ?_, rfl⟩)
      rw [List.range_succ, List.all_append, hall]
      simp [h6]
  · have h : n = a.kids.length := by
      have := of_decide_eq_false h
      rw [List.length_map] at this; omega
    subst h
    (conv => arg 2; whnf)
    refine wp_leaf (loop_exit ?_)
    (conv => arg 2; whnf); refine w_retp rfl (Vle.eq (cBool hall.symm))
end Go.Sv
/- The same conditions: one level. -/
namespace Go.Sv
open Go Go.Proofs

theorem exs_at {l : List Ex} {y : Ex} {n : Nat} (h : l[n]? = some y) : (l.map exV)[n]? = some (.agg (exC y)) := by rw [List.getElem?_map, h, ← exV_eq]; rfl

set_option maxRecDepth 100000 in
theorem equalfn_call (l l' : List Ex) (r : Nat → Bool) (hl : l.length < 2 ^ 60)
    (hr : ∀ n y z, l[n]? = some y → l'[n]? = some z → PCall Tryz.prog 77 [.agg (exC y), .agg (exC z)] (bV (r n))) :
    PCall Tryz.prog 99 [exsV l, exsV l', .fn (.func 77) [] []] (bV (decide (l.length = l'.length) && (List.range l.length).all r)) := by
  refine scall_of (live := []) (ords := []) Tryz.func99 rfl (by kernel_rfl) (by kernel_rfl) (Nat.le_of_ble_eq_true rfl) ?_
  (conv => arg 2; whnf); refine wp_ite (fun h1 => ?_) (fun h1 => ?_)
  · have h1 : l.length ≠ l'.length := by
      intro e
      simp [e] at h1
    (conv => arg 2; whnf); refine w_retp rfl (Vle.eq (cBool ?_))
    rw [decide_eq_false h1]; rfl
  have h1 : l.length = l'.length := by
    simp at h1
    omega
  rw [decide_eq_true h1, Bool.true_and]
  (conv => arg 2; whnf); refine wp_loop (fun m fr R => ∃ n : Nat, m = l.length - n ∧ n ≤ l.length ∧ R = [] ∧ (List.range n).all r = true ∧ fr = frL [(1, exsV l'), (2, .fn (.func 77) [] []), (15, exsV l), (16, i64V l.length), (17, i64V n)])
    l.length _ _ (.cons (.refl _) (.cons (.refl _) (.cons (.refl _) (.cons (Vle.eq ?_) (.cons (.refl _) (.nil _)))))) (List.Sublist.refl _) ⟨0, rfl, Nat.zero_le _, rfl, rfl, rfl⟩ ?_
  · show V.c (.int .i64 (l.map exV).length) = _
    rw [List.length_map]; rfl
  rintro m fr R ⟨n, rfl, hn, rfl, hall, rfl⟩
  (conv => arg 2; whnf); refine wp_ite (fun h => ?_) (fun h => ?_)
  · have h : n < l.length := by have := of_decide_eq_true h; omega
    obtain ⟨y, hy⟩ : ∃ y, l[n]? = some y := ⟨_, List.getElem?_eq_getElem h⟩
    obtain ⟨z, hz⟩ : ∃ z, l'[n]? = some z := ⟨_, List.getElem?_eq_getElem (by omega)⟩
    have hc := hr n y z hy hz
    (conv => arg 2; whnf); refine wp_elem n (.agg (exC y)) rfl (exs_at hy) (Vle.refl _) ?_
    (conv => arg 2; whnf); refine wp_allocE exZ rfl fun b => ?_
    (conv => arg 2; whnf); refine wp_storeE (cs := exZ) 0 0 (exC y) rfl rfl (VleL.refl _) (Nat.le_refl _) rfl (R' := [.obj b (exC y)]) rfl ?_
    (conv => arg 2; whnf); refine wp_elem n (.agg (exC z)) rfl (exs_at hz) (Vle.refl _) ?_
    (conv => arg 2; whnf); refine wp_allocE exZ rfl fun c => ?_
    (conv => arg 2; whnf); refine wp_storeE (cs := exZ) 1 0 (exC z) rfl rfl (VleL.refl _) (Nat.le_refl _) rfl (R' := [.obj b (exC y), .obj c (exC z)]) rfl ?_
    (conv => arg 2; whnf); refine wp_load (cs := exC y) 0 rfl rfl ?_
    (conv => arg 2; whnf); refine wp_load (cs := exC z) 1 rfl rfl ?_
    (conv => arg 2; whnf); refine wp_pcall hc ?_
    (conv => arg 2; whnf); refine wp_ite (fun h6 => ?_) (fun h6 => ?_)
    · have h6 : r n = false := by simpa using h6
      (conv => arg 2; whnf)
      refine wp_leaf (loop_ret ?_)
      (conv => arg 2; whnf); refine w_retp rfl (Vle.eq (cBool ?_))
      symm
      rw [List.all_eq_false]; exact ⟨n, List.mem_range.2 h, by simp [h6]⟩
    · have h6 : r n = true := by simpa using h6
      (conv => arg 2; whnf)
      refine wp_leaf (loop_next (l.length - (n + 1)) _ _ (by omega) (.cons (.refl _) (.cons (.refl _) (.cons (.refl _) (.cons (.refl _) (.cons (Vle.inc n rfl (by omega)) (.nil _)))))) (List.nil_sublist _) ⟨n + 1, rfl, h, rfl, ?_, rfl⟩)
      rw [List.range_succ, List.all_append, hall]
      simp [h6]
  · have h : n = l.length := by have := of_decide_eq_false h; omega
    subst h
    (conv => arg 2; whnf)
    refine wp_leaf (loop_exit ?_)
    (conv => arg 2; whnf); refine w_retp rfl (Vle.eq (cBool hall.symm))

theorem headB_split {a b : Ex} (h1 : a.op = b.op) (h2 : a.val = b.val) (h3 : a.al = b.al) (h4 : a.fd = b.fd) : headB a b = decide (a.kids.length = b.kids.length) := by
  rw [headB]; simp [h1, h2, h3, h4]

set_option maxRecDepth 100000 in
theorem same_step (a b : Ex) (r : Nat → Bool) (hl : a.kids.length < 2 ^ 60)
    (hr : ∀ n y z, a.kids[n]? = some y → b.kids[n]? = some z → PCall Tryz.prog 77 [.agg (exC y), .agg (exC z)] (bV (r n))) :
    PCall Tryz.prog 77 [.agg (exC a), .agg (exC b)] (bV (headB a b && (List.range a.kids.length).all r)) := by
  have hv := val_eqD a.val b.val
  have hal := strEq a.al b.al
  have hfd := strEq a.fd b.fd
  have he := equalfn_call a.kids b.kids r hl hr
  refine scall_of (live := []) (ords := []) Tryz.func77 rfl (by kernel_rfl) (by kernel_rfl) (Nat.le_of_ble_eq_true rfl) ?_
  (conv => arg 2; whnf); refine wp_ite (fun h1 => ?_) (fun h1 => ?no1)
  case no1 =>
    have h1 : a.op ≠ b.op := by simpa using h1
    (repeat ((conv => arg 2; whnf); first | refine wp_ite (fun _ => ?_) (fun h => Bool.noConfusion h) | refine wp_ite (fun h => Bool.noConfusion h) (fun _ => ?_)))
    (conv => arg 2; whnf); refine w_retp rfl (Vle.eq (cBool ?_))
    rw [headB_false (.inl h1)]; rfl
  have h1 : a.op = b.op := by simpa using h1
  (conv => arg 2; whnf); refine wp_need valEqB ?_
  (conv => arg 2; whnf); refine wp_ite (fun h2 => ?_) (fun h2 => ?no2)
  case no2 =>
    have h2 : a.val ≠ b.val := by
      rw [hv] at h2; simpa using h2
    (repeat ((conv => arg 2; whnf); first | refine wp_ite (fun _ => ?_) (fun h => Bool.noConfusion h) | refine wp_ite (fun h => Bool.noConfusion h) (fun _ => ?_)))
    (conv => arg 2; whnf); refine w_retp rfl (Vle.eq (cBool ?_))
    rw [headB_false (.inr (.inl h2))]; rfl
  have h2 : a.val = b.val := by
    rw [hv] at h2; simpa using h2
  (conv => arg 2; whnf); refine wp_ite (fun h3 => ?_) (fun h3 => ?no3)
  case no3 =>
    have h3 : a.al ≠ b.al := by
      rw [hal] at h3; simpa using h3
    (repeat ((conv => arg 2; whnf); first | refine wp_ite (fun _ => ?_) (fun h => Bool.noConfusion h) | refine wp_ite (fun h => Bool.noConfusion h) (fun _ => ?_)))
    (conv => arg 2; whnf); refine w_retp rfl (Vle.eq (cBool ?_))
    rw [headB_false (.inr (.inr (.inl h3)))]; rfl
  have h3 : a.al = b.al := by
    rw [hal] at h3; simpa using h3
  (conv => arg 2; whnf); refine wp_ite (fun h4 => ?_) (fun h4 => ?no4)
  case no4 =>
    have h4 : a.fd ≠ b.fd := by
      rw [hfd] at h4; simpa using h4
    (repeat ((conv => arg 2; whnf); first | refine wp_ite (fun _ => ?_) (fun h => Bool.noConfusion h) | refine wp_ite (fun h => Bool.noConfusion h) (fun _ => ?_)))
    (conv => arg 2; whnf); refine w_retp rfl (Vle.eq (cBool ?_))
    rw [headB_false (.inr (.inr (.inr (.inl h4))))]; rfl
  have h4 : a.fd = b.fd := by
    rw [hfd] at h4; simpa using h4
  (conv => arg 2; whnf); refine wp_pcall he ?_
  (conv => arg 2; whnf); refine w_retp rfl (Vle.eq (cBool ?_))
  rw [headB_split h1 h2 h3 h4]
end Go.Sv
/- Texts that rise. -/
namespace Go.Sv
open Go Go.Proofs

def ltS (x y : List UInt8) : Bool := Op.bytesLess (S x).toList (S y).toList
def riseB (l : List (List UInt8)) : Bool := (List.range (l.length - 1)).all fun i => ltS (l.getD i []) (l.getD (i + 1) [])
theorem getD_of {l : List (List UInt8)} {i : Nat} {x : List UInt8} (h : l[i]? = some x) : l.getD i [] = x := by rw [List.getD_eq_getElem?_getD, h]; rfl

set_option maxRecDepth 100000 in
theorem refrise_call (l : List (List UInt8)) (hl : l.length < 2 ^ 60) : PCall Tryz.prog 27 [.sl none (l.map str) .no] (bV (riseB l)) := by
  refine scall_of (live := []) (ords := []) Tryz.func27 rfl (by kernel_rfl) (by kernel_rfl) (Nat.le_of_ble_eq_true rfl) ?_
  (conv => arg 2; whnf); refine wp_loop (fun m fr R => ∃ n : Nat, m = l.length - n ∧ n ≤ l.length - 1 ∧ R = [] ∧ ((List.range n).all fun i => ltS (l.getD i []) (l.getD (i + 1) [])) = true ∧ fr = frL [(0, .sl none (l.map str) .no), (3, i64V (n + 1 : Nat))])
    l.length _ _ (.cons (.refl _) (.cons (.refl _) (.nil _))) (List.Sublist.refl _) ⟨0, rfl, Nat.zero_le _, rfl, rfl, rfl⟩ ?_
  rintro m fr R ⟨n, rfl, hn, rfl, hall, rfl⟩
  (conv => arg 2; whnf); refine wp_ite (fun h => ?_) (fun h => ?_)
  · have h : n + 1 < l.length := by
      have := of_decide_eq_true h
      rw [List.length_map] at this; omega
    obtain ⟨y, hy⟩ : ∃ y, l[n + 1]? = some y := ⟨_, List.getElem?_eq_getElem h⟩
    obtain ⟨x, hx⟩ : ∃ x, l[n]? = some x := ⟨_, List.getElem?_eq_getElem (by omega)⟩
    (conv => arg 2; whnf); refine wp_elem n (str x) (wsub (by omega : ((n + 1 : Nat) : Int) - 1 = (n : Int)) (by omega) (by omega)) (by rw [List.getElem?_map, hx]; rfl) (Vle.refl _) ?_
    (conv => arg 2; whnf); refine wp_elem (n + 1) (str y) rfl (by rw [List.getElem?_map, hy]; rfl) (Vle.refl _) ?_
    (conv => arg 2; whnf); refine wp_ite (fun h1 => ?_) (fun h1 => ?_)
    · have h1 : ltS x y = false := by simpa [ltS] using h1
      (conv => arg 2; whnf)
      refine wp_leaf (loop_ret ?_)
      (conv => arg 2; whnf); refine w_retp rfl (Vle.eq (cBool ?_))
      symm
      rw [riseB, List.all_eq_false]
      exact ⟨n, List.mem_range.2 (by omega), by rw [getD_of hx, getD_of hy, h1]; simp⟩
    · have h1 : ltS x y = true := by simpa [ltS] using h1
      (conv => arg 2; whnf)
      refine wp_leaf (loop_next (l.length - (n + 1)) _ _ (by omega) (.cons (.refl _) (.cons (Vle.inc (n + 1) rfl (by omega)) (.nil _))) (List.Sublist.refl _) ⟨n + 1, rfl, by omega, rfl, ?_, rfl⟩)
      rw [List.range_succ, List.all_append, hall]
      simp only [List.all_cons, List.all_nil]
      rw [getD_of hx, getD_of hy, h1]; rfl
  · have h : n = l.length - 1 := by
      have := of_decide_eq_false h
      rw [List.length_map] at this; omega
    subst h
    (conv => arg 2; whnf)
    refine wp_leaf (loop_exit ?_)
    (conv => arg 2; whnf); refine w_retp rfl (Vle.eq (cBool hall.symm))
end Go.Sv
/- Texts that rise, as the program has it. -/
namespace Go.Sv
open Go Go.Proofs

def pairsL (l : List (List UInt8)) : List (List V) := (List.range (l.length - 1)).map fun i => [str (l.getD i []), str (l.getD (i + 1) [])]
theorem pairs_at {l : List (List UInt8)} {n : Nat} (h : n < l.length - 1) : (pairsL l)[n]? = some [str (l.getD n []), str (l.getD (n + 1) [])] := by
  rw [pairsL, List.getElem?_map, List.getElem?_range h]; rfl

set_option maxRecDepth 100000 in
theorem pairs_call (l : List (List UInt8)) : PCall Tryz.prog 98 [.agg [.sl none (l.map str) .no]] (.fn (.func 111) [] [.pt (some 1) (.agg [.sl none (l.map str) .no]) 0]) := by
  refine scall_of (live := []) (ords := []) Tryz.func98 rfl (by kernel_rfl) (by kernel_rfl) (Nat.le_of_ble_eq_true rfl) ?_
  (conv => arg 2; whnf); refine w_retp rfl (Vle.eq ?_)
  rfl

set_option maxRecDepth 100000 in
theorem pairs_iter (l : List (List UInt8)) (hl : l.length < 2 ^ 60) : Iter Tryz.prog 111 [] [.pt (some 1) (.agg [.sl none (l.map str) .no]) 0] (pairsL l) := by
  refine ⟨⟨_, _, Tryz.func111, rfl, by kernel_rfl⟩, fun y I E R0 h0 hy => ?_⟩
  refine scall_of (live := [23]) (ords := []) Tryz.func111 rfl (by kernel_rfl) (by kernel_rfl) (Nat.le_of_ble_eq_true rfl) ?_
  (conv => arg 2; whnf); refine wp_loop (fun m fr R => ∃ n : Nat, m = l.length - n ∧ n ≤ l.length - 1 ∧ I n R ∧ fr = frL [(0, .fn (.yield y) [] []), (1, .pt (some 1) (.agg [.sl none (l.map str) .no]) 0), (3, i64V (n + 1 : Nat))])
    l.length _ _ (.cons (.refl _) (.cons (.refl _) (.cons (.refl _) (.nil _)))) (List.Sublist.refl _) ⟨0, rfl, Nat.zero_le _, h0, rfl⟩ ?_
  rintro m fr R ⟨n, rfl, hn, hI, rfl⟩
  (conv => arg 2; whnf); refine wp_ite (fun h => ?_) (fun h => ?_)
  · have h : n + 1 < l.length := by
      have := of_decide_eq_true h
      rw [List.length_map] at this; omega
    obtain ⟨b, hb⟩ : ∃ y, l[n + 1]? = some y := ⟨_, List.getElem?_eq_getElem h⟩
    obtain ⟨a, ha⟩ : ∃ x, l[n]? = some x := ⟨_, List.getElem?_eq_getElem (by omega)⟩
    have hp := pairs_at (l := l) (n := n) (by omega)
    rw [getD_of ha, getD_of hb] at hp
    (conv => arg 2; whnf); refine wp_elem n (str a) (wsub (by omega : ((n + 1 : Nat) : Int) - 1 = (n : Int)) (by omega) (by omega)) (by rw [List.getElem?_map, ha]; rfl) (Vle.refl _) ?_
    (conv => arg 2; whnf); refine wp_elem (n + 1) (str b) rfl (by rw [List.getElem?_map, hb]; rfl) (Vle.refl _) ?_
    (conv => arg 2; whnf); refine wp_yld (hy _ _ _ hp hI) ?_
    rintro b' R' (⟨rfl, hI2⟩ | ⟨rfl, hE⟩)
    · (repeat ((conv => arg 2; whnf); first | refine wp_ite (fun _ => ?_) (fun h => Bool.noConfusion h) | refine wp_ite (fun h => Bool.noConfusion h) (fun _ => ?_)))
      (conv => arg 2; whnf)
      refine wp_leaf (loop_next (l.length - (n + 1)) _ _ (by omega) (.cons (.refl _) (.cons (.refl _) (.cons (Vle.inc (n + 1) rfl (by omega)) (.nil _)))) (List.Sublist.refl _) ⟨n + 1, rfl, by omega, hI2, rfl⟩)
    · (repeat ((conv => arg 2; whnf); first | refine wp_ite (fun _ => ?_) (fun h => Bool.noConfusion h) | refine wp_ite (fun h => Bool.noConfusion h) (fun _ => ?_)))
      (conv => arg 2; whnf)
      refine wp_leaf (loop_ret ?_)
      (conv => arg 2; whnf); refine w_ret0 rfl (List.Sublist.refl _) (.inr hE)
  · have h : n = l.length - 1 := by
      have := of_decide_eq_false h
      rw [List.length_map] at this; omega
    subst h
    (conv => arg 2; whnf)
    refine wp_leaf (loop_exit ?_)
    (conv => arg 2; whnf); refine w_norm0 rfl (List.Sublist.refl _) (.inl ?_)
    rw [pairsL, List.length_map, List.length_range]; exact hI

set_option maxRecDepth 100000 in
theorem rise_call (l : List (List UInt8)) (hl : l.length < 2 ^ 60) : PCall Tryz.prog 76 [.sl none (l.map str) .no] (bV (riseB l)) := by
  have hit := pairs_iter l hl
  refine scall_of (live := []) (ords := []) Tryz.func76 rfl (by kernel_rfl) (by kernel_rfl) (Nat.le_of_ble_eq_true rfl) ?_
  (conv => arg 2; whnf); refine wp_allocE [bV false] rfl fun c => ?_
  (conv => arg 2; whnf); refine wp_pcall (pairs_call l) ?_
  (conv => arg 2; whnf); refine wp_range hit (fun i R' => R' = [.obj c [bV false]] ∧ ((List.range i).all fun i => ltS (l.getD i []) (l.getD (i + 1) [])) = true) ⟨rfl, rfl⟩ ?_ ?_ ?_
  · intro i args hi
    rw [pairsL, List.getElem?_map, Option.map_eq_some_iff] at hi
    obtain ⟨z, _, rfl⟩ := hi
    rfl
  · rintro i args R1 hi ⟨rfl, hall⟩
    have hlt : i < l.length - 1 := by
      have := (List.getElem?_eq_some_iff.1 hi).1
      rw [pairsL, List.length_map, List.length_range] at this; exact this
    rw [pairs_at hlt] at hi
    obtain rfl := Option.some.inj hi
    (conv => arg 2; whnf); refine wp_ite (fun h1 => ?_) (fun h1 => ?_)
    · have h1 : ltS (l.getD i []) (l.getD (i + 1) []) = false := by simpa [ltS] using h1
      (conv => arg 2; whnf); refine wp_storeE (cs := [bV false]) 0 0 [bV false] rfl rfl (VleL.refl _) (Nat.le_refl _) rfl (R' := [.obj c [bV false]]) rfl ?_
      (conv => arg 2; whnf)
      refine wp_leaf ?_
      show (Tree.leaf Exit.ret _).wp Tryz.prog _ (Ends _ _ _)
      refine w_ret1c c 0 0 rfl rfl rfl rfl rfl (Vle.eq (cBool ?_))
      symm
      rw [riseB, List.all_eq_false]
      exact ⟨i, List.mem_range.2 hlt, by rw [h1]; simp⟩
    · have h1 : ltS (l.getD i []) (l.getD (i + 1) []) = true := by simpa [ltS] using h1
      (conv => arg 2; whnf)
      refine wp_leaf ⟨rfl, ?_⟩
      rw [List.range_succ, List.all_append, hall]
      simp only [List.all_cons, List.all_nil]
      rw [h1]; rfl
  · rintro R1 ⟨rfl, hall⟩
    rw [pairsL, List.length_map, List.length_range] at hall
    (conv => arg 2; whnf); refine wp_storeE (cs := [bV false]) 0 0 [bV true] rfl rfl (VleL.refl _) (Nat.le_refl _) rfl (R' := [.obj c [bV true]]) rfl ?_
    (conv => arg 2; whnf); refine w_ret1c c 0 0 rfl rfl rfl rfl rfl (Vle.eq (cBool hall.symm))
end Go.Sv
/- The same texts, as the reference has it. -/
namespace Go.Sv
open Go Go.Proofs

theorem take_next {l m : List (List UInt8)} {n : Nat} {x : List UInt8} (h : l.take n = m.take n) (hx : l[n]? = some x) (hy : m[n]? = some x) : l.take (n + 1) = m.take (n + 1) := by
  rw [List.take_add_one, List.take_add_one, h, hx, hy]

set_option maxRecDepth 100000 in
theorem sametexts_call (l m : List (List UInt8)) (hl : l.length < 2 ^ 60) : PCall Tryz.prog 51 [.sl none (l.map str) .no, .sl none (m.map str) .no] (bV (decide (l = m))) := by
  refine scall_of (live := []) (ords := []) Tryz.func51 rfl (by kernel_rfl) (by kernel_rfl) (Nat.le_of_ble_eq_true rfl) ?_
  (conv => arg 2; whnf); refine wp_ite (fun h1 => ?_) (fun h1 => ?_)
  · have h1 : l.length ≠ m.length := by
      intro e
      simp [e] at h1
    (conv => arg 2; whnf); refine w_retp rfl (Vle.eq (cBool ?_))
    symm
    exact decide_eq_false (fun e => h1 (by rw [e]))
  have h1 : l.length = m.length := by
    simp at h1
    omega
  (conv => arg 2; whnf); refine wp_loop (fun k fr R => ∃ n : Nat, k = l.length - n ∧ n ≤ l.length ∧ R = [] ∧ l.take n = m.take n ∧ fr = frL [(0, .sl none (l.map str) .no), (1, .sl none (m.map str) .no), (5, i64V n)])
    l.length _ _ (.cons (.refl _) (.cons (.refl _) (.cons (.refl _) (.nil _)))) (List.Sublist.refl _) ⟨0, rfl, Nat.zero_le _, rfl, rfl, rfl⟩ ?_
  rintro k fr R ⟨n, rfl, hn, rfl, ht, rfl⟩
  (conv => arg 2; whnf); refine wp_ite (fun h => ?_) (fun h => ?_)
  · have h : n < l.length := by
      have := of_decide_eq_true h
      rw [List.length_map] at this; omega
    obtain ⟨x, hx⟩ : ∃ x, l[n]? = some x := ⟨_, List.getElem?_eq_getElem h⟩
    obtain ⟨y, hy⟩ : ∃ y, m[n]? = some y := ⟨_, List.getElem?_eq_getElem (by omega)⟩
    have hxy := strEq x y
    (conv => arg 2; whnf); refine wp_elem n (str x) rfl (by rw [List.getElem?_map, hx]; rfl) (Vle.refl _) ?_
    (conv => arg 2; whnf); refine wp_elem n (str y) rfl (by rw [List.getElem?_map, hy]; rfl) (Vle.refl _) ?_
    (conv => arg 2; whnf); refine wp_ite (fun h2 => ?_) (fun h2 => ?_)
    · have h2 : x ≠ y := by
        rw [hxy] at h2; simpa using h2
      (conv => arg 2; whnf)
      refine wp_leaf (loop_ret ?_)
      (conv => arg 2; whnf); refine w_retp rfl (Vle.eq (cBool ?_))
      symm
      exact decide_eq_false (fun e => h2 (by subst e; exact Option.some.inj (hx.symm.trans hy)))
    · have h2 : x = y := by
        rw [hxy] at h2; simpa using h2
      subst h2
      (conv => arg 2; whnf)
      refine wp_leaf (loop_next (l.length - (n + 1)) _ _ (by omega) (.cons (.refl _) (.cons (.refl _) (.cons (Vle.inc n rfl (by omega)) (.nil _)))) (List.Sublist.refl _) ⟨n + 1, rfl, h, rfl, take_next ht hx hy, rfl⟩)
  · have h : n = l.length := by
      have := of_decide_eq_false h
      rw [List.length_map] at this; omega
    subst h
    have e : l = m := by
      rw [List.take_length] at ht
      rw [ht, h1, List.take_length]
    (conv => arg 2; whnf)
    refine wp_leaf (loop_exit ?_)
    (conv => arg 2; whnf); refine w_retp rfl (Vle.eq (cBool (decide_eq_true e).symm))
end Go.Sv
/- Texts written in quotes and read. -/
namespace Go.Sv
open Go

def escB (c : UInt8) : List UInt8 := if c = 34 ∨ c = 92 then [92, c] else [c]
def esc (s : List UInt8) : List UInt8 := s.flatMap escB
theorem esc_app (s : List UInt8) (c : UInt8) : esc (s ++ [c]) = esc s ++ escB c := by simp [esc]
theorem textR_esc : ∀ (s out : List UInt8), textR out (esc s ++ [34]) =
    if s.all okCh then (if 16 < out.length + s.length then .error 12 else .ok (out ++ s, (esc s).length + 1)) else .error 21
  | [], out => by rw [show esc [] ++ [34] = [34] from rfl, textR_34]; simp [esc]
  | c :: s, out => by
    have ih := textR_esc s (out ++ [c])
    have e1 : esc (c :: s) ++ [34] = escB c ++ (esc s ++ [34]) := by simp [esc]
    have e2 : (esc (c :: s)).length = (escB c).length + (esc s).length := by simp [esc]
    have hl : (out ++ [c]).length + s.length = out.length + (c :: s).length := by simp; omega
    rw [hl] at ih
    rw [e1, e2]
    by_cases hq : c = 34 ∨ c = 92
    · have hok : okCh c = true := by rcases hq with rfl | rfl <;> rfl
      rw [escB, if_pos hq]
      show textR out (92 :: c :: (esc s ++ [34])) = _
      rw [textR_92, if_pos hq, ih, List.all_cons, hok, Bool.true_and]
      split
      · split
        · rfl
        · simp [addN]; omega
      · rfl
    · rw [escB, if_neg hq]
      show textR out (c :: (esc s ++ [34])) = _
      rw [textR_c _ _ (fun h => hq (.inl h)) (fun h => hq (.inr h)), List.all_cons]
      cases hok : okCh c with
      | false => rw [if_neg (by simpa [okCh] using hok)]; simp
      | true =>
        rw [if_pos (by simpa [okCh] using hok), ih, Bool.true_and]
        split
        · split
          · rfl
          · simp [addN]; omega
        · rfl
def quoted (s : List UInt8) : List UInt8 := 34 :: (esc s ++ [34])
theorem cut_quoted (s : List UInt8) : cutW (quoted s) = if s.all okCh then (if 16 < s.length then .error 12 else .ok [⟨3, s, 0, 0⟩]) else .error 21 := by
  have h := textR_esc s []
  rw [List.length_nil, Nat.zero_add, List.nil_append] at h
  have hx : nextR (quoted s) = textE (textR [] (esc s ++ [34])) := by
    rw [quoted, nextR_cons, if_neg (by decide), if_neg (by decide), if_neg (by simp [isDg]), if_pos (by decide)]; rfl
  have hi : itemsF (quoted s).length 0 (quoted s) = match nextR (quoted s) with
      | .error e => [(wd0, some e)]
      | .ok x => (x.wd 0, none) :: itemsF (esc s ++ [34]).length (0 + x.len) ((quoted s).drop x.len) := rfl
  rw [cutW, hi, hx, h]
  cases s.all okCh with
  | false => rfl
  | true =>
    by_cases h16 : 16 < s.length
    · rw [if_pos rfl, if_pos rfl, if_pos h16, if_pos h16]; rfl
    · have hd : (quoted s).drop ((esc s).length + 1 + 1) = [] := List.drop_eq_nil_of_le (by simp [quoted])
      rw [if_pos rfl, if_pos rfl, if_neg h16, if_neg h16]
      show collect [] ((⟨3, s, 0, 0⟩, none) :: itemsF (esc s ++ [34]).length _ ((quoted s).drop ((esc s).length + 1 + 1))) = _
      rw [hd]
      cases (esc s ++ [34]).length <;> rfl
end Go.Sv
/- Numbers written and read. -/
namespace Go.Sv
open Go

/-- A number, digit by digit. -/
def natD (n : Nat) : List UInt8 := if h : n < 10 then [UInt8.ofNat (48 + n)] else natD (n / 10) ++ [UInt8.ofNat (48 + n % 10)]
termination_by n
decreasing_by omega
def decD (n : Int) : List UInt8 := if n < 0 then 45 :: natD n.natAbs else natD n.natAbs
def digV : Nat → List UInt8 → Nat
  | acc, [] => acc
  | acc, c :: l => digV (acc * 10 + (c.toNat - 48)) l
theorem digV_le : ∀ (l : List UInt8) (acc : Nat), acc ≤ digV acc l
  | [], _ => Nat.le_refl _
  | c :: l, acc => by
    exact Nat.le_trans (by omega) (digV_le l (acc * 10 + (c.toNat - 48)))
theorem digV_app : ∀ (l : List UInt8) (acc : Nat) (c : UInt8), digV acc (l ++ [c]) = digV acc l * 10 + (c.toNat - 48)
  | [], _, _ => rfl
  | d :: l, acc, c => digV_app l (acc * 10 + (d.toNat - 48)) c
theorem digB (n : Nat) (h : n < 10) : (UInt8.ofNat (48 + n)).toNat = 48 + n := by rw [UInt8.toNat_ofNat']; omega
theorem natD_dig (n : Nat) : (∀ c ∈ natD n, isDg c = true) ∧ natD n ≠ [] ∧ digV 0 (natD n) = n := by
  induction n using Nat.strongRecOn with
  | _ n ih =>
    rw [natD]
    split
    · rename_i h
      refine ⟨fun c hc => ?_, by simp, ?_⟩
      · rw [List.mem_singleton.1 hc]
        rw [isDg, digB n h, decide_eq_true (by omega), decide_eq_true (by omega)]; rfl
      · show 0 * 10 + ((UInt8.ofNat (48 + n)).toNat - 48) = n
        rw [digB n h]; omega
    · rename_i h
      obtain ⟨h1, h2, h3⟩ := ih (n / 10) (by omega)
      refine ⟨fun c hc => ?_, by simp, ?_⟩
      · rcases List.mem_append.1 hc with hc | hc
        · exact h1 c hc
        · rw [List.mem_singleton.1 hc]
          rw [isDg, digB (n % 10) (by omega), decide_eq_true (by omega), decide_eq_true (by omega)]; rfl
      · rw [digV_app, h3, digB _ (by omega)]; omega
theorem parse_digits : ∀ (l : List UInt8) (acc : Nat), (∀ c ∈ l, isDg c = true) → digV acc l ≤ 2 ^ 63 → Lib.parseUintM (2 ^ 64 - 1) acc l = .ok (digV acc l)
  | [], _, _, _ => rfl
  | c :: l, acc, h, hv => by
    have hc : 48 ≤ c.toNat ∧ c.toNat ≤ 57 := by simpa [isDg] using h c (by simp)
    have hv' : digV (acc * 10 + (c.toNat - 48)) l ≤ 2 ^ 63 := hv
    have h1 := Nat.le_trans (digV_le l (acc * 10 + (c.toNat - 48))) hv'
    have hr := parse_digits l _ (fun d hd => h d (by simp [hd])) hv'
    clear hv hv'
    rw [Lib.parseUintM, if_pos hc, if_neg (by omega), if_neg (by omega)]
    exact hr
theorem span_all {p : UInt8 → Bool} : ∀ {l : List UInt8}, (∀ c ∈ l, p c = true) → spanN p l = l.length
  | [], _ => rfl
  | c :: l, h => by rw [spanN_cons (h c (by simp)), span_all fun d hd => h d (by simp [hd])]; rfl
theorem parse_dec (n : Int) (h1 : -9223372036854775808 ≤ n) (h2 : n < 9223372036854775808) : Lib.parseIntB 64 (decD n) = .ok n := by
  obtain ⟨d1, d2, d3⟩ := natD_dig n.natAbs
  have hp := parse_digits (natD n.natAbs) 0 d1 (by rw [d3]; omega)
  rw [d3] at hp
  unfold decD
  split
  · rename_i h
    rw [Lib.parseIntB]
    rw [if_pos (.inr rfl), Lib.parseUintB, if_neg d2, hp]
    simp only
    rw [if_neg (by simp), if_neg (by omega), if_pos (by decide)]
    congr 1; omega
  · rename_i h
    cases hl : natD n.natAbs with
    | nil => exact absurd hl d2
    | cons c r =>
      have hc : 48 ≤ c.toNat ∧ c.toNat ≤ 57 := by simpa [isDg] using d1 c (by rw [hl]; simp)
      rw [hl] at hp
      rw [Lib.parseIntB]
      rw [if_neg (by omega), Lib.parseUintB, if_neg (by simp), hp]
      simp only
      rw [if_neg (by omega), if_neg (by omega), if_neg (by omega)]
      congr 1; omega
theorem dec_shape (n : Int) : ∃ c r, decD n = c :: r ∧ (∀ d ∈ r, isDg d = true) ∧ (isDg c = true ∨ (c = 45 ∧ r ≠ [])) := by
  obtain ⟨d1, d2, d3⟩ := natD_dig n.natAbs
  unfold decD
  split
  · exact ⟨45, _, rfl, d1, .inr ⟨rfl, d2⟩⟩
  · cases hl : natD n.natAbs with
    | nil => exact absurd hl d2
    | cons c r =>
      rw [hl] at d1
      exact ⟨c, r, rfl, fun d hd => d1 d (by simp [hd]), .inl (d1 c (by simp))⟩
theorem dg_not {c : UInt8} (h : isDg c = true) : isSm c = false ∧ isGr c = false ∧ c ≠ 32 := by
  have hc : 48 ≤ c.toNat ∧ c.toNat ≤ 57 := by simpa [isDg] using h
  refine ⟨by simp [isSm]; omega, by simp [isGr]; omega, ?_⟩
  rintro rfl; revert hc; decide
theorem cut_dec (n : Int) (h1 : -9223372036854775808 ≤ n) (h2 : n < 9223372036854775808) : cutW (decD n) = .ok [⟨2, [], n, 0⟩] := by
  have hp := parse_dec n h1 h2
  obtain ⟨c, r, e, hr, hc⟩ := dec_shape n
  rw [e] at hp ⊢
  have hn : numR (c :: r) = .ok ⟨2, [], n, (c :: r).length⟩ := by
    rw [numR, List.drop_succ_cons, List.drop_zero, span_all hr, List.take_of_length_le (by simp; omega), hp]
    simp [numE, Nat.add_comm]
  have hx : nextR (c :: r) = .ok ⟨2, [], n, (c :: r).length⟩ := by
    rw [nextR_cons]
    rcases hc with hc | ⟨rfl, hne⟩
    · obtain ⟨a1, a2, _⟩ := dg_not hc
      rw [a1, a2, hc, if_neg (by decide), if_neg (by decide), if_pos (Bool.true_or _), hn]
    · cases r with
      | nil => exact absurd rfl hne
      | cons d r' =>
        rw [if_neg (by decide), if_neg (by decide), if_pos (by simp [hr d (by simp)]), hn]
  have hne : c ≠ 32 := by
    rcases hc with hc | ⟨rfl, _⟩
    · exact (dg_not hc).2.2
    · decide
  have hi : itemsF (c :: r).length 0 (c :: r) = [(⟨2, [], n, 0⟩, none)] := by
    show itemsF (r.length + 1) 0 (c :: r) = _
    rw [show itemsF (r.length + 1) 0 (c :: r) = if c = 32 then itemsF r.length (0 + 1) r else match nextR (c :: r) with
      | .error e => [(wd0, some e)]
      | .ok x => (x.wd 0, none) :: itemsF r.length (0 + x.len) ((c :: r).drop x.len) from rfl, if_neg hne, hx]
    simp only
    rw [List.drop_length]
    cases r.length <;> rfl
  rw [cutW, hi]; rfl
end Go.Sv
/- Patterns and all texts, as plain functions. -/
namespace Go.Sv
open Go

def trueL : List UInt8 := [84, 82, 85, 69]
def falseL : List UInt8 := [70, 65, 76, 83, 69]
def showV (v : Val) : List UInt8 :=
  if valIs v then (if v.kind = 1 then decD v.n else if v.kind = 2 then quoted v.s else if v.n = 1 then trueL else falseL) else []
theorem showV_no {v : Val} (h : valIs v = false) : showV v = [] := by rw [showV, h]; rfl
theorem showV_1 {v : Val} (h : valIs v = true) (h1 : v.kind = 1) : showV v = decD v.n := by rw [showV, if_pos h, if_pos h1]
theorem showV_2 {v : Val} (h : valIs v = true) (h1 : v.kind = 2) : showV v = quoted v.s := by rw [showV, if_pos h, if_neg (by omega), if_pos h1]
theorem showV_t {v : Val} (h : valIs v = true) (h1 : v.kind ≠ 1) (h2 : v.kind ≠ 2) (h3 : v.n = 1) : showV v = trueL := by rw [showV, if_pos h, if_neg h1, if_neg h2, if_pos h3]
theorem showV_f {v : Val} (h : valIs v = true) (h1 : v.kind ≠ 1) (h2 : v.kind ≠ 2) (h3 : v.n ≠ 1) : showV v = falseL := by rw [showV, if_pos h, if_neg h1, if_neg h2, if_neg h3]

theorem natD_len : ∀ (k n : Nat), n < 10 ^ (k + 1) → (natD n).length ≤ k + 1
  | 0, n, h => by rw [natD, dif_pos (by omega)]; simp
  | k + 1, n, h => by
    rw [natD]
    split
    · simp
    · have := natD_len k (n / 10) (by rw [Nat.pow_succ] at h; omega)
      simp only [List.length_append, List.length_cons, List.length_nil]; omega
theorem decD_len21 (n : Int) (h1 : -9223372036854775808 ≤ n) (h2 : n < 9223372036854775808) : (decD n).length ≤ 21 := by
  have := natD_len 19 n.natAbs (by omega)
  unfold decD
  split
  · rw [List.length_cons]; omega
  · omega
theorem escB_len (c : UInt8) : (escB c).length ≤ 2 := by unfold escB; split <;> simp
theorem esc_len : ∀ s : List UInt8, (esc s).length ≤ 2 * s.length
  | [] => by simp [esc]
  | c :: s => by
    have h := esc_len s
    have h2 := escB_len c
    have : esc (c :: s) = escB c ++ esc s := by simp [esc]
    rw [this, List.length_append, List.length_cons]; omega
theorem showV_len (v : Val) (h : ValSm v) : (showV v).length ≤ 2 ^ 42 := by
  obtain ⟨h0, h1, h2⟩ := h
  unfold showV
  split
  · split
    · have := decD_len21 v.n h1 h2; omega
    · split
      · have := esc_len v.s
        simp only [quoted, List.length_cons, List.length_append, List.length_nil]; omega
      · split <;> decide
  · simp

/-- An element; a pattern. -/
structure El where
  al : List UInt8
  ty : List (List UInt8)
  plus : Bool
  nt : Bool
  cond : Ex
structure Pa where
  els : List El
  within : Int
  by_ : List UInt8
  any : Bool
def el0 : El := ⟨[], [], false, false, ex0⟩
def elC (e : El) : List V := str e.al :: .sl none (e.ty.map str) .no :: bV e.plus :: bV e.nt :: exC e.cond
def elV (e : El) : V := .agg (elC e)
def elsV (l : List El) : V := .sl (some 11) (l.map elV) .no
def paC (p : Pa) : List V := [elsV p.els, i64V p.within, str p.by_, bV p.any]

def zeroB (x : Ex) : Bool := headB x ex0
theorem zeroB_iff {x : Ex} : zeroB x = true ↔ x = ex0 := by
  obtain ⟨o, v, a, f, l⟩ := x
  constructor
  · intro h
    simp only [zeroB, headB, Bool.and_eq_true] at h
    obtain ⟨h1, h2, h3, h4, h5⟩ := h
    have e1 : o = 0 := of_decide_eq_true h1
    have e2 : v = val0 := of_decide_eq_true h2
    have e3 : a = [] := of_decide_eq_true h3
    have e4 : f = [] := of_decide_eq_true h4
    have h6 : l.length = 0 := of_decide_eq_true h5
    have e5 : l = [] := List.length_eq_zero_iff.1 h6
    rw [e1, e2, e3, e4, e5]; rfl
  · intro h; rw [h]; rfl
theorem zeroB_0 : zeroB ex0 = true := zeroB_iff.2 rfl

/-- What an element may be, by itself; where it stands. -/
def isElB (e : El) : Bool := isNm e.al && (decide (1 ≤ e.ty.length) && (decide (e.ty.length ≤ 3) && (riseB e.ty && (!(e.plus && e.nt) && (e.ty.all isNm && (zeroB e.cond || isExB e.cond))))))
def twiceB (l : List El) (i : Nat) (a : List UInt8) : Bool := (l.take i).any fun x => decide (x.al = a)
def ntAt (l : List El) (i : Nat) : Bool := (l.map (·.nt)).getD i false
def okAtB (l : List El) (i : Nat) (e : El) : Bool := isElB e && (!twiceB l i e.al && !(e.nt && (decide (0 < i) && ntAt l (i - 1))))
def isPaB (p : Pa) : Bool :=
  decide (1 ≤ p.els.length) && (decide (p.els.length ≤ 5) && (!ntAt p.els 0 && (!ntAt p.els (p.els.length - 1) && (decide (0 ≤ p.within) && (decide (p.within ≤ 1000) && ((decide (p.by_ = []) || isNm p.by_) &&
    (List.range p.els.length).all fun i => okAtB p.els i (p.els.getD i el0)))))))

/-- Texts. -/
def elT (e : El) : List UInt8 :=
  (if e.nt then [33] else []) ++ (e.al ++ [58] ++ Lib.join e.ty [124] ++ (if e.plus then [43] else []) ++ (if e.cond.op = 0 then [] else [91] ++ toldN showV 5 e.cond ++ [93]))
def seqL : List UInt8 := [83, 69, 81, 40]
def withinL : List UInt8 := [41, 32, 87, 73, 84, 72, 73, 78, 32]
def byL : List UInt8 := [32, 66, 89, 32]
def anyL : List UInt8 := [32, 65, 78, 89]
def paT (p : Pa) : List UInt8 :=
  seqL ++ Lib.join (p.els.map elT) [44, 32] ++ withinL ++ decD p.within ++ (if p.by_ = [] then [] else byL ++ p.by_) ++ (if p.any then anyL else [])
end Go.Sv
/- The parser of conditions and patterns, as plain functions. -/
namespace Go.Sv
open Go

/-- A number as show writes it, by fuel. -/
def natF : Nat → Nat → List UInt8
  | 0, _ => []
  | k + 1, n => if n < 10 then [UInt8.ofNat (48 + n)] else natF k (n / 10) ++ [UInt8.ofNat (48 + n % 10)]
def decF (n : Int) : List UInt8 := if n < 0 then 45 :: natF 20 n.natAbs else natF 20 n.natAbs
theorem natF_eq : ∀ (k n : Nat), n < 10 ^ (k + 1) → natF (k + 1) n = natD n
  | 0, n, h => by rw [natF, natD, if_pos (by omega), dif_pos (by omega)]
  | k + 1, n, h => by
    rw [natF, natD]
    by_cases h1 : n < 10
    · rw [if_pos h1, dif_pos h1]
    · rw [if_neg h1, dif_neg h1, natF_eq k (n / 10) (by rw [Nat.pow_succ] at h; omega)]
theorem decF_eq (n : Int) (h1 : -9223372036854775808 ≤ n) (h2 : n < 9223372036854775808) : decF n = decD n := by
  have h : natF 20 n.natAbs = natD n.natAbs := natF_eq 19 n.natAbs (by omega)
  rw [decF, decD, h]

def hdDg : List UInt8 → Bool
  | [] => false
  | c :: _ => isDg c
def plainW (s : List UInt8) (w : Wd) : Bool := (decF w.n).isPrefixOf (s.drop w.at_) && !hdDg ((s.drop w.at_).drop (decF w.n).length)

/-- The next word is of a kind, of a text. -/
def hdK (kind : Nat) : List Wd → Bool
  | [] => false
  | w :: _ => decide (w.kind = kind)
def hdT (kind : Nat) (t : List UInt8) : List Wd → Bool
  | [] => false
  | w :: _ => decide (w.kind = kind) && decide (w.text = t)
def andL : List UInt8 := [65, 78, 68]
def orL : List UInt8 := [79, 82]
def not3 : List UInt8 := [78, 79, 84]
def seq3 : List UInt8 := [83, 69, 81]
def within6 : List UInt8 := [87, 73, 84, 72, 73, 78]
def by2 : List UInt8 := [66, 89]
def any3 : List UInt8 := [65, 78, 89]

def beginsW (s : List UInt8) (l : List Wd) : Bool :=
  (hdK 2 l && plainW s (l.headD wd0)) || (hdK 3 l || (hdK 1 l || (hdT 4 trueL l || (hdT 4 falseL l || hdT 5 [40] l))))
/-- The sign between two kids; 0: none. -/
def osW (w : Wd) : Int :=
  if w.kind = 5 then (if w.text = [43] then 3 else if w.text = [45] then 4 else if w.text = [42] then 5 else if w.text = [61] then 6 else if w.text = [33, 61] then 7 else if w.text = [60] then 8 else if w.text = [60, 61] then 9 else 0)
  else if w.kind = 4 then (if w.text = andL then 10 else if w.text = orL then 11 else 0) else 0

/-- Words that are left, nodes so far: or what is wrong. -/
abbrev Got (α : Type) := Except Nat (α × List Wd × Nat)
def thenE {α β : Type} (r : Got α) (f : α → List Wd → Nat → Got β) : Got β :=
  match r with
  | .error e => .error e
  | .ok (x, l, n) => f x l n
/-- A word that must be there. -/
def mustE {α : Type} (kind : Nat) (t : List UInt8) (x : α) (l : List Wd) (n : Nat) : Got α := if hdT kind t l then .ok (x, l.tail, n) else .error 10
def takeE (kind : Nat) (l : List Wd) (n : Nat) : Got Wd := if hdK kind l then .ok (l.headD wd0, l.tail, n) else .error 10
def osE (l : List Wd) (n : Nat) : Got Int := if osW (l.headD wd0) = 0 then .error 10 else .ok (osW (l.headD wd0), l.tail, n)

def litX (v : Val) : Ex := .mk 1 v [] [] []
def nodeE (s : List UInt8) : Nat → List Wd → Nat → Got Ex
  | 0, l, _ => if beginsW s l then .error 12 else .error 10
  | k + 1, l, n =>
    if !beginsW s l then .error 10
    else if 24 < n + 1 then .error 12
    else if hdK 2 l then .ok (litX ⟨1, (l.headD wd0).n, []⟩, l.tail, n + 1)
    else if hdK 3 l then .ok (litX ⟨2, 0, (l.headD wd0).text⟩, l.tail, n + 1)
    else if hdT 4 trueL l then .ok (litX ⟨3, 1, []⟩, l.tail, n + 1)
    else if hdT 4 falseL l then .ok (litX ⟨3, 0, []⟩, l.tail, n + 1)
    else if hdK 1 l then
      thenE (mustE 5 [46] () l.tail (n + 1)) fun _ l1 n1 => thenE (takeE 1 l1 n1) fun f l2 n2 => .ok (.mk 2 val0 (l.headD wd0).text f.text [], l2, n2)
    else if hdT 4 not3 l.tail then
      thenE (nodeE s k l.tail.tail (n + 1)) fun x l1 n1 => mustE 5 [41] (.mk 12 val0 [] [] [x]) l1 n1
    else
      thenE (nodeE s k l.tail (n + 1)) fun a l1 n1 => thenE (osE l1 n1) fun o l2 n2 => thenE (nodeE s k l2 n2) fun b l3 n3 => mustE 5 [41] (.mk o val0 [] [] [a, b]) l3 n3

/-- Types, one behind the other. -/
def typesE : Nat → List (List UInt8) → List Wd → Nat → Got (List (List UInt8))
  | 0, acc, l, n => .ok (acc, l, n)
  | k + 1, acc, l, n => if hdT 5 [124] l then thenE (takeE 1 l.tail n) fun w l1 n1 => typesE k (acc ++ [w.text]) l1 n1 else .ok (acc, l, n)
def condE (s : List UInt8) (l : List Wd) (n : Nat) : Got Ex :=
  if hdT 5 [91] l then thenE (nodeE s 5 l.tail 0) fun x l1 n1 => mustE 5 [93] x l1 n1 else .ok (ex0, l, n)
def optT (kind : Nat) (t : List UInt8) (l : List Wd) : List Wd := if hdT kind t l then l.tail else l
def elemE (s : List UInt8) (l : List Wd) (n : Nat) : Got El :=
  thenE (takeE 1 (optT 5 [33] l) n) fun a l1 n1 => thenE (mustE 5 [58] () l1 n1) fun _ l2 n2 => thenE (takeE 1 l2 n2) fun t l3 n3 =>
    thenE (typesE l3.length [t.text] l3 n3) fun ty l4 n4 => thenE (condE s (optT 5 [43] l4) n4) fun x l5 n5 =>
      .ok (⟨a.text, ty, hdT 5 [43] l4, hdT 5 [33] l, x⟩, l5, n5)
def elemsE (s : List UInt8) : Nat → List El → List Wd → Nat → Got (List El)
  | 0, acc, l, n => .ok (acc, l, n)
  | k + 1, acc, l, n => if hdT 5 [44] l then thenE (elemE s l.tail n) fun e l1 n1 => elemsE s k (acc ++ [e]) l1 n1 else .ok (acc, l, n)
def byE (l : List Wd) (n : Nat) : Got (List UInt8) := if hdT 4 by2 l then thenE (takeE 1 l.tail n) fun w l1 n1 => .ok (w.text, l1, n1) else .ok ([], l, n)
def withinE (s : List UInt8) (l : List Wd) (n : Nat) : Got Int :=
  if hdK 2 l && (plainW s (l.headD wd0) && (decide (0 ≤ (l.headD wd0).n) && decide ((l.headD wd0).n ≤ 1000))) then .ok ((l.headD wd0).n, l.tail, n) else .error 10
def patE (s : List UInt8) (l : List Wd) (n : Nat) : Got Pa :=
  thenE (mustE 4 seq3 () l n) fun _ l1 n1 => thenE (mustE 5 [40] () l1 n1) fun _ l2 n2 => thenE (elemE s l2 n2) fun e l3 n3 =>
    thenE (elemsE s l3.length [e] l3 n3) fun es l4 n4 => thenE (mustE 5 [41] () l4 n4) fun _ l5 n5 => thenE (mustE 4 within6 () l5 n5) fun _ l6 n6 =>
      thenE (withinE s l6 n6) fun w l7 n7 => thenE (byE l7 n7) fun b l8 n8 => .ok (⟨es, w, b, hdT 4 any3 l8⟩, optT 4 any3 l8, n8)
def endE {α : Type} : Got α → Except Nat α
  | .error e => .error e
  | .ok (x, l, _) => if l = [] then .ok x else .error 10
def parseExE (s : List UInt8) : Except Nat Ex :=
  match cutW s with
  | .error e => .error e
  | .ok l => endE (nodeE s 5 l 0)
def parsePaE (s : List UInt8) : Except Nat Pa :=
  match cutW s with
  | .error e => .error e
  | .ok l => match endE (patE s l 0) with
    | .error e => .error e
    | .ok p => if isPaB p then .ok p else .error 10
end Go.Sv
/- Numbers written, as the reference has it. -/
namespace Go.Sv
open Go Go.Proofs

theorem natD_le (m : Nat) : (natD m).length ≤ m + 1 := by
  induction m using Nat.strongRecOn with
  | _ m ih =>
    rw [natD]
    split
    · simp
    · have := ih (m / 10) (by omega)
      rw [List.length_append, List.length_singleton]; omega
theorem natD_20 (m : Nat) (h : m < 10 ^ 20) : (natD m).length ≤ 20 := by
  have key : ∀ (k m : Nat), m < 10 ^ (k + 1) → (natD m).length ≤ k + 1 := by
    intro k
    induction k with
    | zero => intro m hm; rw [natD, dif_pos (by simpa using hm)]; simp
    | succ k ih =>
      intro m hm
      rw [natD]
      split
      · simp
      · have h3 := ih (m / 10) (by rw [Nat.pow_succ] at hm; omega)
        rw [List.length_append, List.length_singleton]; omega
  exact key 19 m h
theorem addByte {v : V} {out : List UInt8} {c : UInt8} (h : v = V.c (.string (S out ++ ⟨([byteV c].map byteOf).toArray⟩))) : Vle v (str (out ++ [c])) := by
  rw [show ([byteV c].map byteOf) = [c] from map_byteOf [c], show (⟨[c].toArray⟩ : ByteArray) = S [c] from rfl, S_append] at h
  exact Vle.eq h
theorem addByteI {v : V} {out : List UInt8} {x : Int} (c : UInt8) (hx : x = c.toNat) (h : v = V.c (.string (S out ++ ⟨([V.c (.int .u8 x)].map byteOf).toArray⟩))) : Vle v (str (out ++ [c])) := by subst hx; exact addByte h
theorem sliceOne {s : List UInt8} {i : Nat} {c : UInt8} (h : s[i]? = some c) {x y : Int} (hx : x = i) (hy : y = (i + 1 : Nat)) : (S s).extract x.toNat y.toNat = S [c] := by
  subst hx; subst hy
  rw [S_extract, Int.toNat_natCast, Int.toNat_natCast, List.take_add_one, h]
  have hi := (List.getElem?_eq_some_iff.1 h).1
  rw [List.drop_append_of_le_length (by rw [List.length_take]; omega), List.drop_eq_nil_of_le (by rw [List.length_take]; omega)]; rfl
theorem addOne {v : V} {s out : List UInt8} {i : Nat} {c : UInt8} (h : s[i]? = some c) {x y : Int} (hx : x = i) (hy : y = (i + 1 : Nat)) (hv : v = V.c (.string (S out ++ (S s).extract x.toNat y.toNat))) : Vle v (str (out ++ [c])) := by
  rw [sliceOne h hx hy, S_append] at hv
  exact Vle.eq hv

set_option maxRecDepth 100000 in
theorem nat_call (n : Nat) (hn : n < 2 ^ 64) : PCall Tryz.prog 54 [u64V n] (str (natD n)) := by
  induction n using Nat.strongRecOn with
  | _ n ih =>
  refine scall_of (live := []) (ords := []) Tryz.func54 rfl (by kernel_rfl) (by kernel_rfl) (Nat.le_of_ble_eq_true rfl) ?_
  rw [natD]
  (conv => arg 2; whnf); refine wp_ite (fun h => ?_) (fun h => ?_)
  · have h : n < 10 := by have := of_decide_eq_true h; omega
    have e1 : IntKind.u8.wrap (IntKind.u64.wrap (48 + (n : Int))) = ((UInt8.ofNat (48 + n)).toNat : Int) := by
      rw [w_u64_small (by omega) (by omega), digB n h, w_u8]; omega
    rw [dif_pos h]
    (conv => arg 2; whnf); refine wp_need (byteNeedI _ e1) ?_
    (conv => arg 2; whnf); refine w_retp rfl (byteStrI _ e1 rfl)
  · have h : ¬ n < 10 := by have := of_decide_eq_false h; omega
    rw [dif_neg h]
    have e0 : IntKind.u64.wrap ((n : Int).tdiv 10) = ((n / 10 : Nat) : Int) := by
      rw [Int.tdiv_eq_ediv_of_nonneg (by omega), w_u64_small (by omega) (by omega)]; omega
    have e1 : IntKind.u8.wrap (IntKind.u64.wrap (48 + (n : Int).tmod 10)) = ((UInt8.ofNat (48 + n % 10)).toNat : Int) := by
      rw [show (10 : Int) = ((10 : Nat) : Int) from rfl, tmod_nat, w_u64_small (by omega) (by omega), digB (n % 10) (by omega), w_u8]; omega
    have hlen := natD_le (n / 10)
    (conv => arg 2; whnf); refine wp_pcV (.cons (Vle.of _ rfl (cU64 e0)) .nil) (ih (n / 10) (by omega) (by omega)) ?_
    (conv => arg 2; whnf); refine wp_need (byteNeedI _ e1) ?_
    (conv => arg 2; whnf); refine wp_need (by rw [S_size]; show _ + 1 ≤ _; omega) ?_
    (conv => arg 2; whnf); refine w_retp rfl (addByteI _ e1 rfl)

set_option maxRecDepth 100000 in
theorem dec_call (n : Int) (h1 : -9223372036854775808 ≤ n) (h2 : n < 9223372036854775808) : PCall Tryz.prog 24 [i64V n] (str (decD n)) := by
  refine scall_of (live := []) (ords := []) Tryz.func24 rfl (by kernel_rfl) (by kernel_rfl) (Nat.le_of_ble_eq_true rfl) ?_
  have f := nat_call n.natAbs (by omega)
  rw [decD]
  (conv => arg 2; whnf); refine wp_ite (fun h => ?_) (fun h => ?_)
  · have h : n < 0 := of_decide_eq_true h
    rw [if_pos h]
    have a1 : IntKind.i64.wrap (n + 1) = n + 1 := w_i64_small (by omega) (by omega)
    have a2 : IntKind.i64.wrap (0 - (n + 1)) = 0 - (n + 1) := w_i64_small (by omega) (by omega)
    have a3 : IntKind.u64.wrap (0 - (n + 1)) = 0 - (n + 1) := w_u64_small (by omega) (by omega)
    have e1 : IntKind.u64.wrap (IntKind.u64.wrap (IntKind.i64.wrap (0 - (IntKind.i64.wrap (n + 1)))) + 1) = (n.natAbs : Int) := by
      rw [a1, a2, a3, w_u64_small (by omega) (by omega)]; omega
    (conv => arg 2; whnf); refine wp_pcallV (.cons (Vle.of _ rfl (cU64 e1)) .nil) f ?_
    have hl := natD_20 n.natAbs (by omega)
    (conv => arg 2; whnf); refine wp_need (by rw [S_size]; show 1 + _ ≤ _; omega) ?_
    (conv => arg 2; whnf); refine w_retp rfl (addStr [45] _ rfl)
  · have h : ¬ n < 0 := of_decide_eq_false h
    rw [if_neg h]
    have e1 : IntKind.u64.wrap n = (n.natAbs : Int) := by rw [w_u64_small (by omega) (by omega)]; omega
    (conv => arg 2; whnf); refine wp_pcallV (.cons (Vle.of _ rfl (cU64 e1)) .nil) f ?_
    (conv => arg 2; whnf); refine w_retp rfl (.refl _)
end Go.Sv
