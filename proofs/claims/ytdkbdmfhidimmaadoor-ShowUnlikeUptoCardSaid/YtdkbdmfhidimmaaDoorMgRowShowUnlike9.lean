/- Parts of the proof, one behind the other. -/
import Derived.Test.YtdkbdmfhidimmaaDoorMgRowShowUnlike8
import Derived.Test.YtdkbdmfhidimmaaDoorMgRowShowUnlike7
/- The same elements, the same patterns: the reference's. -/
namespace Go.Sv
open Go Go.Proofs

theorem refsameC_call (x y : Ex) (h : ExBd x) (g : x = ex0 ∨ (x.op ≠ 0 ∧ shapedN 5 x = true)) : PCall Tryd.prog 26 [.agg (exC x), .agg (exC y)] (bV (sameB 5 x y)) := by
  rcases g with rfl | ⟨_, hs⟩
  · have := refsame_step ex0 y (fun i => sameB 4 (ex0.kids.getD i ex0) (y.kids.getD i ex0)) (by decide) (fun n a b ha hb => by simp [ex0, Ex.kids] at ha)
    exact this
  · exact refsame_call 5 x y h.2.1.less hs
theorem sameC_iff {x y : Ex} (g : x = ex0 ∨ (x.op ≠ 0 ∧ shapedN 5 x = true)) : sameB 5 x y = true ↔ x = y := by
  rcases g with rfl | ⟨_, hs⟩
  · rw [sameB_zero, zeroB_iff, eq_comm]
  · exact sameB_iff 5 x y hs

def sameElB (e f : El) : Bool := decide (e.al = f.al) && (decide (e.ty = f.ty) && ((e.plus == f.plus) && ((e.nt == f.nt) && sameB 5 e.cond f.cond)))
theorem sameEl_iff {e f : El} (g : ElGood e) : sameElB e f = true ↔ e = f := by
  rw [sameElB, Bool.and_eq_true, Bool.and_eq_true, Bool.and_eq_true, Bool.and_eq_true, sameC_iff g.cond, beq_iff_eq, beq_iff_eq]
  constructor
  · rintro ⟨h1, h2, h3, h4, h5⟩
    have h1 := of_decide_eq_true h1
    have h2 := of_decide_eq_true h2
    obtain ⟨a, b, c, d, x⟩ := e
    obtain ⟨a', b', c', d', x'⟩ := f
    simp only at h1 h2 h3 h4 h5
    rw [h1, h2, h3, h4, h5]
  · rintro rfl
    exact ⟨decide_eq_true rfl, decide_eq_true rfl, rfl, rfl, rfl⟩

set_option maxRecDepth 100000 in
theorem sameelem_call (e f : El) (h : ElBd e) (g : ElGood e) : PCall Tryd.prog 52 [.agg (elC e), .agg (elC f)] (bV (sameElB e f)) := by
  have fs := refsameC_call e.cond f.cond h.2.2.2 g.cond
  have ft := sametexts_call e.ty f.ty (by have := h.2.1; omega)
  have ha := strEq e.al f.al
  refine scall_of (live := []) (ords := []) Tryd.func52 rfl (by kernel_rfl) (by kernel_rfl) (Nat.le_of_ble_eq_true rfl) ?_
  (conv => arg 2; whnf); refine wp_ite (fun h1 => ?_) (fun h1 => ?no1)
  case no1 =>
    have h1 : decide (e.al = f.al) = false := ha.symm.trans h1
    (repeat ((conv => arg 2; whnf); first | refine wp_ite (fun _ => ?_) (fun h => Bool.noConfusion h) | refine wp_ite (fun h => Bool.noConfusion h) (fun _ => ?_)))
    (conv => arg 2; whnf); refine w_retp rfl (Vle.eq (cBool (by rw [sameElB, h1]; rfl)))
  have h1 : decide (e.al = f.al) = true := ha.symm.trans h1
  (conv => arg 2; whnf); refine wp_pcall ft ?_
  (conv => arg 2; whnf); refine wp_ite (fun h2 => ?_) (fun h2 => ?no2)
  case no2 =>
    have h2 : decide (e.ty = f.ty) = false := h2
    (repeat ((conv => arg 2; whnf); first | refine wp_ite (fun _ => ?_) (fun h => Bool.noConfusion h) | refine wp_ite (fun h => Bool.noConfusion h) (fun _ => ?_)))
    (conv => arg 2; whnf); refine w_retp rfl (Vle.eq (cBool (by rw [sameElB, h1, h2]; rfl)))
  have h2 : decide (e.ty = f.ty) = true := h2
  (conv => arg 2; whnf); refine wp_ite (fun h3 => ?_) (fun h3 => ?no3)
  case no3 =>
    have h3 : (e.plus == f.plus) = false := h3
    (repeat ((conv => arg 2; whnf); first | refine wp_ite (fun _ => ?_) (fun h => Bool.noConfusion h) | refine wp_ite (fun h => Bool.noConfusion h) (fun _ => ?_)))
    (conv => arg 2; whnf); refine w_retp rfl (Vle.eq (cBool (by rw [sameElB, h1, h2, h3]; rfl)))
  have h3 : (e.plus == f.plus) = true := h3
  (conv => arg 2; whnf); refine wp_ite (fun h4 => ?_) (fun h4 => ?no4)
  case no4 =>
    have h4 : (e.nt == f.nt) = false := h4
    (repeat ((conv => arg 2; whnf); first | refine wp_ite (fun _ => ?_) (fun h => Bool.noConfusion h) | refine wp_ite (fun h => Bool.noConfusion h) (fun _ => ?_)))
    (conv => arg 2; whnf); refine w_retp rfl (Vle.eq (cBool (by rw [sameElB, h1, h2, h3, h4]; rfl)))
  have h4 : (e.nt == f.nt) = true := h4
  (conv => arg 2; whnf); refine wp_pcall fs ?_
  (conv => arg 2; whnf); refine w_retp rfl (Vle.eq (cBool (by rw [sameElB, h1, h2, h3, h4]; rfl)))

def samePaB (p q : Pa) : Bool := decide (p.els.length = q.els.length) && (decide (p.within = q.within) && (decide (p.by_ = q.by_) && ((p.any == q.any) && (List.range p.els.length).all fun i => sameElB (p.els.getD i el0) (q.els.getD i el0))))
theorem samePa_iff {p q : Pa} (g : ∀ e ∈ p.els, ElGood e) : samePaB p q = true ↔ p = q := by
  rw [samePaB, Bool.and_eq_true, Bool.and_eq_true, Bool.and_eq_true, Bool.and_eq_true, beq_iff_eq]
  constructor
  · rintro ⟨h1, h2, h3, h4, h5⟩
    have h1 := of_decide_eq_true h1
    have h2 := of_decide_eq_true h2
    have h3 := of_decide_eq_true h3
    have he : p.els = q.els := by
      apply List.ext_getElem h1
      intro i i1 i2
      have h6 := List.all_eq_true.1 h5 i (List.mem_range.2 i1)
      have e1 : p.els[i]? = some p.els[i] := List.getElem?_eq_getElem i1
      have e2 : q.els[i]? = some q.els[i] := List.getElem?_eq_getElem i2
      rw [getDx e1, getDx e2] at h6
      exact (sameEl_iff (g _ (List.getElem_mem i1))).1 h6
    obtain ⟨a, b, c, d⟩ := p
    obtain ⟨a', b', c', d'⟩ := q
    simp only at h2 h3 h4 he
    rw [h2, h3, h4, he]
  · rintro rfl
    refine ⟨decide_eq_true rfl, decide_eq_true rfl, decide_eq_true rfl, rfl, List.all_eq_true.2 fun i hi => ?_⟩
    have i1 := List.mem_range.1 hi
    have e1 : p.els[i]? = some p.els[i] := List.getElem?_eq_getElem i1
    rw [getDx e1]
    exact (sameEl_iff (g _ (List.getElem_mem i1))).2 rfl

set_option maxRecDepth 100000 in
theorem samepattern_call (p q : Pa) (h : PaBd p) (g : ∀ e ∈ p.els, ElGood e) : PCall Tryd.prog 28 [.agg (paC p), .agg (paC q)] (bV (samePaB p q)) := by
  obtain ⟨hl, he, _⟩ := h
  have hb := strEq p.by_ q.by_
  refine scall_of (live := []) (ords := []) Tryd.func28 rfl (by kernel_rfl) (by kernel_rfl) (Nat.le_of_ble_eq_true rfl) ?_
  (conv => arg 2; whnf); refine wp_ite (fun h1 => ?_) (fun h1 => ?_)
  · have h1 : decide (p.els.length = q.els.length) = false := decide_eq_false (fun e => by simp [e] at h1)
    (repeat ((conv => arg 2; whnf); first | refine wp_ite (fun _ => ?_) (fun h => Bool.noConfusion h) | refine wp_ite (fun h => Bool.noConfusion h) (fun _ => ?_)))
    (conv => arg 2; whnf); refine w_retp rfl (Vle.eq (cBool (by rw [samePaB, h1]; rfl)))
  have hlen : p.els.length = q.els.length := by
    simp at h1
    omega
  have h1 : decide (p.els.length = q.els.length) = true := decide_eq_true hlen
  (conv => arg 2; whnf); refine wp_ite (fun h2 => ?_) (fun h2 => ?_)
  · have h2 : decide (p.within = q.within) = false := decide_eq_false (by simpa using h2)
    (repeat ((conv => arg 2; whnf); first | refine wp_ite (fun _ => ?_) (fun h => Bool.noConfusion h) | refine wp_ite (fun h => Bool.noConfusion h) (fun _ => ?_)))
    (conv => arg 2; whnf); refine w_retp rfl (Vle.eq (cBool (by rw [samePaB, h1, h2]; rfl)))
  have h2 : decide (p.within = q.within) = true := decide_eq_true (by simpa using h2)
  (conv => arg 2; whnf); refine wp_ite (fun h3 => ?_) (fun h3 => ?_)
  · have h3 : decide (p.by_ = q.by_) = false := by rw [hb] at h3; simpa using h3
    (repeat ((conv => arg 2; whnf); first | refine wp_ite (fun _ => ?_) (fun h => Bool.noConfusion h) | refine wp_ite (fun h => Bool.noConfusion h) (fun _ => ?_)))
    (conv => arg 2; whnf); refine w_retp rfl (Vle.eq (cBool (by rw [samePaB, h1, h2, h3]; rfl)))
  have h3 : decide (p.by_ = q.by_) = true := by rw [hb] at h3; simpa using h3
  (conv => arg 2; whnf); refine wp_ite (fun h4 => ?_) (fun h4 => ?_)
  · have h4 : (p.any == q.any) = false := by cases hp : p.any <;> cases hq : q.any <;> rw [hp, hq] at h4 <;> first | rfl | cases h4
    (repeat ((conv => arg 2; whnf); first | refine wp_ite (fun _ => ?_) (fun h => Bool.noConfusion h) | refine wp_ite (fun h => Bool.noConfusion h) (fun _ => ?_)))
    (conv => arg 2; whnf); refine w_retp rfl (Vle.eq (cBool (by rw [samePaB, h1, h2, h3, h4]; rfl)))
  have h4 : (p.any == q.any) = true := by cases hp : p.any <;> cases hq : q.any <;> rw [hp, hq] at h4 <;> first | rfl | cases h4
  have hall : samePaB p q = (List.range p.els.length).all fun i => sameElB (p.els.getD i el0) (q.els.getD i el0) := by rw [samePaB, h1, h2, h3, h4]; rfl
  rw [hall]
  (conv => arg 2; whnf); refine wp_loop (fun m fr R => ∃ n : Nat, m = p.els.length - n ∧ n ≤ p.els.length ∧ R = [] ∧ ((List.range n).all fun i => sameElB (p.els.getD i el0) (q.els.getD i el0)) = true ∧ fr = frL [(2, .pt (some 4) (.agg (paC p)) 0), (3, .pt (some 4) (.agg (paC q)) 0), (5, i64V n)])
    p.els.length _ _ (.cons (.refl _) (.cons (.refl _) (.cons (.refl _) (.nil _)))) (List.Sublist.refl _) ⟨0, rfl, Nat.zero_le _, rfl, rfl, rfl⟩ ?_
  rintro m fr R ⟨n, rfl, hn, rfl, ha, rfl⟩
  (conv => arg 2; whnf); refine wp_ite (fun h5 => ?_) (fun h5 => ?_)
  · have h5 : n < p.els.length := by have := of_decide_eq_true h5; rw [List.length_map] at this; omega
    obtain ⟨e, hen⟩ : ∃ e, p.els[n]? = some e := ⟨_, List.getElem?_eq_getElem h5⟩
    obtain ⟨f, hfn⟩ : ∃ e, q.els[n]? = some e := ⟨_, List.getElem?_eq_getElem (by omega)⟩
    have hm := List.mem_of_getElem? hen
    have fc := sameelem_call e f (he e hm) (g e hm)
    (conv => arg 2; whnf); refine wp_elem n (.agg (elC e)) rfl (els_at hen) (Vle.refl _) ?_
    (conv => arg 2; whnf); refine wp_elem n (.agg (elC f)) rfl (els_at hfn) (Vle.refl _) ?_
    (conv => arg 2; whnf); refine wp_pc fc ?_
    (conv => arg 2; whnf); refine wp_ite (fun h6 => ?_) (fun h6 => ?_)
    · have h6 : sameElB e f = false := by simpa using h6
      (conv => arg 2; whnf)
      refine wp_leaf (loop_ret ?_)
      (conv => arg 2; whnf); refine w_retp rfl (Vle.eq (cBool ?_))
      symm
      rw [List.all_eq_false]; exact ⟨n, List.mem_range.2 h5, by rw [getDx hen, getDx hfn, h6]; simp⟩
    · have h6 : sameElB e f = true := by simpa using h6
      (conv => arg 2; whnf)
      refine wp_leaf (loop_next (p.els.length - (n + 1)) _ _ (by omega) (.cons (.refl _) (.cons (.refl _) (.cons (Vle.inc n rfl (by omega)) (.nil _)))) (List.Sublist.refl _) ⟨n + 1, rfl, h5, rfl, ?_, rfl⟩)
      rw [List.range_succ, List.all_append, ha]
      simp only [List.all_cons, List.all_nil]
      rw [getDx hen, getDx hfn, h6]; rfl
  · have h5 : n = p.els.length := by have := of_decide_eq_false h5; rw [List.length_map] at this; omega
    subst h5
    (conv => arg 2; whnf)
    refine wp_leaf (loop_exit ?_)
    (conv => arg 2; whnf); refine w_retp rfl (Vle.eq (cBool ha.symm))
end Go.Sv
/- pasternlaw8: what is wide; what is known. -/
namespace Go.Sv
open Go Go.Proofs

def wideN (z : Ex) : Bool := decide (4 < z.kids.length) || (decide (50 < z.al.length) || (decide (50 < z.fd.length) || decide (50 < z.val.s.length)))
def wideB (x : Ex) : Bool := (nodesN 20 x).any wideN || decide (200 < (nodesN 20 x).length)
theorem wideB_hit {x z : Ex} (h : z ∈ nodesN 20 x) (h' : wideN z = true) : wideB x = true := by
  rw [wideB, List.any_eq_true.2 ⟨z, h, h'⟩]; rfl

set_option maxRecDepth 100000 in
theorem wide_call (x : Ex) (h : ExBd x) : PCall Tryd.prog 17 [.agg (exC x)] (bV (wideB x)) := by
  have fn := refNodes_call x h.1 h.2.2.2
  have hl := h.2.2.2
  refine scall_of (live := []) (ords := []) Tryd.func17 rfl (by kernel_rfl) (by kernel_rfl) (Nat.le_of_ble_eq_true rfl) ?_
  (conv => arg 2; whnf); refine wp_pcall fn ?_
  (conv => arg 2; whnf); refine wp_loop (fun m fr R => ∃ n : Nat, m = (nodesN 20 x).length - n ∧ n ≤ (nodesN 20 x).length ∧ R = [] ∧ ((nodesN 20 x).take n).any wideN = false ∧ fr = frL [(3, exsV (nodesN 20 x)), (4, i64V n)])
    (nodesN 20 x).length _ _ (.cons (.refl _) (.cons (.refl _) (.nil _))) (List.Sublist.refl _) ⟨0, rfl, Nat.zero_le _, rfl, rfl, rfl⟩ ?_
  rintro m fr R ⟨n, rfl, hn, rfl, ha, rfl⟩
  (conv => arg 2; whnf); refine wp_ite (fun h0 => ?_) (fun h0 => ?_)
  · have h0 : n < (nodesN 20 x).length := by have := of_decide_eq_true h0; rw [List.length_map] at this; omega
    obtain ⟨z, hz⟩ : ∃ z, (nodesN 20 x)[n]? = some z := ⟨_, List.getElem?_eq_getElem h0⟩
    have hm := List.mem_of_getElem? hz
    (conv => arg 2; whnf); refine wp_elem n (.agg (exC z)) rfl (exs_at hz) (Vle.refl _) ?_
    (conv => arg 2; whnf); refine wp_ite (fun h1 => ?_) (fun h1 => ?_)
    · have h1 : wideN z = true := by
        have := of_decide_eq_true h1
        rw [List.length_map] at this
        rw [wideN, decide_eq_true (by omega : 4 < z.kids.length)]; rfl
      (repeat ((conv => arg 2; whnf); first | refine wp_ite (fun _ => ?_) (fun h => Bool.noConfusion h) | refine wp_ite (fun h => Bool.noConfusion h) (fun _ => ?_)))
      (conv => arg 2; whnf)
      refine wp_leaf (loop_ret ?_)
      (conv => arg 2; whnf); refine w_retp rfl (Vle.eq (cBool (wideB_hit hm h1).symm))
    have h1 : decide (4 < z.kids.length) = false := by
      have := of_decide_eq_false h1
      rw [List.length_map] at this
      exact decide_eq_false (by omega)
    (conv => arg 2; whnf); refine wp_elem n (.agg (exC z)) rfl (exs_at hz) (Vle.refl _) ?_
    (conv => arg 2; whnf); refine wp_ite (fun h2 => ?_) (fun h2 => ?_)
    · have h2 : wideN z = true := by
        have := of_decide_eq_true h2
        rw [S_size] at this
        rw [wideN, decide_eq_true (by omega : 50 < z.al.length)]; simp
      (repeat ((conv => arg 2; whnf); first | refine wp_ite (fun _ => ?_) (fun h => Bool.noConfusion h) | refine wp_ite (fun h => Bool.noConfusion h) (fun _ => ?_)))
      (conv => arg 2; whnf)
      refine wp_leaf (loop_ret ?_)
      (conv => arg 2; whnf); refine w_retp rfl (Vle.eq (cBool (wideB_hit hm h2).symm))
    have h2 : decide (50 < z.al.length) = false := by
      have := of_decide_eq_false h2
      rw [S_size] at this
      exact decide_eq_false (by omega)
    (conv => arg 2; whnf); refine wp_elem n (.agg (exC z)) rfl (exs_at hz) (Vle.refl _) ?_
    (conv => arg 2; whnf); refine wp_ite (fun h3 => ?_) (fun h3 => ?_)
    · have h3 : wideN z = true := by
        have := of_decide_eq_true h3
        rw [S_size] at this
        rw [wideN, decide_eq_true (by omega : 50 < z.fd.length)]; simp
      (repeat ((conv => arg 2; whnf); first | refine wp_ite (fun _ => ?_) (fun h => Bool.noConfusion h) | refine wp_ite (fun h => Bool.noConfusion h) (fun _ => ?_)))
      (conv => arg 2; whnf)
      refine wp_leaf (loop_ret ?_)
      (conv => arg 2; whnf); refine w_retp rfl (Vle.eq (cBool (wideB_hit hm h3).symm))
    have h3 : decide (50 < z.fd.length) = false := by
      have := of_decide_eq_false h3
      rw [S_size] at this
      exact decide_eq_false (by omega)
    (conv => arg 2; whnf); refine wp_elem n (.agg (exC z)) rfl (exs_at hz) (Vle.refl _) ?_
    (conv => arg 2; whnf); refine wp_ite (fun h4 => ?_) (fun h4 => ?_)
    · have h4 : wideN z = true := by
        have := of_decide_eq_true h4
        rw [S_size] at this
        rw [wideN, decide_eq_true (by omega : 50 < z.val.s.length)]; simp
      (conv => arg 2; whnf)
      refine wp_leaf (loop_ret ?_)
      (conv => arg 2; whnf); refine w_retp rfl (Vle.eq (cBool (wideB_hit hm h4).symm))
    have h4 : decide (50 < z.val.s.length) = false := by
      have := of_decide_eq_false h4
      rw [S_size] at this
      exact decide_eq_false (by omega)
    have hno : wideN z = false := by rw [wideN, h1, h2, h3, h4]; rfl
    (conv => arg 2; whnf)
    refine wp_leaf (loop_next ((nodesN 20 x).length - (n + 1)) _ _ (by omega) (.cons (.refl _) (.cons (Vle.inc n rfl (by omega)) (.nil _))) (List.Sublist.refl _) ⟨n + 1, rfl, h0, rfl, ?_, rfl⟩)
    rw [List.take_add_one, hz, List.any_append, ha]
    simp [hno]
  · have h0 : n = (nodesN 20 x).length := by have := of_decide_eq_false h0; rw [List.length_map] at this; omega
    subst h0
    rw [List.take_length] at ha
    (conv => arg 2; whnf)
    refine wp_leaf (loop_exit ?_)
    (conv => arg 2; whnf); refine w_retp rfl (Vle.eq (cBool ?_))
    rw [wideB, ha, Bool.false_or]
    exact decide_eq_decide.2 (by rw [List.length_map]; omega)

def wideElB (e : El) : Bool := wideB e.cond || decide (10 < e.ty.length)
def wideAnyB (p : Pa) : Bool := p.els.any wideElB || decide (10 < p.els.length)
theorem wideAny_hit {p : Pa} {e : El} (h : e ∈ p.els) (h' : wideElB e = true) : wideAnyB p = true := by
  rw [wideAnyB, List.any_eq_true.2 ⟨e, h, h'⟩]; rfl

set_option maxRecDepth 100000 in
theorem wideany_call (p : Pa) (h : PaBd p) : PCall Tryd.prog 18 [.agg (paC p)] (bV (wideAnyB p)) := by
  obtain ⟨hl, he, _⟩ := h
  refine scall_of (live := []) (ords := []) Tryd.func18 rfl (by kernel_rfl) (by kernel_rfl) (Nat.le_of_ble_eq_true rfl) ?_
  (conv => arg 2; whnf); refine wp_loop (fun m fr R => ∃ n : Nat, m = p.els.length - n ∧ n ≤ p.els.length ∧ R = [] ∧ (p.els.take n).any wideElB = false ∧ fr = frL [(1, .pt (some 4) (.agg (paC p)) 0), (3, i64V n)])
    p.els.length _ _ (.cons (.refl _) (.cons (.refl _) (.nil _))) (List.Sublist.refl _) ⟨0, rfl, Nat.zero_le _, rfl, rfl, rfl⟩ ?_
  rintro m fr R ⟨n, rfl, hn, rfl, ha, rfl⟩
  (conv => arg 2; whnf); refine wp_ite (fun h0 => ?_) (fun h0 => ?_)
  · have h0 : n < p.els.length := by have := of_decide_eq_true h0; rw [List.length_map] at this; omega
    obtain ⟨e, hen⟩ : ∃ e, p.els[n]? = some e := ⟨_, List.getElem?_eq_getElem h0⟩
    have hm := List.mem_of_getElem? hen
    have fw := wide_call e.cond (he e hm).2.2.2
    (conv => arg 2; whnf); refine wp_elem n (.agg (elC e)) rfl (els_at hen) (Vle.refl _) ?_
    (conv => arg 2; whnf); refine wp_pcall fw ?_
    (conv => arg 2; whnf); refine wp_ite (fun h1 => ?_) (fun h1 => ?_)
    · have h1 : wideElB e = true := by rw [wideElB, show wideB e.cond = true from h1]; rfl
      (repeat ((conv => arg 2; whnf); first | refine wp_ite (fun _ => ?_) (fun h => Bool.noConfusion h) | refine wp_ite (fun h => Bool.noConfusion h) (fun _ => ?_)))
      (conv => arg 2; whnf)
      refine wp_leaf (loop_ret ?_)
      (conv => arg 2; whnf); refine w_retp rfl (Vle.eq (cBool (wideAny_hit hm h1).symm))
    have h1 : wideB e.cond = false := h1
    (conv => arg 2; whnf); refine wp_elem n (.agg (elC e)) rfl (els_at hen) (Vle.refl _) ?_
    (conv => arg 2; whnf); refine wp_ite (fun h2 => ?_) (fun h2 => ?_)
    · have h2 : wideElB e = true := by
        have := of_decide_eq_true h2
        rw [List.length_map] at this
        rw [wideElB, decide_eq_true (by omega : 10 < e.ty.length)]; simp
      (conv => arg 2; whnf)
      refine wp_leaf (loop_ret ?_)
      (conv => arg 2; whnf); refine w_retp rfl (Vle.eq (cBool (wideAny_hit hm h2).symm))
    have h2 : wideElB e = false := by
      have := of_decide_eq_false h2
      rw [List.length_map] at this
      rw [wideElB, h1, decide_eq_false (by omega : ¬ 10 < e.ty.length)]; rfl
    (conv => arg 2; whnf)
    refine wp_leaf (loop_next (p.els.length - (n + 1)) _ _ (by omega) (.cons (.refl _) (.cons (Vle.inc n rfl (by omega)) (.nil _))) (List.Sublist.refl _) ⟨n + 1, rfl, h0, rfl, ?_, rfl⟩)
    rw [List.take_add_one, hen, List.any_append, ha]
    simp [h2]
  · have h0 : n = p.els.length := by have := of_decide_eq_false h0; rw [List.length_map] at this; omega
    subst h0
    rw [List.take_length] at ha
    (conv => arg 2; whnf)
    refine wp_leaf (loop_exit ?_)
    (conv => arg 2; whnf); refine w_retp rfl (Vle.eq (cBool ?_))
    rw [wideAnyB, ha, Bool.false_or]
    exact decide_eq_decide.2 (by rw [List.length_map]; omega)
end Go.Sv
/- pasternlaw8: what is known. -/
namespace Go.Sv
open Go Go.Proofs

def kA : Ex := .mk 2 val0 [97] [120] []
def kB : Ex := .mk 1 ⟨1, -3, []⟩ [] [] []
def kX : Ex := .mk 8 val0 [] [] [kA, kB]
def kE1 : El := ⟨[97], [[116], [117]], true, false, kX⟩
def kE2 : El := ⟨[110], [[116]], false, true, ex0⟩
def kE3 : El := ⟨[98], [[117]], false, false, ex0⟩
def kP : Pa := ⟨[kE1, kE2, kE3], 7, [105, 100], true⟩
def pa0 : Pa := ⟨[], 0, [], false⟩
def kXt : List UInt8 := [40, 97, 46, 120, 32, 60, 32, 45, 51, 41]
def kPt : List UInt8 := [83, 69, 81, 40, 97, 58, 116, 124, 117, 43, 91, 40, 97, 46, 120, 32, 60, 32, 45, 51, 41, 93, 44, 32, 33, 110, 58, 116, 44, 32, 98, 58, 117, 41, 32, 87, 73, 84, 72, 73, 78, 32, 55, 32, 66, 89, 32, 105, 100, 32, 65, 78, 89]

theorem natD_1 (n : Nat) (h : n < 10) : natD n = [UInt8.ofNat (48 + n)] := by rw [natD, dif_pos h]
theorem dec3 : decD (-3) = [45, 51] := by rw [decD, if_pos (by omega), show (-3 : Int).natAbs = 3 from rfl, natD_1 3 (by omega)]; rfl
theorem dec7 : decD 7 = [55] := by rw [decD, if_neg (by omega), show (7 : Int).natAbs = 7 from rfl, natD_1 7 (by omega)]; rfl
theorem kX_told : toldN showV 5 kX = kXt := by
  have e1 : showV ⟨1, -3, []⟩ = [45, 51] := (showV_1 (by decide) rfl).trans dec3
  rw [kX, toldN_op (by omega) (by omega) (by omega), kA, kB, toldN_2, toldN_1, e1]; rfl
theorem kX_is : isExB kX = true := by kernel_rfl
theorem kX_t : exT kX = kXt := (exT_yes kX_is).trans kX_told
theorem kP_is : isPaB kP = true := by kernel_rfl
theorem kP_t : paT' kP = kPt := by
  have e1 : elT kE1 = [97, 58, 116, 124, 117, 43, 91, 40, 97, 46, 120, 32, 60, 32, 45, 51, 41, 93] := by
    rw [elT_eq, condT, if_neg (by decide), show kE1.cond = kX from rfl, kX_told]; rfl
  rw [paT_yes kP_is, paT, show kP.els.map elT = [elT kE1, elT kE2, elT kE3] from rfl, e1, show kP.within = 7 from rfl, dec7]
  rfl
theorem pa0_t : paT' pa0 = [] := by kernel_rfl
theorem kQ_t : showV ⟨2, 0, [113, 34]⟩ = [34, 113, 92, 34, 34] := by kernel_rfl
theorem k0_t : showV val0 = [] := by kernel_rfl
theorem kX_rg : exRg kX := by
  simp only [kX, kA, kB, exRg, exsRg, val0, I64, and_true]
  omega
theorem kX_bd : ExBd kX := exBd_of (by decide) kX_rg
theorem kP_bd : PaBd kP := paBd_of (by decide) (fun e he => by
  simp only [kP, List.mem_cons, List.not_mem_nil, or_false] at he
  rcases he with rfl | rfl | rfl
  · exact kX_rg
  · simp only [kE2, ex0, exRg, exsRg, val0, I64, and_true]; omega
  · simp only [kE3, ex0, exRg, exsRg, val0, I64, and_true]; omega) (by unfold I64; decide)
theorem pa0_bd : PaBd pa0 := paBd_of (by decide) (fun e he => by cases he) (by unfold I64; decide)
theorem vsm {v : Val} (h : v.s.length < 2 ^ 40) (h' : I64 v.n) : ValSm v := ⟨h, h'.1, h'.2⟩

theorem kA_vle : Vle (.agg [i64V 2, i64V 0, i64V 0, str [], str [97], str [120], .sl none [] .zero]) (exV kA) := by
  rw [exV_eq]
  exact Vle.agg (.cons (.refl _) (.cons (.refl _) (.cons (.refl _) (.cons (.refl _) (.cons (.refl _) (.cons (.refl _) (.cons (Vle.nil _ _ _) .nil)))))))
theorem kB_vle : Vle (.agg [i64V 1, i64V 1, i64V (-3), str [], str [], str [], .sl none [] .zero]) (exV kB) := by
  rw [exV_eq]
  exact Vle.agg (.cons (.refl _) (.cons (.refl _) (.cons (.refl _) (.cons (.refl _) (.cons (.refl _) (.cons (.refl _) (.cons (Vle.nil _ _ _) .nil)))))))
theorem kX_vle : VleL [i64V 8, i64V 0, i64V 0, str [], str [], str [], .sl (some 7) [.agg [i64V 2, i64V 0, i64V 0, str [], str [97], str [120], .sl none [] .zero], .agg [i64V 1, i64V 1, i64V (-3), str [], str [], str [], .sl none [] .zero]] .no] (exC kX) :=
  .cons (.refl _) (.cons (.refl _) (.cons (.refl _) (.cons (.refl _) (.cons (.refl _) (.cons (.refl _) (.cons (Vle.xs (.cons kA_vle (.cons kB_vle .nil))) .nil))))))
theorem kE2_vle : Vle (.agg [str [110], .sl none [str [116]] .no, bV false, bV true, i64V 0, i64V 0, i64V 0, str [], str [], str [], .sl none [] .zero]) (elV kE2) :=
  Vle.agg (.cons (.refl _) (.cons (.refl _) (.cons (.refl _) (.cons (.refl _) (.cons (.refl _) (.cons (.refl _) (.cons (.refl _) (.cons (.refl _) (.cons (.refl _) (.cons (.refl _) (.cons (Vle.nil _ _ _) .nil)))))))))))
theorem kE3_vle : Vle (.agg [str [98], .sl none [str [117]] .no, bV false, bV false, i64V 0, i64V 0, i64V 0, str [], str [], str [], .sl none [] .zero]) (elV kE3) :=
  Vle.agg (.cons (.refl _) (.cons (.refl _) (.cons (.refl _) (.cons (.refl _) (.cons (.refl _) (.cons (.refl _) (.cons (.refl _) (.cons (.refl _) (.cons (.refl _) (.cons (.refl _) (.cons (Vle.nil _ _ _) .nil)))))))))))
theorem kP_vle : VleL [.sl (some 11) [elV kE1, .agg [str [110], .sl none [str [116]] .no, bV false, bV true, i64V 0, i64V 0, i64V 0, str [], str [], str [], .sl none [] .zero], .agg [str [98], .sl none [str [117]] .no, bV false, bV false, i64V 0, i64V 0, i64V 0, str [], str [], str [], .sl none [] .zero]] .no, i64V 7, str [105, 100], bV true] (paC kP) :=
  .cons (Vle.xs (.cons (.refl _) (.cons kE2_vle (.cons kE3_vle .nil)))) (.cons (.refl _) (.cons (.refl _) (.cons (.refl _) .nil)))
theorem pa0_vle : Vle (.agg [.sl none [] .zero, i64V 0, str [], bV false]) (.agg (paC pa0)) :=
  Vle.agg (.cons (Vle.nil _ _ _) (.cons (.refl _) (.cons (.refl _) (.cons (.refl _) .nil))))
def paZ : List V := [.sl none [] .zero, i64V 0, str [], bV false]

theorem eqF {a b : List UInt8} (e : a = b) (h : ((S a).toList == (S b).toList) = false) : False := by rw [strEq, decide_eq_true e] at h; cases h
set_option maxRecDepth 100000 in
set_option maxHeartbeats 4000000 in
theorem known8_call : PCall Tryd.prog 16 [] (bV true) := by
  have f1 := showexpr_call kX kX_bd
  have f2 := showvalue_call ⟨2, 0, [113, 34]⟩ (vsm (by decide) (by unfold I64; decide))
  have f3 := showvalue_call val0 (vsm (by decide) (by unfold I64; decide))
  have f4 := showpattern_call kP kP_bd
  have f5 := showpattern_call pa0 pa0_bd
  rw [kX_t] at f1
  rw [kQ_t] at f2
  rw [k0_t] at f3
  rw [kP_t] at f4
  rw [pa0_t] at f5
  refine scall_of (live := []) (ords := []) Tryd.func16 rfl (by kernel_rfl) (by kernel_rfl) (Nat.le_of_ble_eq_true rfl) ?_
  (conv => arg 2; whnf); refine wp_allocE exZ rfl fun b => ?_
  (conv => arg 2; whnf); refine wp_storeE (cs := exZ) 0 0 (exC kX) rfl rfl kX_vle (Nat.le_refl _) rfl (R' := [.obj b (exC kX)]) rfl ?_
  (conv => arg 2; whnf); refine wp_load (cs := exC kX) 0 rfl rfl ?_
  (conv => arg 2; whnf); refine wp_allocE paZ rfl fun c => ?_
  (conv => arg 2; whnf); refine wp_storeE (cs := paZ) 1 0 (paC kP) rfl rfl kP_vle (Nat.le_refl _) rfl (R' := [.obj b (exC kX), .obj c (paC kP)]) rfl ?_
  (conv => arg 2; whnf); refine wp_load (cs := exC kX) 0 rfl rfl ?_
  (conv => arg 2; whnf); refine wp_pcall f1 ?_
  (conv => arg 2; whnf); refine wp_ite (fun _ => ?_) (fun h => (eqF (a := kXt) (b := kXt) rfl h).elim)
  (conv => arg 2; whnf); refine wp_pcall f2 ?_
  (conv => arg 2; whnf); refine wp_ite (fun _ => ?_) (fun h => (eqF (a := [34, 113, 92, 34, 34]) (b := [34, 113, 92, 34, 34]) rfl h).elim)
  (conv => arg 2; whnf); refine wp_pcall f3 ?_
  (conv => arg 2; whnf); refine wp_ite (fun _ => ?_) (fun h => (eqF (a := []) (b := []) rfl h).elim)
  (conv => arg 2; whnf); refine wp_load (cs := paC kP) 1 rfl rfl ?_
  (conv => arg 2; whnf); refine wp_pcall f4 ?_
  (conv => arg 2; whnf); refine wp_ite (fun _ => ?_) (fun h => (eqF (a := kPt) (b := kPt) rfl h).elim)
  (conv => arg 2; whnf); refine wp_pcallV (.cons pa0_vle .nil) f5 ?_
  (conv => arg 2; whnf); refine w_retp rfl (Vle.eq (cBool (strEq [] [])))
end Go.Sv
/- pasternlaw8.ShowTells. -/
namespace Go.Sv
open Go Go.Proofs

theorem eqSelf (a : List UInt8) : ((S a).toList == (S a).toList) = true := by rw [strEq, decide_eq_true rfl]

set_option maxRecDepth 100000 in
set_option maxHeartbeats 4000000 in
theorem showtells_law (v : Val) (x : Ex) (p : Pa) (hv : ValSm v) (hx : ExBd x) (hp : PaBd p) : PCall Tryd.prog 8 [valV v, .agg (exC x), .agg (paC p)] (bV true) := by
  have f0 := known8_call
  have f1 := wide_call x hx
  have f2 := wideany_call p hp
  have f3 := showvalue_call v hv
  have f4 := refshowvalue_call v hv
  have f5 := showexpr_call x hx
  have f6 := refshowexpr_call x hx
  have f7 := showpattern_call p hp
  have f8 := refshowpattern_call p hp
  have e1 := eqSelf (showV v)
  have e2 := eqSelf (exT x)
  have e3 := eqSelf (paT' p)
  refine scall_of (live := []) (ords := []) Tryd.func8 rfl (by kernel_rfl) (by kernel_rfl) (Nat.le_of_ble_eq_true rfl) ?_
  (conv => arg 2; whnf); refine wp_pcall f0 ?_
  (repeat ((conv => arg 2; whnf); first | refine wp_ite (fun _ => ?_) (fun h => Bool.noConfusion h) | refine wp_ite (fun h => Bool.noConfusion h) (fun _ => ?_)))
  (conv => arg 2; whnf); refine wp_pcall f1 ?_
  (conv => arg 2; whnf); refine wp_ite (fun h1 => ?_) (fun h1 => ?_)
  · (repeat ((conv => arg 2; whnf); first | refine wp_ite (fun _ => ?_) (fun h => Bool.noConfusion h) | refine wp_ite (fun h => Bool.noConfusion h) (fun _ => ?_)))
    (conv => arg 2; whnf); refine w_retp rfl (.refl _)
  (conv => arg 2; whnf); refine wp_pcall f2 ?_
  (conv => arg 2; whnf); refine wp_ite (fun h2 => ?_) (fun h2 => ?_)
  · (repeat ((conv => arg 2; whnf); first | refine wp_ite (fun _ => ?_) (fun h => Bool.noConfusion h) | refine wp_ite (fun h => Bool.noConfusion h) (fun _ => ?_)))
    (conv => arg 2; whnf); refine w_retp rfl (.refl _)
  (conv => arg 2; whnf); refine wp_ite (fun h3 => ?_) (fun h3 => ?_)
  · (conv => arg 2; whnf); refine w_retp rfl (.refl _)
  (conv => arg 2; whnf); refine wp_pc f3 ?_
  (conv => arg 2; whnf); refine wp_pc f4 ?_
  (conv => arg 2; whnf); refine wp_ite (fun _ => ?_) (fun h => (eqF rfl h).elim)
  (conv => arg 2; whnf); refine wp_pc f5 ?_
  (conv => arg 2; whnf); refine wp_pc f6 ?_
  (conv => arg 2; whnf); refine wp_ite (fun _ => ?_) (fun h => (eqF rfl h).elim)
  (conv => arg 2; whnf); refine wp_pc f7 ?_
  (conv => arg 2; whnf); refine wp_pc f8 ?_
  (conv => arg 2; whnf); refine w_retp rfl (Vle.eq (cBool e3))
end Go.Sv
/- pasternlaw8.ShowUnlike. -/
namespace Go.Sv
open Go Go.Proofs

theorem unlike_ex {x y : Ex} (hx : isExB x = true) (hy : isExB y = true) : decide (exT x = exT y) = sameB 5 x y := by
  rw [Bool.eq_iff_iff, sameB_iff 5 x y (exR_shape hx), decide_eq_true_eq, exT_yes hx, exT_yes hy]
  exact ⟨exT_same hx hy, fun h => by rw [h]⟩
theorem unlike_pa {p q : Pa} (hp : isPaB p = true) (hq : isPaB q = true) : decide (paT' p = paT' q) = samePaB p q := by
  rw [Bool.eq_iff_iff, samePa_iff (pa_good hp).1, decide_eq_true_eq, paT_yes hp, paT_yes hq]
  exact ⟨paT_same hp hq, fun h => by rw [h]⟩

theorem neF {a b : Bool} (e : a = b) (h : (!(a == b)) = true) : False := by rw [e] at h; cases b <;> cases h
theorem eqBB {a b : Bool} (e : a = b) : (a == b) = true := by rw [e]; cases b <;> rfl
theorem notT {a : Bool} (h : (!a) = false) : a = true := by cases a <;> first | rfl | cases h

set_option maxRecDepth 100000 in
set_option maxHeartbeats 4000000 in
theorem showunlike_law (x y : Ex) (p q : Pa) (hx : ExBd x) (hy : ExBd y) (hp : PaBd p) (hq : PaBd q) : PCall Tryd.prog 9 [.agg (exC x), .agg (exC y), .agg (paC p), .agg (paC q)] (bV true) := by
  have f0 := known8_call
  have f1 := wide_call x hx
  have f2 := wide_call y hy
  have f3 := wideany_call p hp
  have f4 := wideany_call q hq
  have f5 := refisexpr_call x hx.1 hx.2.1 hx.2.2.2
  rw [isEx_same] at f5
  have f6 := refisexpr_call y hy.1 hy.2.1 hy.2.2.2
  rw [isEx_same] at f6
  have f7 := showexpr_call x hx
  have f8 := showexpr_call y hy
  have f9 : isExB x = true → PCall Tryd.prog 26 [.agg (exC x), .agg (exC y)] (bV (sameB 5 x y)) := fun h => refsame_call 5 x y hx.2.1.less (exR_shape h)
  have f10 := refpattern_call p hp
  have f11 := refpattern_call q hq
  have f12 := showpattern_call p hp
  have f13 := showpattern_call q hq
  have f14 : isPaB p = true → PCall Tryd.prog 28 [.agg (paC p), .agg (paC q)] (bV (samePaB p q)) := fun h => samepattern_call p q hp (pa_good h).1
  have u1 : isExB x = true → isExB y = true → ((S (exT x)).toList == (S (exT y)).toList) = sameB 5 x y := fun h h' => (strEq _ _).trans (unlike_ex h h')
  have u2 : isPaB p = true → isPaB q = true → ((S (paT' p)).toList == (S (paT' q)).toList) = samePaB p q := fun h h' => (strEq _ _).trans (unlike_pa h h')
  refine scall_of (live := []) (ords := []) Tryd.func9 rfl (by kernel_rfl) (by kernel_rfl) (Nat.le_of_ble_eq_true rfl) ?_
  (conv => arg 2; whnf); refine wp_pcall f0 ?_
  (repeat ((conv => arg 2; whnf); first | refine wp_ite (fun _ => ?_) (fun h => Bool.noConfusion h) | refine wp_ite (fun h => Bool.noConfusion h) (fun _ => ?_)))
  (conv => arg 2; whnf); refine wp_pcall f1 ?_
  (conv => arg 2; whnf); refine wp_ite (fun h1 => ?_) (fun h1 => ?_)
  · (repeat ((conv => arg 2; whnf); first | refine wp_ite (fun _ => ?_) (fun h => Bool.noConfusion h) | refine wp_ite (fun h => Bool.noConfusion h) (fun _ => ?_)))
    (conv => arg 2; whnf); refine w_retp rfl (.refl _)
  (conv => arg 2; whnf); refine wp_pcall f2 ?_
  (conv => arg 2; whnf); refine wp_ite (fun h2 => ?_) (fun h2 => ?_)
  · (repeat ((conv => arg 2; whnf); first | refine wp_ite (fun _ => ?_) (fun h => Bool.noConfusion h) | refine wp_ite (fun h => Bool.noConfusion h) (fun _ => ?_)))
    (conv => arg 2; whnf); refine w_retp rfl (.refl _)
  (conv => arg 2; whnf); refine wp_pcall f3 ?_
  (conv => arg 2; whnf); refine wp_ite (fun h3 => ?_) (fun h3 => ?_)
  · (repeat ((conv => arg 2; whnf); first | refine wp_ite (fun _ => ?_) (fun h => Bool.noConfusion h) | refine wp_ite (fun h => Bool.noConfusion h) (fun _ => ?_)))
    (conv => arg 2; whnf); refine w_retp rfl (.refl _)
  (conv => arg 2; whnf); refine wp_pcall f4 ?_
  (conv => arg 2; whnf); refine wp_ite (fun h4 => ?_) (fun h4 => ?_)
  · (conv => arg 2; whnf); refine w_retp rfl (.refl _)
  (conv => arg 2; whnf); refine wp_pc f5 ?_
  (conv => arg 2; whnf); refine wp_ite (fun k1 => ?_) (fun k1 => ?_)
  · (conv => arg 2; whnf); refine wp_pc f6 ?_
    (conv => arg 2; whnf); refine wp_ite (fun k2 => ?_) (fun k2 => ?_)
    · (conv => arg 2; whnf); refine wp_pc f7 ?_
      (conv => arg 2; whnf); refine wp_pc f8 ?_
      (conv => arg 2; whnf); refine wp_pc (f9 k1) ?_
      (conv => arg 2; whnf); refine wp_ite (fun h => (neF (u1 k1 k2) h).elim) (fun _ => ?_)
      (conv => arg 2; whnf); refine wp_pc f10 ?_
      (conv => arg 2; whnf); refine wp_ite (fun p1 => ?_) (fun p1 => ?_)
      · (repeat ((conv => arg 2; whnf); first | refine wp_ite (fun _ => ?_) (fun h => Bool.noConfusion h) | refine wp_ite (fun h => Bool.noConfusion h) (fun _ => ?_)))
        (conv => arg 2; whnf); refine w_retp rfl (.refl _)
      have p1 := notT p1
      (conv => arg 2; whnf); refine wp_pc f11 ?_
      (conv => arg 2; whnf); refine wp_ite (fun p2 => ?_) (fun p2 => ?_)
      · (repeat ((conv => arg 2; whnf); first | refine wp_ite (fun _ => ?_) (fun h => Bool.noConfusion h) | refine wp_ite (fun h => Bool.noConfusion h) (fun _ => ?_)))
        (conv => arg 2; whnf); refine w_retp rfl (.refl _)
      have p2 := notT p2
      (conv => arg 2; whnf); refine wp_pc f12 ?_
      (conv => arg 2; whnf); refine wp_pc f13 ?_
      (conv => arg 2; whnf); refine wp_pc (f14 p1) ?_
      (conv => arg 2; whnf); refine w_retp rfl (Vle.eq (cBool (eqBB (u2 p1 p2))))
    · (repeat ((conv => arg 2; whnf); first | refine wp_ite (fun _ => ?_) (fun h => Bool.noConfusion h) | refine wp_ite (fun h => Bool.noConfusion h) (fun _ => ?_)))
      (conv => arg 2; whnf); refine wp_pc f10 ?_
      (conv => arg 2; whnf); refine wp_ite (fun p1 => ?_) (fun p1 => ?_)
      · (repeat ((conv => arg 2; whnf); first | refine wp_ite (fun _ => ?_) (fun h => Bool.noConfusion h) | refine wp_ite (fun h => Bool.noConfusion h) (fun _ => ?_)))
        (conv => arg 2; whnf); refine w_retp rfl (.refl _)
      have p1 := notT p1
      (conv => arg 2; whnf); refine wp_pc f11 ?_
      (conv => arg 2; whnf); refine wp_ite (fun p2 => ?_) (fun p2 => ?_)
      · (repeat ((conv => arg 2; whnf); first | refine wp_ite (fun _ => ?_) (fun h => Bool.noConfusion h) | refine wp_ite (fun h => Bool.noConfusion h) (fun _ => ?_)))
        (conv => arg 2; whnf); refine w_retp rfl (.refl _)
      have p2 := notT p2
      (conv => arg 2; whnf); refine wp_pc f12 ?_
      (conv => arg 2; whnf); refine wp_pc f13 ?_
      (conv => arg 2; whnf); refine wp_pc (f14 p1) ?_
      (conv => arg 2; whnf); refine w_retp rfl (Vle.eq (cBool (eqBB (u2 p1 p2))))
  · (repeat ((conv => arg 2; whnf); first | refine wp_ite (fun _ => ?_) (fun h => Bool.noConfusion h) | refine wp_ite (fun h => Bool.noConfusion h) (fun _ => ?_)))
    (conv => arg 2; whnf); refine wp_pc f10 ?_
    (conv => arg 2; whnf); refine wp_ite (fun p1 => ?_) (fun p1 => ?_)
    · (repeat ((conv => arg 2; whnf); first | refine wp_ite (fun _ => ?_) (fun h => Bool.noConfusion h) | refine wp_ite (fun h => Bool.noConfusion h) (fun _ => ?_)))
      (conv => arg 2; whnf); refine w_retp rfl (.refl _)
    have p1 := notT p1
    (conv => arg 2; whnf); refine wp_pc f11 ?_
    (conv => arg 2; whnf); refine wp_ite (fun p2 => ?_) (fun p2 => ?_)
    · (repeat ((conv => arg 2; whnf); first | refine wp_ite (fun _ => ?_) (fun h => Bool.noConfusion h) | refine wp_ite (fun h => Bool.noConfusion h) (fun _ => ?_)))
      (conv => arg 2; whnf); refine w_retp rfl (.refl _)
    have p2 := notT p2
    (conv => arg 2; whnf); refine wp_pc f12 ?_
    (conv => arg 2; whnf); refine wp_pc f13 ?_
    (conv => arg 2; whnf); refine wp_pc (f14 p1) ?_
    (conv => arg 2; whnf); refine w_retp rfl (Vle.eq (cBool (eqBB (u2 p1 p2))))
end Go.Sv
