/- Parts of the proof, one behind the other. -/
import Derived.Test.YtdkbdmfhidimmaaDoorMgRowShowUnlike7
/- What a pattern is: the reference's. -/
namespace Go.Sv
open Go Go.Proofs

set_option maxRecDepth 100000 in
set_option maxHeartbeats 1000000 in
theorem refpattern_call (p : Pa) (h : PaBd p) : PCall Tryd.prog 27 [.agg (paC p)] (bV (isPaB p)) := by
  obtain ⟨hl, he, hb, hw1, hw2⟩ := h
  have fb := refname_call p.by_ (by omega)
  refine scall_of (live := []) (ords := [(10, [])]) Tryd.func27 rfl (by kernel_rfl) (by kernel_rfl) (Nat.le_of_ble_eq_true rfl) ?_
  (conv => arg 2; whnf); refine wp_ite (fun h1 => ?_) (fun h1 => ?_)
  · have h1 : p.els.length < 1 := by have := of_decide_eq_true h1; rw [List.length_map] at this; omega
    (repeat ((conv => arg 2; whnf); first | refine wp_ite (fun _ => ?_) (fun h => Bool.noConfusion h) | refine wp_ite (fun h => Bool.noConfusion h) (fun _ => ?_)))
    (conv => arg 2; whnf); refine w_retp rfl (Vle.eq (cBool (isPa_few h1).symm))
  have h1 : 1 ≤ p.els.length := by have := of_decide_eq_false h1; rw [List.length_map] at this; omega
  (conv => arg 2; whnf); refine wp_ite (fun h2 => ?_) (fun h2 => ?_)
  · have h2 : 5 < p.els.length := by have := of_decide_eq_true h2; rw [List.length_map] at this; omega
    (repeat ((conv => arg 2; whnf); first | refine wp_ite (fun _ => ?_) (fun h => Bool.noConfusion h) | refine wp_ite (fun h => Bool.noConfusion h) (fun _ => ?_)))
    (conv => arg 2; whnf); refine w_retp rfl (Vle.eq (cBool (isPa_many h2).symm))
  have h2 : p.els.length ≤ 5 := by have := of_decide_eq_false h2; rw [List.length_map] at this; omega
  (conv => arg 2; whnf); refine wp_ite (fun h5 => ?_) (fun h5 => ?_)
  · have h5 : p.within < 0 := of_decide_eq_true h5
    (repeat ((conv => arg 2; whnf); first | refine wp_ite (fun _ => ?_) (fun h => Bool.noConfusion h) | refine wp_ite (fun h => Bool.noConfusion h) (fun _ => ?_)))
    (conv => arg 2; whnf); refine w_retp rfl (Vle.eq (cBool (isPa_w0 h5).symm))
  have h5 : 0 ≤ p.within := by have := of_decide_eq_false h5; omega
  (conv => arg 2; whnf); refine wp_ite (fun h6 => ?_) (fun h6 => ?_)
  · have h6 : 1000 < p.within := of_decide_eq_true h6
    (repeat ((conv => arg 2; whnf); first | refine wp_ite (fun _ => ?_) (fun h => Bool.noConfusion h) | refine wp_ite (fun h => Bool.noConfusion h) (fun _ => ?_)))
    (conv => arg 2; whnf); refine w_retp rfl (Vle.eq (cBool (isPa_w1 h6).symm))
  have h6 : p.within ≤ 1000 := by have := of_decide_eq_false h6; omega
  obtain ⟨e0, he0⟩ : ∃ e, p.els[0]? = some e := ⟨_, List.getElem?_eq_getElem (by omega)⟩
  obtain ⟨e1, he1⟩ : ∃ e, p.els[p.els.length - 1]? = some e := ⟨_, List.getElem?_eq_getElem (by omega)⟩
  have ws : IntKind.i64.wrap (((p.els.map elV).length : Int) - 1) = ((p.els.length - 1 : Nat) : Int) := by
    rw [List.length_map]; exact wsub (by omega) (by omega) (by omega)
  (conv => arg 2; whnf); refine wp_ite (fun hq => ?_) (fun hq => ?_)
  · have hq : p.by_ ≠ [] := fun e => by
      have := (nilS_ne (l := p.by_)).symm.trans hq
      rw [e] at this; cases this
    (conv => arg 2; whnf); refine wp_pcall fb ?_
    (conv => arg 2; whnf); refine wp_ite (fun hr => ?_) (fun hr => ?_)
    · have hr : isNm p.by_ = false := by simpa using hr
      (repeat ((conv => arg 2; whnf); first | refine wp_ite (fun _ => ?_) (fun h => Bool.noConfusion h) | refine wp_ite (fun h => Bool.noConfusion h) (fun _ => ?_)))
      (conv => arg 2; whnf); refine w_retp rfl (Vle.eq (cBool (isPa_by hq hr).symm))
    have hr : isNm p.by_ = true := by simpa using hr
    have h7 : p.by_ = [] ∨ isNm p.by_ = true := .inr hr
    (repeat ((conv => arg 2; whnf); first | refine wp_ite (fun _ => ?_) (fun h => Bool.noConfusion h) | refine wp_ite (fun h => Bool.noConfusion h) (fun _ => ?_)))
    (conv => arg 2; whnf); refine wp_elem 0 (.agg (elC e0)) rfl (els_at he0) (Vle.refl _) ?_
    (conv => arg 2; whnf); refine wp_ite (fun h3 => ?_) (fun h3 => ?_)
    · have h3 : ntAt p.els 0 = true := (ntAt_of he0).trans h3
      (repeat ((conv => arg 2; whnf); first | refine wp_ite (fun _ => ?_) (fun h => Bool.noConfusion h) | refine wp_ite (fun h => Bool.noConfusion h) (fun _ => ?_)))
      (conv => arg 2; whnf); refine w_retp rfl (Vle.eq (cBool (isPa_first h3).symm))
    have h3 : ntAt p.els 0 = false := (ntAt_of he0).trans h3
    (conv => arg 2; whnf); refine wp_elem (p.els.length - 1) (.agg (elC e1)) ws (els_at he1) (Vle.refl _) ?_
    (conv => arg 2; whnf); refine wp_ite (fun h4 => ?_) (fun h4 => ?_)
    · have h4 : ntAt p.els (p.els.length - 1) = true := (ntAt_of he1).trans h4
      (repeat ((conv => arg 2; whnf); first | refine wp_ite (fun _ => ?_) (fun h => Bool.noConfusion h) | refine wp_ite (fun h => Bool.noConfusion h) (fun _ => ?_)))
      (conv => arg 2; whnf); refine w_retp rfl (Vle.eq (cBool (isPa_last h4).symm))
    have h4 : ntAt p.els (p.els.length - 1) = false := (ntAt_of he1).trans h4
    (conv => arg 2; whnf); refine wp_loop (fun m fr R => ∃ n : Nat, m = p.els.length - n ∧ n ≤ p.els.length ∧ R = [] ∧ ((List.range n).all fun i => okAtB p.els i (p.els.getD i el0)) = true ∧ fr = frL [(1, .pt (some 4) (.agg (paC p)) 0), (3, i64V p.els.length), (4, i64V n)])
      p.els.length _ _ (.cons (.refl _) (.cons (Vle.eq ?_) (.cons (.refl _) (.nil _)))) (List.Sublist.refl _) ⟨0, rfl, Nat.zero_le _, rfl, rfl, rfl⟩ ?_
    · show V.c (.int .i64 (p.els.map elV).length) = _
      rw [List.length_map]; rfl
    rintro m fr R ⟨n, rfl, hn, rfl, hall, rfl⟩
    (conv => arg 2; whnf); refine wp_ite (fun h => ?_) (fun h => ?_)
    · have h : n < p.els.length := by have := of_decide_eq_true h; omega
      obtain ⟨e, hen⟩ : ∃ e, p.els[n]? = some e := ⟨_, List.getElem?_eq_getElem h⟩
      have hbd := he e (List.mem_of_getElem? hen)
      obtain ⟨ba, bl, bt, bx⟩ := hbd
      have fn := refname_call e.al (by omega)
      have fa := alias_call p.els e.al (by omega)
      have fr := refrise_call e.ty (by omega)
      have fs := refsame0_call e.cond bx.kids
      have fi := refisexpr_call e.cond bx.1 bx.2.1 bx.2.2.2
      rw [isEx_same] at fi
      (conv => arg 2; whnf); refine wp_elem n (.agg (elC e)) rfl (els_at hen) (Vle.refl _) ?_
      (conv => arg 2; whnf); refine wp_allocE elZ rfl fun b => ?_
      (conv => arg 2; whnf); refine wp_storeE (cs := elZ) 0 0 (elC e) rfl rfl (VleL.refl _) (Nat.le_refl _) rfl (R' := [.obj b (elC e)]) rfl ?_
      (conv => arg 2; whnf); refine wp_load (cs := elC e) 0 rfl rfl ?_
      (conv => arg 2; whnf); refine wp_pcall fn ?_
      (conv => arg 2; whnf); refine wp_ite (fun g1 => ?_) (fun g1 => ?_)
      · have g1 : isNm e.al = false := by simpa using g1
        (repeat ((conv => arg 2; whnf); first | refine wp_ite (fun _ => ?_) (fun h => Bool.noConfusion h) | refine wp_ite (fun h => Bool.noConfusion h) (fun _ => ?_)))
        (conv => arg 2; whnf)
        refine wp_leaf (loop_ret ?_)
        (conv => arg 2; whnf); refine w_retp rfl (Vle.eq (cBool (isPa_el hen (okAt_el (isEl_name g1))).symm))
      have g1 : isNm e.al = true := by simpa using g1
      (conv => arg 2; whnf); refine wp_load (cs := elC e) 0 rfl rfl ?_
      (conv => arg 2; whnf); refine wp_pcall fa ?_
      (conv => arg 2; whnf); refine wp_ite (fun g2 => ?_) (fun g2 => ?_)
      · have g2 : aliasI p.els e.al ≠ n := by simpa using g2
        have g2 : twiceB p.els n e.al = true := by
          cases ht : twiceB p.els n e.al with
          | true => rfl
          | false => exact (g2 ((aliasI_iff hen).2 ht)).elim
        (repeat ((conv => arg 2; whnf); first | refine wp_ite (fun _ => ?_) (fun h => Bool.noConfusion h) | refine wp_ite (fun h => Bool.noConfusion h) (fun _ => ?_)))
        (conv => arg 2; whnf)
        refine wp_leaf (loop_ret ?_)
        (conv => arg 2; whnf); refine w_retp rfl (Vle.eq (cBool (isPa_el hen (okAt_twice g2)).symm))
      have g2 : aliasI p.els e.al = n := by simpa using g2
      have g2 : twiceB p.els n e.al = false := (aliasI_iff hen).1 g2
      (conv => arg 2; whnf); refine wp_load (cs := elC e) 0 rfl rfl ?_
      (conv => arg 2; whnf); refine wp_ite (fun g3 => ?_) (fun g3 => ?_)
      · have g3 : e.ty.length < 1 := by have := of_decide_eq_true g3; rw [List.length_map] at this; omega
        (repeat ((conv => arg 2; whnf); first | refine wp_ite (fun _ => ?_) (fun h => Bool.noConfusion h) | refine wp_ite (fun h => Bool.noConfusion h) (fun _ => ?_)))
        (conv => arg 2; whnf)
        refine wp_leaf (loop_ret ?_)
        (conv => arg 2; whnf); refine w_retp rfl (Vle.eq (cBool (isPa_el hen (okAt_el (isEl_few g3))).symm))
      have g3 : 1 ≤ e.ty.length := by have := of_decide_eq_false g3; rw [List.length_map] at this; omega
      (conv => arg 2; whnf); refine wp_load (cs := elC e) 0 rfl rfl ?_
      (conv => arg 2; whnf); refine wp_ite (fun g4 => ?_) (fun g4 => ?_)
      · have g4 : 3 < e.ty.length := by have := of_decide_eq_true g4; rw [List.length_map] at this; omega
        (repeat ((conv => arg 2; whnf); first | refine wp_ite (fun _ => ?_) (fun h => Bool.noConfusion h) | refine wp_ite (fun h => Bool.noConfusion h) (fun _ => ?_)))
        (conv => arg 2; whnf)
        refine wp_leaf (loop_ret ?_)
        (conv => arg 2; whnf); refine w_retp rfl (Vle.eq (cBool (isPa_el hen (okAt_el (isEl_many g4))).symm))
      have g4 : e.ty.length ≤ 3 := by have := of_decide_eq_false g4; rw [List.length_map] at this; omega
      (conv => arg 2; whnf); refine wp_load (cs := elC e) 0 rfl rfl ?_
      (conv => arg 2; whnf); refine wp_pcall fr ?_
      (conv => arg 2; whnf); refine wp_ite (fun g5 => ?_) (fun g5 => ?_)
      · have g5 : riseB e.ty = false := by simpa using g5
        (repeat ((conv => arg 2; whnf); first | refine wp_ite (fun _ => ?_) (fun h => Bool.noConfusion h) | refine wp_ite (fun h => Bool.noConfusion h) (fun _ => ?_)))
        (conv => arg 2; whnf)
        refine wp_leaf (loop_ret ?_)
        (conv => arg 2; whnf); refine w_retp rfl (Vle.eq (cBool (isPa_el hen (okAt_el (isEl_rise g5))).symm))
      have g5 : riseB e.ty = true := by simpa using g5
      have pf : e.plus = false → (e.plus && e.nt) = false := fun h => by rw [h, Bool.false_and]
      have nf : e.nt = false → (e.plus && e.nt) = false := fun h => by rw [h, Bool.and_false]
      have nf' : e.nt = false → (e.nt && (decide (0 < n) && ntAt p.els (n - 1))) = false := fun h => by rw [h, Bool.false_and]
      have n0f : ¬ 0 < n → (e.nt && (decide (0 < n) && ntAt p.els (n - 1))) = false := fun h => by rw [decide_eq_false h]; simp
      have pvf : ntAt p.els (n - 1) = false → (e.nt && (decide (0 < n) && ntAt p.els (n - 1))) = false := fun h => by rw [h]; simp
      have nqt : e.nt = false → e.nt = true → False := fun h h' => by rw [h] at h'; cases h'
      have i0 : decide ((n : Int) > 0) = false → ¬ 0 < n := fun h => by have := of_decide_eq_false h; omega
      have i1 : decide ((n : Int) > 0) = true → 0 < n := fun h => by have := of_decide_eq_true h; omega
      have wsn : 0 < n → IntKind.i64.wrap ((n : Int) - 1) = ((n - 1 : Nat) : Int) := fun h => wsub (by omega : ((n : Nat) : Int) - 1 = ((n - 1 : Nat) : Int)) (by omega) (by omega)
      have hy : 0 < n → p.els[n - 1]? = some (p.els.getD (n - 1) el0) := fun h0 => by
        have hx : p.els[n - 1]? = some p.els[n - 1] := List.getElem?_eq_getElem (by omega)
        rw [getDx hx]; exact hx
      apply @wp_joinT _ ((e.plus && e.nt) = false → (e.nt && (decide (0 < n) && ntAt p.els (n - 1))) = false → _)
      case h1 =>
        intro rest
        (conv => arg 2; whnf); refine wp_load (cs := elC e) 0 rfl rfl ?_
        (conv => arg 2; whnf); refine wp_ite (fun hp => ?_) (fun hp => ?_)
        · (conv => arg 2; whnf); refine wp_load (cs := elC e) 0 rfl rfl ?_
          (conv => arg 2; whnf); refine wp_ite (fun hq => ?_) (fun hq => ?_)
          · have hp : e.plus = true := hp
            have hq : e.nt = true := hq
            (repeat ((conv => arg 2; whnf); first | refine wp_ite (fun _ => ?_) (fun h => Bool.noConfusion h) | refine wp_ite (fun h => Bool.noConfusion h) (fun _ => ?_)))
            (conv => arg 2; whnf)
            refine wp_leaf (loop_ret ?_)
            (conv => arg 2; whnf); refine w_retp rfl (Vle.eq (cBool (isPa_el hen (okAt_el (isEl_both hp hq))).symm))
          · have hq : e.nt = false := hq
            (repeat ((conv => arg 2; whnf); first | refine wp_ite (fun _ => ?_) (fun h => Bool.noConfusion h) | refine wp_ite (fun h => Bool.noConfusion h) (fun _ => ?_)))
            (conv => arg 2; whnf); refine wp_ite (fun h0 => ?_) (fun h0 => ?_)
            · (conv => arg 2; whnf); refine wp_load (cs := elC e) 0 rfl rfl ?_
              (conv => arg 2; whnf); refine wp_ite (fun hq' => (nqt hq hq').elim) (fun _ => ?_)
              (repeat ((conv => arg 2; whnf); first | refine wp_ite (fun _ => ?_) (fun h => Bool.noConfusion h) | refine wp_ite (fun h => Bool.noConfusion h) (fun _ => ?_)))
              (conv => arg 2; whnf)
              exact wp_cutR (frL [(1, .pt (some 4) (.agg (paC p)) 0), (3, i64V p.els.length), (4, i64V n), (5, .loc b 0)]) [.obj b (elC e)] (.cons (.refl _) (.cons (.refl _) (.cons (.refl _) (.cons (.refl _) (.nil _))))) (List.Sublist.refl _) (rest (nf hq) (nf' hq))
            · (repeat ((conv => arg 2; whnf); first | refine wp_ite (fun _ => ?_) (fun h => Bool.noConfusion h) | refine wp_ite (fun h => Bool.noConfusion h) (fun _ => ?_)))
              (conv => arg 2; whnf)
              exact wp_cutR (frL [(1, .pt (some 4) (.agg (paC p)) 0), (3, i64V p.els.length), (4, i64V n), (5, .loc b 0)]) [.obj b (elC e)] (.cons (.refl _) (.cons (.refl _) (.cons (.refl _) (.cons (.refl _) (.nil _))))) (List.Sublist.refl _) (rest (nf hq) (nf' hq))
        · have hp : e.plus = false := hp
          (repeat ((conv => arg 2; whnf); first | refine wp_ite (fun _ => ?_) (fun h => Bool.noConfusion h) | refine wp_ite (fun h => Bool.noConfusion h) (fun _ => ?_)))
          (conv => arg 2; whnf); refine wp_ite (fun h0 => ?_) (fun h0 => ?_)
          · (conv => arg 2; whnf); refine wp_load (cs := elC e) 0 rfl rfl ?_
            (conv => arg 2; whnf); refine wp_ite (fun hq => ?_) (fun hq => ?_)
            · have hq : e.nt = true := hq
              (conv => arg 2; whnf); refine wp_elem (n - 1) (.agg (elC (p.els.getD (n - 1) el0))) (wsn (i1 h0)) (els_at (hy (i1 h0))) (Vle.refl _) ?_
              (conv => arg 2; whnf); refine wp_ite (fun hz => ?_) (fun hz => ?_)
              · have hz : ntAt p.els (n - 1) = true := (ntAt_of (hy (i1 h0))).trans hz
                (repeat ((conv => arg 2; whnf); first | refine wp_ite (fun _ => ?_) (fun h => Bool.noConfusion h) | refine wp_ite (fun h => Bool.noConfusion h) (fun _ => ?_)))
                (conv => arg 2; whnf)
                refine wp_leaf (loop_ret ?_)
                (conv => arg 2; whnf); refine w_retp rfl (Vle.eq (cBool (isPa_el hen (okAt_nt hq (i1 h0) hz)).symm))
              · have hz : ntAt p.els (n - 1) = false := (ntAt_of (hy (i1 h0))).trans hz
                (repeat ((conv => arg 2; whnf); first | refine wp_ite (fun _ => ?_) (fun h => Bool.noConfusion h) | refine wp_ite (fun h => Bool.noConfusion h) (fun _ => ?_)))
                (conv => arg 2; whnf)
                exact wp_cutR (frL [(1, .pt (some 4) (.agg (paC p)) 0), (3, i64V p.els.length), (4, i64V n), (5, .loc b 0)]) [.obj b (elC e)] (.cons (.refl _) (.cons (.refl _) (.cons (.refl _) (.cons (.refl _) (.nil _))))) (List.Sublist.refl _) (rest (pf hp) (pvf hz))
            · have hq : e.nt = false := hq
              (repeat ((conv => arg 2; whnf); first | refine wp_ite (fun _ => ?_) (fun h => Bool.noConfusion h) | refine wp_ite (fun h => Bool.noConfusion h) (fun _ => ?_)))
              (conv => arg 2; whnf)
              exact wp_cutR (frL [(1, .pt (some 4) (.agg (paC p)) 0), (3, i64V p.els.length), (4, i64V n), (5, .loc b 0)]) [.obj b (elC e)] (.cons (.refl _) (.cons (.refl _) (.cons (.refl _) (.cons (.refl _) (.nil _))))) (List.Sublist.refl _) (rest (pf hp) (nf' hq))
          · (repeat ((conv => arg 2; whnf); first | refine wp_ite (fun _ => ?_) (fun h => Bool.noConfusion h) | refine wp_ite (fun h => Bool.noConfusion h) (fun _ => ?_)))
            (conv => arg 2; whnf)
            exact wp_cutR (frL [(1, .pt (some 4) (.agg (paC p)) 0), (3, i64V p.els.length), (4, i64V n), (5, .loc b 0)]) [.obj b (elC e)] (.cons (.refl _) (.cons (.refl _) (.cons (.refl _) (.cons (.refl _) (.nil _))))) (List.Sublist.refl _) (rest (pf hp) (n0f (i0 h0)))
      case rest =>
        intro g6 g7
        (conv => arg 2; whnf); refine wp_loop (fun m fr R => ∃ k : Nat, m = e.ty.length - k ∧ k ≤ e.ty.length ∧ R = [.obj b (elC e)] ∧ (e.ty.take k).all isNm = true ∧ fr = frL [(1, .pt (some 4) (.agg (paC p)) 0), (3, i64V p.els.length), (4, i64V n), (5, .loc b 0), (6, i64V k)])
          e.ty.length _ _ (.cons (.refl _) (.cons (.refl _) (.cons (.refl _) (.cons (.refl _) (.cons (.refl _) (.nil _)))))) (List.Sublist.refl _) ⟨0, rfl, Nat.zero_le _, rfl, rfl, rfl⟩ ?_
        rintro m fr R ⟨k, rfl, hk, rfl, hnm, rfl⟩
        (conv => arg 2; whnf); refine wp_load (cs := elC e) 0 rfl rfl ?_
        (conv => arg 2; whnf); refine wp_ite (fun hk1 => ?_) (fun hk1 => ?_)
        · have hk1 : k < e.ty.length := by have := of_decide_eq_true hk1; rw [List.length_map] at this; omega
          obtain ⟨t, htk⟩ : ∃ t, e.ty[k]? = some t := ⟨_, List.getElem?_eq_getElem hk1⟩
          have hm := List.mem_of_getElem? htk
          have fn := refname_call t (by have := bt t hm; omega)
          (conv => arg 2; whnf); refine wp_load (cs := elC e) 0 rfl rfl ?_
          (conv => arg 2; whnf); refine wp_elem k (str t) rfl (by rw [List.getElem?_map, htk]; rfl) (Vle.refl _) ?_
          (conv => arg 2; whnf); refine wp_pcall fn ?_
          (conv => arg 2; whnf); refine wp_ite (fun g8 => ?_) (fun g8 => ?_)
          · have g8 : isNm t = false := by simpa using g8
            (conv => arg 2; whnf)
            refine wp_leaf (loop_ret ?_)
            (conv => arg 2; whnf)
            refine wp_leaf (loop_ret ?_)
            (conv => arg 2; whnf); refine w_retp rfl (Vle.eq (cBool (isPa_el hen (okAt_el (isEl_ty hm g8))).symm))
          · have g8 : isNm t = true := by simpa using g8
            (conv => arg 2; whnf)
            refine wp_leaf (loop_next (e.ty.length - (k + 1)) _ _ (by omega) (.cons (.refl _) (.cons (.refl _) (.cons (.refl _) (.cons (.refl _) (.cons (Vle.inc k rfl (by omega)) (.nil _)))))) (List.Sublist.refl _) ⟨k + 1, rfl, hk1, rfl, ?_, rfl⟩)
            rw [List.take_add_one, htk, List.all_append, hnm]
            simp [g8]
        · have hk1 : k = e.ty.length := by have := of_decide_eq_false hk1; rw [List.length_map] at this; omega
          subst hk1
          rw [List.take_length] at hnm
          have hend := isEl_end g1 g3 g4 g5 g6 hnm
          have next : isElB e = true → ((List.range (n + 1)).all fun i => okAtB p.els i (p.els.getD i el0)) = true := fun g => by
            rw [List.range_succ, List.all_append, hall]
            simp only [List.all_cons, List.all_nil]
            rw [getDx hen, okAt_end g g2 g7]; rfl
          (conv => arg 2; whnf)
          refine wp_leaf (loop_exit ?_)
          (conv => arg 2; whnf); refine wp_load (cs := elC e) 0 rfl rfl ?_
          (conv => arg 2; whnf); refine wp_pcallV (.cons (.refl _) (.cons zero_vle .nil)) fs ?_
          (conv => arg 2; whnf); refine wp_ite (fun g9 => ?_) (fun g9 => ?_)
          · have g9 : zeroB e.cond = false := by simpa using g9
            (conv => arg 2; whnf); refine wp_load (cs := elC e) 0 rfl rfl ?_
            (conv => arg 2; whnf); refine wp_pcall fi ?_
            (conv => arg 2; whnf); refine wp_ite (fun g10 => ?_) (fun g10 => ?_)
            · have g10 : isExB e.cond = false := by simpa using g10
              (conv => arg 2; whnf)
              refine wp_leaf (loop_ret ?_)
              (conv => arg 2; whnf); refine w_retp rfl (Vle.eq (cBool (isPa_el hen (okAt_el (by rw [hend, g9, g10]; rfl))).symm))
            · have g10 : isExB e.cond = true := by simpa using g10
              (conv => arg 2; whnf)
              refine wp_leaf (loop_next (p.els.length - (n + 1)) _ _ (by omega) (.cons (.refl _) (.cons (.refl _) (.cons (Vle.inc n rfl (by omega)) (.nil _)))) (List.nil_sublist _) ⟨n + 1, rfl, h, rfl, next (by rw [hend, g9, g10]; rfl), rfl⟩)
          · have g9 : zeroB e.cond = true := by simpa using g9
            (repeat ((conv => arg 2; whnf); first | refine wp_ite (fun _ => ?_) (fun h => Bool.noConfusion h) | refine wp_ite (fun h => Bool.noConfusion h) (fun _ => ?_)))
            (conv => arg 2; whnf)
            refine wp_leaf (loop_next (p.els.length - (n + 1)) _ _ (by omega) (.cons (.refl _) (.cons (.refl _) (.cons (Vle.inc n rfl (by omega)) (.nil _)))) (List.nil_sublist _) ⟨n + 1, rfl, h, rfl, next (by rw [hend, g9]; rfl), rfl⟩)
    · have h : n = p.els.length := by have := of_decide_eq_false h; omega
      subst h
      (conv => arg 2; whnf)
      refine wp_leaf (loop_exit ?_)
      (conv => arg 2; whnf); refine w_retp rfl (Vle.eq (cBool (isPa_end h1 h2 h3 h4 h5 h6 h7 hall).symm))
  · have hq : p.by_ = [] := Classical.byContradiction fun e => by
      have := (nilS_ne (l := p.by_)).symm.trans hq
      rw [decide_eq_false e] at this; cases this
    have h7 : p.by_ = [] ∨ isNm p.by_ = true := .inl hq
    (repeat ((conv => arg 2; whnf); first | refine wp_ite (fun _ => ?_) (fun h => Bool.noConfusion h) | refine wp_ite (fun h => Bool.noConfusion h) (fun _ => ?_)))
    (conv => arg 2; whnf); refine wp_elem 0 (.agg (elC e0)) rfl (els_at he0) (Vle.refl _) ?_
    (conv => arg 2; whnf); refine wp_ite (fun h3 => ?_) (fun h3 => ?_)
    · have h3 : ntAt p.els 0 = true := (ntAt_of he0).trans h3
      (repeat ((conv => arg 2; whnf); first | refine wp_ite (fun _ => ?_) (fun h => Bool.noConfusion h) | refine wp_ite (fun h => Bool.noConfusion h) (fun _ => ?_)))
      (conv => arg 2; whnf); refine w_retp rfl (Vle.eq (cBool (isPa_first h3).symm))
    have h3 : ntAt p.els 0 = false := (ntAt_of he0).trans h3
    (conv => arg 2; whnf); refine wp_elem (p.els.length - 1) (.agg (elC e1)) ws (els_at he1) (Vle.refl _) ?_
    (conv => arg 2; whnf); refine wp_ite (fun h4 => ?_) (fun h4 => ?_)
    · have h4 : ntAt p.els (p.els.length - 1) = true := (ntAt_of he1).trans h4
      (repeat ((conv => arg 2; whnf); first | refine wp_ite (fun _ => ?_) (fun h => Bool.noConfusion h) | refine wp_ite (fun h => Bool.noConfusion h) (fun _ => ?_)))
      (conv => arg 2; whnf); refine w_retp rfl (Vle.eq (cBool (isPa_last h4).symm))
    have h4 : ntAt p.els (p.els.length - 1) = false := (ntAt_of he1).trans h4
    (conv => arg 2; whnf); refine wp_loop (fun m fr R => ∃ n : Nat, m = p.els.length - n ∧ n ≤ p.els.length ∧ R = [] ∧ ((List.range n).all fun i => okAtB p.els i (p.els.getD i el0)) = true ∧ fr = frL [(1, .pt (some 4) (.agg (paC p)) 0), (3, i64V p.els.length), (4, i64V n)])
      p.els.length _ _ (.cons (.refl _) (.cons (Vle.eq ?_) (.cons (.refl _) (.nil _)))) (List.Sublist.refl _) ⟨0, rfl, Nat.zero_le _, rfl, rfl, rfl⟩ ?_
    · show V.c (.int .i64 (p.els.map elV).length) = _
      rw [List.length_map]; rfl
    rintro m fr R ⟨n, rfl, hn, rfl, hall, rfl⟩
    (conv => arg 2; whnf); refine wp_ite (fun h => ?_) (fun h => ?_)
    · have h : n < p.els.length := by have := of_decide_eq_true h; omega
      obtain ⟨e, hen⟩ : ∃ e, p.els[n]? = some e := ⟨_, List.getElem?_eq_getElem h⟩
      have hbd := he e (List.mem_of_getElem? hen)
      obtain ⟨ba, bl, bt, bx⟩ := hbd
      have fn := refname_call e.al (by omega)
      have fa := alias_call p.els e.al (by omega)
      have fr := refrise_call e.ty (by omega)
      have fs := refsame0_call e.cond bx.kids
      have fi := refisexpr_call e.cond bx.1 bx.2.1 bx.2.2.2
      rw [isEx_same] at fi
      (conv => arg 2; whnf); refine wp_elem n (.agg (elC e)) rfl (els_at hen) (Vle.refl _) ?_
      (conv => arg 2; whnf); refine wp_allocE elZ rfl fun b => ?_
      (conv => arg 2; whnf); refine wp_storeE (cs := elZ) 0 0 (elC e) rfl rfl (VleL.refl _) (Nat.le_refl _) rfl (R' := [.obj b (elC e)]) rfl ?_
      (conv => arg 2; whnf); refine wp_load (cs := elC e) 0 rfl rfl ?_
      (conv => arg 2; whnf); refine wp_pcall fn ?_
      (conv => arg 2; whnf); refine wp_ite (fun g1 => ?_) (fun g1 => ?_)
      · have g1 : isNm e.al = false := by simpa using g1
        (repeat ((conv => arg 2; whnf); first | refine wp_ite (fun _ => ?_) (fun h => Bool.noConfusion h) | refine wp_ite (fun h => Bool.noConfusion h) (fun _ => ?_)))
        (conv => arg 2; whnf)
        refine wp_leaf (loop_ret ?_)
        (conv => arg 2; whnf); refine w_retp rfl (Vle.eq (cBool (isPa_el hen (okAt_el (isEl_name g1))).symm))
      have g1 : isNm e.al = true := by simpa using g1
      (conv => arg 2; whnf); refine wp_load (cs := elC e) 0 rfl rfl ?_
      (conv => arg 2; whnf); refine wp_pcall fa ?_
      (conv => arg 2; whnf); refine wp_ite (fun g2 => ?_) (fun g2 => ?_)
      · have g2 : aliasI p.els e.al ≠ n := by simpa using g2
        have g2 : twiceB p.els n e.al = true := by
          cases ht : twiceB p.els n e.al with
          | true => rfl
          | false => exact (g2 ((aliasI_iff hen).2 ht)).elim
        (repeat ((conv => arg 2; whnf); first | refine wp_ite (fun _ => ?_) (fun h => Bool.noConfusion h) | refine wp_ite (fun h => Bool.noConfusion h) (fun _ => ?_)))
        (conv => arg 2; whnf)
        refine wp_leaf (loop_ret ?_)
        (conv => arg 2; whnf); refine w_retp rfl (Vle.eq (cBool (isPa_el hen (okAt_twice g2)).symm))
      have g2 : aliasI p.els e.al = n := by simpa using g2
      have g2 : twiceB p.els n e.al = false := (aliasI_iff hen).1 g2
      (conv => arg 2; whnf); refine wp_load (cs := elC e) 0 rfl rfl ?_
      (conv => arg 2; whnf); refine wp_ite (fun g3 => ?_) (fun g3 => ?_)
      · have g3 : e.ty.length < 1 := by have := of_decide_eq_true g3; rw [List.length_map] at this; omega
        (repeat ((conv => arg 2; whnf); first | refine wp_ite (fun _ => ?_) (fun h => Bool.noConfusion h) | refine wp_ite (fun h => Bool.noConfusion h) (fun _ => ?_)))
        (conv => arg 2; whnf)
        refine wp_leaf (loop_ret ?_)
        (conv => arg 2; whnf); refine w_retp rfl (Vle.eq (cBool (isPa_el hen (okAt_el (isEl_few g3))).symm))
      have g3 : 1 ≤ e.ty.length := by have := of_decide_eq_false g3; rw [List.length_map] at this; omega
      (conv => arg 2; whnf); refine wp_load (cs := elC e) 0 rfl rfl ?_
      (conv => arg 2; whnf); refine wp_ite (fun g4 => ?_) (fun g4 => ?_)
      · have g4 : 3 < e.ty.length := by have := of_decide_eq_true g4; rw [List.length_map] at this; omega
        (repeat ((conv => arg 2; whnf); first | refine wp_ite (fun _ => ?_) (fun h => Bool.noConfusion h) | refine wp_ite (fun h => Bool.noConfusion h) (fun _ => ?_)))
        (conv => arg 2; whnf)
        refine wp_leaf (loop_ret ?_)
        (conv => arg 2; whnf); refine w_retp rfl (Vle.eq (cBool (isPa_el hen (okAt_el (isEl_many g4))).symm))
      have g4 : e.ty.length ≤ 3 := by have := of_decide_eq_false g4; rw [List.length_map] at this; omega
      (conv => arg 2; whnf); refine wp_load (cs := elC e) 0 rfl rfl ?_
      (conv => arg 2; whnf); refine wp_pcall fr ?_
      (conv => arg 2; whnf); refine wp_ite (fun g5 => ?_) (fun g5 => ?_)
      · have g5 : riseB e.ty = false := by simpa using g5
        (repeat ((conv => arg 2; whnf); first | refine wp_ite (fun _ => ?_) (fun h => Bool.noConfusion h) | refine wp_ite (fun h => Bool.noConfusion h) (fun _ => ?_)))
        (conv => arg 2; whnf)
        refine wp_leaf (loop_ret ?_)
        (conv => arg 2; whnf); refine w_retp rfl (Vle.eq (cBool (isPa_el hen (okAt_el (isEl_rise g5))).symm))
      have g5 : riseB e.ty = true := by simpa using g5
      have pf : e.plus = false → (e.plus && e.nt) = false := fun h => by rw [h, Bool.false_and]
      have nf : e.nt = false → (e.plus && e.nt) = false := fun h => by rw [h, Bool.and_false]
      have nf' : e.nt = false → (e.nt && (decide (0 < n) && ntAt p.els (n - 1))) = false := fun h => by rw [h, Bool.false_and]
      have n0f : ¬ 0 < n → (e.nt && (decide (0 < n) && ntAt p.els (n - 1))) = false := fun h => by rw [decide_eq_false h]; simp
      have pvf : ntAt p.els (n - 1) = false → (e.nt && (decide (0 < n) && ntAt p.els (n - 1))) = false := fun h => by rw [h]; simp
      have nqt : e.nt = false → e.nt = true → False := fun h h' => by rw [h] at h'; cases h'
      have i0 : decide ((n : Int) > 0) = false → ¬ 0 < n := fun h => by have := of_decide_eq_false h; omega
      have i1 : decide ((n : Int) > 0) = true → 0 < n := fun h => by have := of_decide_eq_true h; omega
      have wsn : 0 < n → IntKind.i64.wrap ((n : Int) - 1) = ((n - 1 : Nat) : Int) := fun h => wsub (by omega : ((n : Nat) : Int) - 1 = ((n - 1 : Nat) : Int)) (by omega) (by omega)
      have hy : 0 < n → p.els[n - 1]? = some (p.els.getD (n - 1) el0) := fun h0 => by
        have hx : p.els[n - 1]? = some p.els[n - 1] := List.getElem?_eq_getElem (by omega)
        rw [getDx hx]; exact hx
      apply @wp_joinT _ ((e.plus && e.nt) = false → (e.nt && (decide (0 < n) && ntAt p.els (n - 1))) = false → _)
      case h1 =>
        intro rest
        (conv => arg 2; whnf); refine wp_load (cs := elC e) 0 rfl rfl ?_
        (conv => arg 2; whnf); refine wp_ite (fun hp => ?_) (fun hp => ?_)
        · (conv => arg 2; whnf); refine wp_load (cs := elC e) 0 rfl rfl ?_
          (conv => arg 2; whnf); refine wp_ite (fun hq => ?_) (fun hq => ?_)
          · have hp : e.plus = true := hp
            have hq : e.nt = true := hq
            (repeat ((conv => arg 2; whnf); first | refine wp_ite (fun _ => ?_) (fun h => Bool.noConfusion h) | refine wp_ite (fun h => Bool.noConfusion h) (fun _ => ?_)))
            (conv => arg 2; whnf)
            refine wp_leaf (loop_ret ?_)
            (conv => arg 2; whnf); refine w_retp rfl (Vle.eq (cBool (isPa_el hen (okAt_el (isEl_both hp hq))).symm))
          · have hq : e.nt = false := hq
            (repeat ((conv => arg 2; whnf); first | refine wp_ite (fun _ => ?_) (fun h => Bool.noConfusion h) | refine wp_ite (fun h => Bool.noConfusion h) (fun _ => ?_)))
            (conv => arg 2; whnf); refine wp_ite (fun h0 => ?_) (fun h0 => ?_)
            · (conv => arg 2; whnf); refine wp_load (cs := elC e) 0 rfl rfl ?_
              (conv => arg 2; whnf); refine wp_ite (fun hq' => (nqt hq hq').elim) (fun _ => ?_)
              (repeat ((conv => arg 2; whnf); first | refine wp_ite (fun _ => ?_) (fun h => Bool.noConfusion h) | refine wp_ite (fun h => Bool.noConfusion h) (fun _ => ?_)))
              (conv => arg 2; whnf)
              exact wp_cutR (frL [(1, .pt (some 4) (.agg (paC p)) 0), (3, i64V p.els.length), (4, i64V n), (5, .loc b 0)]) [.obj b (elC e)] (.cons (.refl _) (.cons (.refl _) (.cons (.refl _) (.cons (.refl _) (.nil _))))) (List.Sublist.refl _) (rest (nf hq) (nf' hq))
            · (repeat ((conv => arg 2; whnf); first | refine wp_ite (fun _ => ?_) (fun h => Bool.noConfusion h) | refine wp_ite (fun h => Bool.noConfusion h) (fun _ => ?_)))
              (conv => arg 2; whnf)
              exact wp_cutR (frL [(1, .pt (some 4) (.agg (paC p)) 0), (3, i64V p.els.length), (4, i64V n), (5, .loc b 0)]) [.obj b (elC e)] (.cons (.refl _) (.cons (.refl _) (.cons (.refl _) (.cons (.refl _) (.nil _))))) (List.Sublist.refl _) (rest (nf hq) (nf' hq))
        · have hp : e.plus = false := hp
          (repeat ((conv => arg 2; whnf); first | refine wp_ite (fun _ => ?_) (fun h => Bool.noConfusion h) | refine wp_ite (fun h => Bool.noConfusion h) (fun _ => ?_)))
          (conv => arg 2; whnf); refine wp_ite (fun h0 => ?_) (fun h0 => ?_)
          · (conv => arg 2; whnf); refine wp_load (cs := elC e) 0 rfl rfl ?_
            (conv => arg 2; whnf); refine wp_ite (fun hq => ?_) (fun hq => ?_)
            · have hq : e.nt = true := hq
              (conv => arg 2; whnf); refine wp_elem (n - 1) (.agg (elC (p.els.getD (n - 1) el0))) (wsn (i1 h0)) (els_at (hy (i1 h0))) (Vle.refl _) ?_
              (conv => arg 2; whnf); refine wp_ite (fun hz => ?_) (fun hz => ?_)
              · have hz : ntAt p.els (n - 1) = true := (ntAt_of (hy (i1 h0))).trans hz
                (repeat ((conv => arg 2; whnf); first | refine wp_ite (fun _ => ?_) (fun h => Bool.noConfusion h) | refine wp_ite (fun h => Bool.noConfusion h) (fun _ => ?_)))
                (conv => arg 2; whnf)
                refine wp_leaf (loop_ret ?_)
                (conv => arg 2; whnf); refine w_retp rfl (Vle.eq (cBool (isPa_el hen (okAt_nt hq (i1 h0) hz)).symm))
              · have hz : ntAt p.els (n - 1) = false := (ntAt_of (hy (i1 h0))).trans hz
                (repeat ((conv => arg 2; whnf); first | refine wp_ite (fun _ => ?_) (fun h => Bool.noConfusion h) | refine wp_ite (fun h => Bool.noConfusion h) (fun _ => ?_)))
                (conv => arg 2; whnf)
                exact wp_cutR (frL [(1, .pt (some 4) (.agg (paC p)) 0), (3, i64V p.els.length), (4, i64V n), (5, .loc b 0)]) [.obj b (elC e)] (.cons (.refl _) (.cons (.refl _) (.cons (.refl _) (.cons (.refl _) (.nil _))))) (List.Sublist.refl _) (rest (pf hp) (pvf hz))
            · have hq : e.nt = false := hq
              (repeat ((conv => arg 2; whnf); first | refine wp_ite (fun _ => ?_) (fun h => Bool.noConfusion h) | refine wp_ite (fun h => Bool.noConfusion h) (fun _ => ?_)))
              (conv => arg 2; whnf)
              exact wp_cutR (frL [(1, .pt (some 4) (.agg (paC p)) 0), (3, i64V p.els.length), (4, i64V n), (5, .loc b 0)]) [.obj b (elC e)] (.cons (.refl _) (.cons (.refl _) (.cons (.refl _) (.cons (.refl _) (.nil _))))) (List.Sublist.refl _) (rest (pf hp) (nf' hq))
          · (repeat ((conv => arg 2; whnf); first | refine wp_ite (fun _ => ?_) (fun h => Bool.noConfusion h) | refine wp_ite (fun h => Bool.noConfusion h) (fun _ => ?_)))
            (conv => arg 2; whnf)
            exact wp_cutR (frL [(1, .pt (some 4) (.agg (paC p)) 0), (3, i64V p.els.length), (4, i64V n), (5, .loc b 0)]) [.obj b (elC e)] (.cons (.refl _) (.cons (.refl _) (.cons (.refl _) (.cons (.refl _) (.nil _))))) (List.Sublist.refl _) (rest (pf hp) (n0f (i0 h0)))
      case rest =>
        intro g6 g7
        (conv => arg 2; whnf); refine wp_loop (fun m fr R => ∃ k : Nat, m = e.ty.length - k ∧ k ≤ e.ty.length ∧ R = [.obj b (elC e)] ∧ (e.ty.take k).all isNm = true ∧ fr = frL [(1, .pt (some 4) (.agg (paC p)) 0), (3, i64V p.els.length), (4, i64V n), (5, .loc b 0), (6, i64V k)])
          e.ty.length _ _ (.cons (.refl _) (.cons (.refl _) (.cons (.refl _) (.cons (.refl _) (.cons (.refl _) (.nil _)))))) (List.Sublist.refl _) ⟨0, rfl, Nat.zero_le _, rfl, rfl, rfl⟩ ?_
        rintro m fr R ⟨k, rfl, hk, rfl, hnm, rfl⟩
        (conv => arg 2; whnf); refine wp_load (cs := elC e) 0 rfl rfl ?_
        (conv => arg 2; whnf); refine wp_ite (fun hk1 => ?_) (fun hk1 => ?_)
        · have hk1 : k < e.ty.length := by have := of_decide_eq_true hk1; rw [List.length_map] at this; omega
          obtain ⟨t, htk⟩ : ∃ t, e.ty[k]? = some t := ⟨_, List.getElem?_eq_getElem hk1⟩
          have hm := List.mem_of_getElem? htk
          have fn := refname_call t (by have := bt t hm; omega)
          (conv => arg 2; whnf); refine wp_load (cs := elC e) 0 rfl rfl ?_
          (conv => arg 2; whnf); refine wp_elem k (str t) rfl (by rw [List.getElem?_map, htk]; rfl) (Vle.refl _) ?_
          (conv => arg 2; whnf); refine wp_pcall fn ?_
          (conv => arg 2; whnf); refine wp_ite (fun g8 => ?_) (fun g8 => ?_)
          · have g8 : isNm t = false := by simpa using g8
            (conv => arg 2; whnf)
            refine wp_leaf (loop_ret ?_)
            (conv => arg 2; whnf)
            refine wp_leaf (loop_ret ?_)
            (conv => arg 2; whnf); refine w_retp rfl (Vle.eq (cBool (isPa_el hen (okAt_el (isEl_ty hm g8))).symm))
          · have g8 : isNm t = true := by simpa using g8
            (conv => arg 2; whnf)
            refine wp_leaf (loop_next (e.ty.length - (k + 1)) _ _ (by omega) (.cons (.refl _) (.cons (.refl _) (.cons (.refl _) (.cons (.refl _) (.cons (Vle.inc k rfl (by omega)) (.nil _)))))) (List.Sublist.refl _) ⟨k + 1, rfl, hk1, rfl, ?_, rfl⟩)
            rw [List.take_add_one, htk, List.all_append, hnm]
            simp [g8]
        · have hk1 : k = e.ty.length := by have := of_decide_eq_false hk1; rw [List.length_map] at this; omega
          subst hk1
          rw [List.take_length] at hnm
          have hend := isEl_end g1 g3 g4 g5 g6 hnm
          have next : isElB e = true → ((List.range (n + 1)).all fun i => okAtB p.els i (p.els.getD i el0)) = true := fun g => by
            rw [List.range_succ, List.all_append, hall]
            simp only [List.all_cons, List.all_nil]
            rw [getDx hen, okAt_end g g2 g7]; rfl
          (conv => arg 2; whnf)
          refine wp_leaf (loop_exit ?_)
          (conv => arg 2; whnf); refine wp_load (cs := elC e) 0 rfl rfl ?_
          (conv => arg 2; whnf); refine wp_pcallV (.cons (.refl _) (.cons zero_vle .nil)) fs ?_
          (conv => arg 2; whnf); refine wp_ite (fun g9 => ?_) (fun g9 => ?_)
          · have g9 : zeroB e.cond = false := by simpa using g9
            (conv => arg 2; whnf); refine wp_load (cs := elC e) 0 rfl rfl ?_
            (conv => arg 2; whnf); refine wp_pcall fi ?_
            (conv => arg 2; whnf); refine wp_ite (fun g10 => ?_) (fun g10 => ?_)
            · have g10 : isExB e.cond = false := by simpa using g10
              (conv => arg 2; whnf)
              refine wp_leaf (loop_ret ?_)
              (conv => arg 2; whnf); refine w_retp rfl (Vle.eq (cBool (isPa_el hen (okAt_el (by rw [hend, g9, g10]; rfl))).symm))
            · have g10 : isExB e.cond = true := by simpa using g10
              (conv => arg 2; whnf)
              refine wp_leaf (loop_next (p.els.length - (n + 1)) _ _ (by omega) (.cons (.refl _) (.cons (.refl _) (.cons (Vle.inc n rfl (by omega)) (.nil _)))) (List.nil_sublist _) ⟨n + 1, rfl, h, rfl, next (by rw [hend, g9, g10]; rfl), rfl⟩)
          · have g9 : zeroB e.cond = true := by simpa using g9
            (repeat ((conv => arg 2; whnf); first | refine wp_ite (fun _ => ?_) (fun h => Bool.noConfusion h) | refine wp_ite (fun h => Bool.noConfusion h) (fun _ => ?_)))
            (conv => arg 2; whnf)
            refine wp_leaf (loop_next (p.els.length - (n + 1)) _ _ (by omega) (.cons (.refl _) (.cons (.refl _) (.cons (Vle.inc n rfl (by omega)) (.nil _)))) (List.nil_sublist _) ⟨n + 1, rfl, h, rfl, next (by rw [hend, g9]; rfl), rfl⟩)
    · have h : n = p.els.length := by have := of_decide_eq_false h; omega
      subst h
      (conv => arg 2; whnf)
      refine wp_leaf (loop_exit ?_)
      (conv => arg 2; whnf); refine w_retp rfl (Vle.eq (cBool (isPa_end h1 h2 h3 h4 h5 h6 h7 hall).symm))
end Go.Sv
/- Texts: how long they are; conditions of the same text are the same. -/
namespace Go.Sv
open Go Go.Proofs

theorem shape_nb {k : Nat} {x : Ex} (h : shapedN (k + 1) x = true) : ¬ (x.op < 1 ∨ 12 < x.op ∨ x.kids.length ≠ kidsN x.op) := fun hb => by
  rw [shapedN_bad hb] at h; cases h
theorem hasF_no {x : Ex} (h : (!hasF x) = true) : x.al = [] ∧ x.fd = [] := by
  simp only [hasF, Bool.not_eq_true', Bool.or_eq_false_iff, Bool.not_eq_false'] at h
  exact ⟨of_decide_eq_true h.1, of_decide_eq_true h.2⟩
theorem hasV_no {x : Ex} (h : (!hasV x) = true) : x.val = val0 := by
  simp only [hasV, Bool.not_not] at h
  exact of_decide_eq_true h
theorem shape_1 {k : Nat} {v : Val} {a f : List UInt8} {l : List Ex} (h : shapedN (k + 1) (.mk 1 v a f l) = true) : valIs v = true ∧ a = [] ∧ f = [] ∧ l = [] := by
  have hb := shape_nb h
  have hl : l.length = kidsN 1 := Classical.byContradiction fun e => hb (.inr (.inr e))
  rw [kidsN_0 (by omega) (by omega)] at hl
  rw [shapedN_lit hb rfl, Bool.and_eq_true] at h
  exact ⟨h.1, (hasF_no h.2).1, (hasF_no h.2).2, List.length_eq_zero_iff.1 hl⟩
theorem shape_2 {k : Nat} {v : Val} {a f : List UInt8} {l : List Ex} (h : shapedN (k + 1) (.mk 2 v a f l) = true) : v = val0 ∧ isNm a = true ∧ isNm f = true ∧ l = [] := by
  have hb := shape_nb h
  have hl : l.length = kidsN 2 := Classical.byContradiction fun e => hb (.inr (.inr e))
  rw [kidsN_0 (by omega) (by omega)] at hl
  rw [shapedN_fld hb rfl, Bool.and_eq_true, Bool.and_eq_true] at h
  exact ⟨hasV_no h.1, h.2.1, h.2.2, List.length_eq_zero_iff.1 hl⟩
theorem shape_3 {k : Nat} {o : Int} {v : Val} {a f : List UInt8} {l : List Ex} (h : shapedN (k + 1) (.mk o v a f l) = true) (h1 : o ≠ 1) (h2 : o ≠ 2) : v = val0 ∧ a = [] ∧ f = [] := by
  have hb := shape_nb h
  rw [shapedN_in hb h1 h2, Bool.and_eq_true, Bool.and_eq_true] at h
  exact ⟨hasV_no h.2.1, (hasF_no h.2.2).1, (hasF_no h.2.2).2⟩

theorem isNm_all {s : List UInt8} (h : isNm s = true) : (∀ c ∈ s, isSm c = true) ∧ s ≠ [] ∧ s.length ≤ 8 := by
  rw [isNm, Bool.and_eq_true, Bool.and_eq_true] at h
  refine ⟨fun c hc => List.all_eq_true.1 h.1 c hc, fun e => ?_, of_decide_eq_true h.2.2⟩
  have := h.2.1
  rw [decide_eq_true e] at this; cases this
theorem valIs_s {v : Val} (h : valIs v = true) : v.s.length ≤ 16 := by
  unfold valIs at h
  split at h
  · rw [of_decide_eq_true h]; simp
  · split at h
    · rw [Bool.and_eq_true, isTextB, Bool.and_eq_true] at h
      exact of_decide_eq_true h.2.2
    · split at h
      · rw [Bool.and_eq_true] at h
        rw [of_decide_eq_true h.2]; simp
      · cases h
theorem showV_sm {v : Val} (h : valIs v = true) (hv : ValSm v) : (showV v).length ≤ 64 := by
  have hs := valIs_s h
  rw [showV, if_pos h]
  split
  · have := decD_len21 v.n hv.2.1 hv.2.2; omega
  · split
    · have := esc_len v.s
      simp only [quoted, List.length_cons, List.length_append, List.length_nil]; omega
    · split <;> decide
theorem told_sm : ∀ (k : Nat) (x : Ex), ExSm k x → shapedN k x = true → (toldN showV k x).length ≤ 2 ^ (6 + 2 * k)
  | 0, _, _, h => by cases h
  | k + 1, .mk o v a f l, hok, hsh => by
    have hp : 2 ^ (6 + 2 * (k + 1)) = 4 * 2 ^ (6 + 2 * k) := by rw [show 6 + 2 * (k + 1) = (6 + 2 * k) + 2 by omega, Nat.pow_add]; omega
    have hq : 2 ^ 6 ≤ 2 ^ (6 + 2 * k) := Nat.pow_le_pow_right (by omega) (by omega)
    rcases shape_cases hsh with rfl | rfl | ⟨rfl, x, rfl, hx⟩ | ⟨h3, h11, x, y, rfl, hx, hy⟩
    · rw [toldN_1]
      have := showV_sm (shape_1 hsh).1 hok.1
      omega
    · rw [toldN_2]
      obtain ⟨_, ha, hf, _⟩ := shape_2 hsh
      have := (isNm_all ha).2.2
      have := (isNm_all hf).2.2
      simp only [List.length_append, List.length_cons, List.length_nil]
      omega
    · rw [toldN_12]
      have := told_sm k x (hok.2.2.2 x (by simp [Ex.kids])) hx
      simp only [List.length_append, List.length_cons, List.length_nil, notL]
      omega
    · rw [toldN_op (by omega) (by omega) (by omega)]
      have h1 := told_sm k x (hok.2.2.2 x (by simp [Ex.kids])) hx
      have h2 := told_sm k y (hok.2.2.2 y (by simp [Ex.kids])) hy
      have h3 := signT_len o
      simp only [List.length_append, List.length_cons, List.length_nil]
      omega
theorem told_sm5 {x : Ex} (h : ExSm 5 x) (hs : shapedN 5 x = true) : (toldN showV 5 x).length ≤ 2 ^ 16 := told_sm 5 x h hs

/-- What comes behind begins with none of these. -/
def NoHd (p : UInt8 → Bool) (r : List UInt8) : Prop := ∀ c t, r = c :: t → p c = false
theorem span_same {p : UInt8 → Bool} : ∀ {l l' r r' : List UInt8}, (∀ c ∈ l, p c = true) → (∀ c ∈ l', p c = true) → NoHd p r → NoHd p r' → l ++ r = l' ++ r' → l = l' ∧ r = r'
  | [], [], _, _, _, _, _, _, h => ⟨rfl, h⟩
  | [], c :: l', r, r', _, h2, h3, _, h => by
    have := h3 c (l' ++ r') h
    rw [h2 c (by simp)] at this; cases this
  | c :: l, [], r, r', h1, _, _, h4, h => by
    have := h4 c (l ++ r) h.symm
    rw [h1 c (by simp)] at this; cases this
  | c :: l, d :: l', r, r', h1, h2, h3, h4, h => by
    obtain ⟨rfl, h5⟩ := List.cons.inj h
    obtain ⟨e1, e2⟩ := span_same (l := l) (l' := l') (r := r) (r' := r') (fun c hc => h1 c (by simp [hc])) (fun c hc => h2 c (by simp [hc])) h3 h4 h5
    exact ⟨by rw [e1], e2⟩
theorem NoHd.nil {p : UInt8 → Bool} : NoHd p [] := fun _ _ h => by cases h
theorem NoHd.cons {p : UInt8 → Bool} {c : UInt8} {t : List UInt8} (h : p c = false) : NoHd p (c :: t) := fun _ _ e => by rw [← (List.cons.inj e).1]; exact h

theorem natD_same {n m : Nat} {r r' : List UInt8} (h3 : NoHd isDg r) (h4 : NoHd isDg r') (h : natD n ++ r = natD m ++ r') : n = m ∧ r = r' := by
  obtain ⟨a1, _, a3⟩ := natD_dig n
  obtain ⟨b1, _, b3⟩ := natD_dig m
  obtain ⟨e1, e2⟩ := span_same a1 b1 h3 h4 h
  exact ⟨by rw [← a3, ← b3, e1], e2⟩
theorem natD_no45 {n : Nat} {r t : List UInt8} (h : natD n ++ r = 45 :: t) : False := by
  obtain ⟨a1, a2, _⟩ := natD_dig n
  cases hn : natD n with
  | nil => exact a2 hn
  | cons c l =>
    rw [hn] at h a1
    obtain ⟨rfl, _⟩ := List.cons.inj h
    have := a1 45 (by simp)
    revert this; decide
theorem decD_same {n m : Int} {r r' : List UInt8} (h3 : NoHd isDg r) (h4 : NoHd isDg r') (h : decD n ++ r = decD m ++ r') : n = m ∧ r = r' := by
  unfold decD at h
  by_cases hn : n < 0
  · by_cases hm : m < 0
    · rw [if_pos hn, if_pos hm] at h
      obtain ⟨e1, e2⟩ := natD_same h3 h4 (List.cons.inj h).2
      exact ⟨by omega, e2⟩
    · rw [if_pos hn, if_neg hm] at h
      exact (natD_no45 h.symm).elim
  · by_cases hm : m < 0
    · rw [if_neg hn, if_pos hm] at h
      exact (natD_no45 h).elim
    · rw [if_neg hn, if_neg hm] at h
      obtain ⟨e1, e2⟩ := natD_same h3 h4 h
      exact ⟨by omega, e2⟩
theorem esc_cons (c : UInt8) (s : List UInt8) : esc (c :: s) = escB c ++ esc s := by simp [esc]
theorem esc_same : ∀ {s s' r r' : List UInt8}, esc s ++ 34 :: r = esc s' ++ 34 :: r' → s = s' ∧ r = r'
  | [], [], _, _, h => ⟨rfl, (List.cons.inj h).2⟩
  | [], c :: s', r, r', h => by
    rw [esc_cons, escB] at h
    split at h
    · exact absurd (List.cons.inj h).1 (by decide)
    · rename_i hc
      exact (hc (.inl (List.cons.inj h).1.symm)).elim
  | c :: s, [], r, r', h => by
    rw [esc_cons, escB] at h
    split at h
    · exact absurd (List.cons.inj h).1 (by decide)
    · rename_i hc
      exact (hc (.inl (List.cons.inj h).1)).elim
  | c :: s, d :: s', r, r', h => by
    rw [esc_cons, esc_cons, escB, escB] at h
    split at h
    · split at h
      · obtain ⟨_, h⟩ := List.cons.inj h
        obtain ⟨rfl, h5⟩ := List.cons.inj h
        obtain ⟨e1, e2⟩ := esc_same (s := s) (s' := s') (r := r) (r' := r') h5
        exact ⟨by rw [e1], e2⟩
      · rename_i hd
        exact (hd (.inr (List.cons.inj h).1.symm)).elim
    · rename_i hc
      split at h
      · exact (hc (.inr (List.cons.inj h).1)).elim
      · obtain ⟨rfl, h5⟩ := List.cons.inj h
        obtain ⟨e1, e2⟩ := esc_same (s := s) (s' := s') (r := r) (r' := r') h5
        exact ⟨by rw [e1], e2⟩
end Go.Sv
/- Conditions of the same text are the same. -/
namespace Go.Sv
open Go Go.Proofs

/-- What may stand behind a condition: nothing, a blank, ')', ']'. -/
def Dl (r : List UInt8) : Prop := ∀ c t, r = c :: t → c = 32 ∨ c = 41 ∨ c = 93
theorem Dl.cons {c : UInt8} {t : List UInt8} (h : c = 32 ∨ c = 41 ∨ c = 93) : Dl (c :: t) := fun _ _ e => by rw [← (List.cons.inj e).1]; exact h
theorem Dl.dg {r : List UInt8} (h : Dl r) : NoHd isDg r := fun c t e => by rcases h c t e with rfl | rfl | rfl <;> decide
theorem Dl.sm {r : List UInt8} (h : Dl r) : NoHd isSm r := fun c t e => by rcases h c t e with rfl | rfl | rfl <;> decide

/-- The kind of a condition, by its text's first byte. -/
def tagB (c : UInt8) : Nat := if isDg c || decide (c = 45) then 1 else if c = 34 then 2 else if c = 84 ∨ c = 70 then 3 else if isSm c then 4 else if c = 40 then 5 else 0
def cls (x : Ex) : Nat := if x.op = 1 then (if x.val.kind = 1 then 1 else if x.val.kind = 2 then 2 else 3) else if x.op = 2 then 4 else 5
theorem sm_tag {c : UInt8} (h : isSm c = true) : tagB c = 4 := by
  have h' := h
  rw [isSm, Bool.and_eq_true] at h
  have h1 := of_decide_eq_true h.1
  have h2 := of_decide_eq_true h.2
  have hd : isDg c = false := by rw [isDg, decide_eq_false (by omega : ¬ c.toNat ≤ 57), Bool.and_false]
  have ne : ∀ k : UInt8, k.toNat < 97 → c ≠ k := fun k hk e => by subst e; omega
  rw [tagB, hd, decide_eq_false (ne 45 (by decide)), if_neg (by decide), if_neg (ne 34 (by decide)), if_neg (fun e => e.elim (ne 84 (by decide)) (ne 70 (by decide))), if_pos h']
theorem dec_tag (n : Int) : ∃ c t, decD n = c :: t ∧ tagB c = 1 := by
  obtain ⟨c, r, e, _, hc⟩ := dec_shape n
  refine ⟨c, r, e, ?_⟩
  rw [tagB, if_pos]
  rcases hc with hc | ⟨rfl, _⟩
  · rw [hc]; rfl
  · rfl
theorem showV_tag {v : Val} (h : valIs v = true) : ∃ c t, showV v = c :: t ∧ tagB c = (if v.kind = 1 then 1 else if v.kind = 2 then 2 else 3) := by
  by_cases h1 : v.kind = 1
  · rw [showV_1 h h1, if_pos h1]; exact dec_tag v.n
  by_cases h2 : v.kind = 2
  · rw [showV_2 h h2, if_neg h1, if_pos h2]; exact ⟨34, _, rfl, rfl⟩
  rw [if_neg h1, if_neg h2]
  by_cases h3 : v.n = 1
  · rw [showV_t h h1 h2 h3]; exact ⟨84, _, rfl, rfl⟩
  · rw [showV_f h h1 h2 h3]; exact ⟨70, _, rfl, rfl⟩
theorem told_tag : ∀ {k : Nat} {x : Ex}, shapedN k x = true → ∃ c t, toldN showV k x = c :: t ∧ tagB c = cls x
  | 0, _, h => by cases h
  | k + 1, .mk o v a f l, h => by
    rcases shape_cases h with rfl | rfl | ⟨rfl, x, rfl, hx⟩ | ⟨h3, h11, x, y, rfl, hx, hy⟩
    · rw [toldN_1]
      exact showV_tag (shape_1 h).1
    · obtain ⟨_, ha, _, _⟩ := shape_2 h
      obtain ⟨a1, a2, _⟩ := isNm_all ha
      rw [toldN_2]
      cases a with
      | nil => exact absurd rfl a2
      | cons c t => exact ⟨c, _, rfl, sm_tag (a1 c (by simp))⟩
    · rw [toldN_12]
      exact ⟨40, _, rfl, rfl⟩
    · rw [toldN_op (by omega) (by omega) (by omega)]
      refine ⟨40, _, rfl, ?_⟩
      have e1 : ¬ Ex.op (.mk o v a f [x, y]) = 1 := by show ¬ o = 1; omega
      have e2 : ¬ Ex.op (.mk o v a f [x, y]) = 2 := by show ¬ o = 2; omega
      rw [cls, if_neg e1, if_neg e2]; rfl
theorem cls_same {k : Nat} {x y : Ex} {r r' : List UInt8} (hx : shapedN k x = true) (hy : shapedN k y = true) (h : toldN showV k x ++ r = toldN showV k y ++ r') : cls x = cls y := by
  obtain ⟨c, t, e1, e2⟩ := told_tag hx
  obtain ⟨d, t', e3, e4⟩ := told_tag hy
  rw [e1, e3] at h
  rw [← e2, ← e4, (List.cons.inj h).1]
theorem cls_le (x : Ex) : 1 ≤ cls x := by
  unfold cls
  repeat' split
  all_goals omega

theorem signT_bl (o : Int) : ∀ c ∈ signT o, (c != 32) = true := by
  unfold signT
  repeat' split
  all_goals decide
theorem sign_same {o o' : Int} (h1 : 3 ≤ o) (h2 : o ≤ 11) (h3 : 3 ≤ o') (h4 : o' ≤ 11) (h : signT o = signT o') : o = o' := by
  have key : ∀ i j : Fin 9, signT (3 + (i.val : Int)) = signT (3 + (j.val : Int)) → i = j := by decide
  have e1 : o = 3 + (((⟨(o - 3).toNat, by omega⟩ : Fin 9)).val : Int) := by show o = 3 + ((o - 3).toNat : Int); omega
  have e2 : o' = 3 + (((⟨(o' - 3).toNat, by omega⟩ : Fin 9)).val : Int) := by show o' = 3 + ((o' - 3).toNat : Int); omega
  rw [e1, e2] at h
  have := key _ _ h
  have := congrArg Fin.val this
  simp only at this
  omega
theorem tag78 : tagB 78 = 0 := by decide

theorem val_same {v u : Val} {r r' : List UInt8} (hv : valIs v = true) (hu : valIs u = true) (hr : Dl r) (hr' : Dl r') (h : showV v ++ r = showV u ++ r') : v = u ∧ r = r' := by
  obtain ⟨c, t, e1, e2⟩ := showV_tag hv
  obtain ⟨d, t', e3, e4⟩ := showV_tag hu
  have hk : (if v.kind = 1 then 1 else if v.kind = 2 then 2 else 3) = (if u.kind = 1 then 1 else if u.kind = 2 then 2 else 3) := by
    have h' := h
    rw [e1, e3] at h'
    rw [← e2, ← e4, (List.cons.inj h').1]
  obtain ⟨k, n, s⟩ := v
  obtain ⟨k', n', s'⟩ := u
  simp only at hk
  by_cases h1 : k = 1
  · have h1' : k' = 1 := Classical.byContradiction fun e => by
      rw [if_pos h1, if_neg e] at hk; split at hk <;> cases hk
    rw [showV_1 hv h1, showV_1 hu h1'] at h
    obtain ⟨e5, e6⟩ := decD_same hr.dg hr'.dg h
    rw [valIs, if_pos h1] at hv
    rw [valIs, if_pos h1'] at hu
    have e7 := of_decide_eq_true hv
    have e8 := of_decide_eq_true hu
    simp only at e5 e7 e8
    rw [h1, h1', e5, e7, e8]
    exact ⟨rfl, e6⟩
  have h1' : k' ≠ 1 := fun e => by
    rw [if_neg h1, if_pos e] at hk; split at hk <;> cases hk
  rw [if_neg h1, if_neg h1'] at hk
  by_cases h2 : k = 2
  · have h2' : k' = 2 := Classical.byContradiction fun e => by
      rw [if_pos h2, if_neg e] at hk; cases hk
    rw [showV_2 hv h2, showV_2 hu h2', quoted, quoted] at h
    simp only [List.cons_append, List.append_assoc, List.nil_append] at h
    obtain ⟨e5, e6⟩ := esc_same (List.cons.inj h).2
    rw [valIs, if_neg h1, if_pos h2, Bool.and_eq_true] at hv
    rw [valIs, if_neg h1', if_pos h2', Bool.and_eq_true] at hu
    have e7 := of_decide_eq_true hv.1
    have e8 := of_decide_eq_true hu.1
    simp only at e5 e7 e8
    rw [h2, h2', e5, e7, e8]
    exact ⟨rfl, e6⟩
  have h2' : k' ≠ 2 := fun e => by
    rw [if_neg h2, if_pos e] at hk; cases hk
  have k3 : k = 3 := valIs_kind hv h1 h2
  have k3' : k' = 3 := valIs_kind hu h1' h2'
  have hv' := hv
  have hu' := hu
  rw [valIs, if_neg h1, if_neg h2, if_pos k3, Bool.and_eq_true, Bool.or_eq_true] at hv'
  rw [valIs, if_neg h1', if_neg h2', if_pos k3', Bool.and_eq_true, Bool.or_eq_true] at hu'
  have e7 := of_decide_eq_true hv'.2
  have e8 := of_decide_eq_true hu'.2
  simp only at e7 e8
  by_cases h3 : n = 1
  · by_cases h3' : n' = 1
    · rw [showV_t hv h1 h2 h3, showV_t hu h1' h2' h3'] at h
      rw [k3, k3', h3, h3', e7, e8]
      exact ⟨rfl, List.append_cancel_left h⟩
    · rw [showV_t hv h1 h2 h3, showV_f hu h1' h2' h3'] at h
      exact absurd (List.cons.inj h).1 (by decide)
  · by_cases h3' : n' = 1
    · rw [showV_f hv h1 h2 h3, showV_t hu h1' h2' h3'] at h
      exact absurd (List.cons.inj h).1 (by decide)
    · rw [showV_f hv h1 h2 h3, showV_f hu h1' h2' h3'] at h
      have n0 : n = 0 := hv'.1.elim (fun e => of_decide_eq_true e) (fun e => (h3 (of_decide_eq_true e)).elim)
      have n0' : n' = 0 := hu'.1.elim (fun e => of_decide_eq_true e) (fun e => (h3' (of_decide_eq_true e)).elim)
      rw [k3, k3', n0, n0', e7, e8]
      exact ⟨rfl, List.append_cancel_left h⟩

theorem told_same : ∀ (k : Nat) (x y : Ex) (r r' : List UInt8), shapedN k x = true → shapedN k y = true → Dl r → Dl r' → toldN showV k x ++ r = toldN showV k y ++ r' → x = y ∧ r = r'
  | 0, _, _, _, _, h, _, _, _, _ => by cases h
  | k + 1, .mk o v a f l, .mk o' v' a' f' l', r, r', hx, hy, hr, hr', h => by
    have hc := cls_same hx hy h
    rcases shape_cases hx with rfl | rfl | ⟨rfl, x, rfl, hx1⟩ | ⟨h3, h11, x1, x2, rfl, hx1, hx2⟩
    · -- a value
      have ho : o' = 1 := Classical.byContradiction fun e => by
        have e1 : cls (.mk o' v' a' f' l') = (if o' = 2 then 4 else 5) := by rw [cls, if_neg (show ¬ Ex.op (.mk o' v' a' f' l') = 1 from e)]; rfl
        have e2 : cls (.mk 1 v a f l) ≤ 3 := by
          rw [cls, if_pos (show Ex.op _ = 1 from rfl)]
          repeat' split
          all_goals omega
        rw [hc, e1] at e2
        split at e2 <;> omega
      subst ho
      rw [toldN_1, toldN_1] at h
      obtain ⟨b1, b2, b3, b4⟩ := shape_1 hx
      obtain ⟨c1, c2, c3, c4⟩ := shape_1 hy
      obtain ⟨e1, e2⟩ := val_same b1 c1 hr hr' h
      subst b2 b3 b4 c2 c3 c4 e1
      exact ⟨rfl, e2⟩
    · -- a field
      have ho : o' = 2 := Classical.byContradiction fun e => by
        have e2 : cls (.mk 2 v a f l) = 4 := by rw [cls, if_neg (show ¬ Ex.op (.mk 2 v a f l) = 1 from (by decide : ¬ (2 : Int) = 1)), if_pos (show Ex.op _ = 2 from rfl)]
        rw [e2, cls] at hc
        split at hc
        · split at hc
          · cases hc
          · split at hc <;> cases hc
        · rw [if_neg (show ¬ Ex.op (.mk o' v' a' f' l') = 2 from e)] at hc; cases hc
      subst ho
      rw [toldN_2, toldN_2] at h
      obtain ⟨b1, b2, b3, b4⟩ := shape_2 hx
      obtain ⟨c1, c2, c3, c4⟩ := shape_2 hy
      simp only [List.append_assoc] at h
      obtain ⟨e1, e2⟩ := span_same (p := isSm) (isNm_all b2).1 (isNm_all c2).1 (NoHd.cons (by decide)) (NoHd.cons (by decide)) h
      obtain ⟨e3, e4⟩ := span_same (p := isSm) (isNm_all b3).1 (isNm_all c3).1 hr.sm hr'.sm (List.cons.inj e2).2
      subst b1 b4 c1 c4 e1 e3
      exact ⟨rfl, e4⟩
    · -- NOT
      obtain ⟨b1, b2, b3⟩ := shape_3 hx (by omega) (by omega)
      have e2 : cls (.mk 12 v a f [x]) = 5 := by rw [cls, if_neg (show ¬ Ex.op (.mk 12 v a f [x]) = 1 from (by decide : ¬ (12 : Int) = 1)), if_neg (show ¬ Ex.op (.mk 12 v a f [x]) = 2 from (by decide : ¬ (12 : Int) = 2))]
      rw [e2] at hc
      rcases shape_cases hy with rfl | rfl | ⟨rfl, y, rfl, hy1⟩ | ⟨h3', h11', y1, y2, rfl, hy1, hy2⟩
      · rw [cls, if_pos (show Ex.op _ = 1 from rfl)] at hc
        split at hc
        · cases hc
        · split at hc <;> cases hc
      · rw [cls, if_neg (show ¬ Ex.op (.mk 2 v' a' f' l') = 1 from (by decide : ¬ (2 : Int) = 1)), if_pos (show Ex.op _ = 2 from rfl)] at hc; cases hc
      · obtain ⟨c1, c2, c3⟩ := shape_3 hy (by omega) (by omega)
        rw [toldN_12, toldN_12] at h
        simp only [List.append_assoc] at h
        have h := List.append_cancel_left h
        obtain ⟨e3, e4⟩ := told_same k x y _ _ hx1 hy1 (Dl.cons (by decide)) (Dl.cons (by decide)) h
        subst b1 b2 b3 c1 c2 c3 e3
        exact ⟨rfl, (List.cons.inj e4).2⟩
      · rw [toldN_12, toldN_op (by omega) (by omega) (by omega)] at h
        obtain ⟨c, t, e3, e4⟩ := told_tag hy1
        rw [e3] at h
        have h := (List.cons.inj (List.cons.inj h).2).1
        rw [← h, tag78] at e4
        have := cls_le y1
        omega
    · -- two kids
      obtain ⟨b1, b2, b3⟩ := shape_3 hx (by omega) (by omega)
      have e2 : cls (.mk o v a f [x1, x2]) = 5 := by rw [cls, if_neg (show ¬ Ex.op (.mk o v a f [x1, x2]) = 1 from (by show ¬ o = 1; omega)), if_neg (show ¬ Ex.op (.mk o v a f [x1, x2]) = 2 from (by show ¬ o = 2; omega))]
      rw [e2] at hc
      rcases shape_cases hy with rfl | rfl | ⟨rfl, y, rfl, hy1⟩ | ⟨h3', h11', y1, y2, rfl, hy1, hy2⟩
      · rw [cls, if_pos (show Ex.op _ = 1 from rfl)] at hc
        split at hc
        · cases hc
        · split at hc <;> cases hc
      · rw [cls, if_neg (show ¬ Ex.op (.mk 2 v' a' f' l') = 1 from (by decide : ¬ (2 : Int) = 1)), if_pos (show Ex.op _ = 2 from rfl)] at hc; cases hc
      · rw [toldN_12, toldN_op (by omega) (by omega) (by omega)] at h
        obtain ⟨c, t, e3, e4⟩ := told_tag hx1
        rw [e3] at h
        have h := (List.cons.inj (List.cons.inj h).2).1
        rw [h, tag78] at e4
        have := cls_le x1
        omega
      · obtain ⟨c1, c2, c3⟩ := shape_3 hy (by omega) (by omega)
        rw [toldN_op (by omega) (by omega) (by omega), toldN_op (by omega) (by omega) (by omega)] at h
        simp only [List.append_assoc] at h
        have h := List.append_cancel_left h
        obtain ⟨e3, e4⟩ := told_same k x1 y1 _ _ hx1 hy1 (Dl.cons (by decide)) (Dl.cons (by decide)) h
        obtain ⟨e5, e6⟩ := span_same (p := fun c => c != 32) (signT_bl o) (signT_bl o') (NoHd.cons (by decide)) (NoHd.cons (by decide)) (List.cons.inj e4).2
        obtain ⟨e7, e8⟩ := told_same k x2 y2 _ _ hx2 hy2 (Dl.cons (by decide)) (Dl.cons (by decide)) (List.cons.inj e6).2
        have e9 := sign_same h3 h11 h3' h11' e5
        subst b1 b2 b3 c1 c2 c3 e3 e7 e9
        exact ⟨rfl, (List.cons.inj e8).2⟩
end Go.Sv
/- Patterns of the same text are the same. -/
namespace Go.Sv
open Go Go.Proofs

theorem exR_shape {x : Ex} (h : isExB x = true) : shapedN 5 x = true := by
  rw [← isEx_same, isExR, Bool.and_eq_true] at h
  exact h.1
structure ElGood (e : El) : Prop where
  al : isNm e.al = true
  n1 : 1 ≤ e.ty.length
  n3 : e.ty.length ≤ 3
  both : (e.plus && e.nt) = false
  ty : ∀ t ∈ e.ty, isNm t = true
  cond : e.cond = ex0 ∨ (e.cond.op ≠ 0 ∧ shapedN 5 e.cond = true)
theorem el_good {e : El} (h : isElB e = true) : ElGood e := by
  rw [isElB, Bool.and_eq_true, Bool.and_eq_true, Bool.and_eq_true, Bool.and_eq_true, Bool.and_eq_true, Bool.and_eq_true, Bool.or_eq_true] at h
  obtain ⟨h1, h2, h3, _, h5, h6, h7⟩ := h
  refine ⟨h1, of_decide_eq_true h2, of_decide_eq_true h3, by cases hb : (e.plus && e.nt) with | true => (rw [hb] at h5; cases h5) | false => rfl, fun t ht => List.all_eq_true.1 h6 t ht, ?_⟩
  rcases h7 with h7 | h7
  · exact .inl (zeroB_iff.1 h7)
  · have hs := exR_shape h7
    refine .inr ⟨fun e0 => ?_, hs⟩
    have := shape_nb (k := 4) hs
    omega
theorem pa_good {p : Pa} (h : isPaB p = true) : (∀ e ∈ p.els, ElGood e) ∧ 1 ≤ p.els.length ∧ p.els.length ≤ 5 ∧ 0 ≤ p.within ∧ p.within ≤ 1000 ∧ (p.by_ = [] ∨ isNm p.by_ = true) := by
  rw [isPaB, Bool.and_eq_true, Bool.and_eq_true, Bool.and_eq_true, Bool.and_eq_true, Bool.and_eq_true, Bool.and_eq_true, Bool.and_eq_true, Bool.or_eq_true] at h
  obtain ⟨h1, h2, _, _, h5, h6, h7, h8⟩ := h
  refine ⟨fun e he => ?_, of_decide_eq_true h1, of_decide_eq_true h2, of_decide_eq_true h5, of_decide_eq_true h6, h7.imp (fun e => of_decide_eq_true e) id⟩
  obtain ⟨i, hi⟩ := List.mem_iff_getElem?.1 he
  have := List.all_eq_true.1 h8 i (List.mem_range.2 (List.getElem?_eq_some_iff.1 hi).1)
  rw [getDx hi, okAtB, Bool.and_eq_true] at this
  exact el_good this.1

def smBar (c : UInt8) : Bool := isSm c || decide (c = 124)
theorem smBar_sm {r : List UInt8} (h : NoHd smBar r) : NoHd isSm r := fun c t e => by
  have := h c t e
  rw [smBar, Bool.or_eq_false_iff] at this
  exact this.1
theorem tail_nohd {l : List (List UInt8)} {r : List UInt8} (h : NoHd smBar r) : NoHd isSm (Lib.joinTail [124] l ++ r) := by
  cases l with
  | nil => exact smBar_sm h
  | cons x l => exact NoHd.cons (by decide)
theorem joinTail_cons (sep x : List UInt8) (l : List (List UInt8)) : Lib.joinTail sep (x :: l) = sep ++ x ++ Lib.joinTail sep l := by simp [Lib.joinTail]
theorem tail_same : ∀ {l l' : List (List UInt8)} {r r' : List UInt8}, (∀ x ∈ l, isNm x = true) → (∀ x ∈ l', isNm x = true) → NoHd smBar r → NoHd smBar r' → Lib.joinTail [124] l ++ r = Lib.joinTail [124] l' ++ r' → l = l' ∧ r = r'
  | [], [], _, _, _, _, _, _, h => ⟨rfl, h⟩
  | [], x :: l', r, r', _, _, h3, _, h => by
    have := h3 124 _ h
    cases this
  | x :: l, [], r, r', _, _, _, h4, h => by
    have := h4 124 _ h.symm
    cases this
  | x :: l, y :: l', r, r', h1, h2, h3, h4, h => by
    rw [joinTail_cons, joinTail_cons] at h
    simp only [List.append_assoc] at h
    have h5 := List.append_cancel_left h
    obtain ⟨e1, e2⟩ := span_same (p := isSm) (isNm_all (h1 x (by simp))).1 (isNm_all (h2 y (by simp))).1 (tail_nohd h3) (tail_nohd h4) h5
    obtain ⟨e3, e4⟩ := tail_same (l := l) (l' := l') (fun z hz => h1 z (by simp [hz])) (fun z hz => h2 z (by simp [hz])) h3 h4 e2
    exact ⟨by rw [e1, e3], e4⟩
theorem join_same {l l' : List (List UInt8)} {r r' : List UInt8} (n : 1 ≤ l.length) (n' : 1 ≤ l'.length) (h1 : ∀ x ∈ l, isNm x = true) (h2 : ∀ x ∈ l', isNm x = true) (h3 : NoHd smBar r) (h4 : NoHd smBar r') (h : Lib.join l [124] ++ r = Lib.join l' [124] ++ r') : l = l' ∧ r = r' := by
  cases l with
  | nil => simp at n
  | cons x l =>
    cases l' with
    | nil => simp at n'
    | cons y l' =>
      rw [Lib.join_cons, Lib.join_cons] at h
      simp only [List.append_assoc] at h
      obtain ⟨e1, e2⟩ := span_same (p := isSm) (isNm_all (h1 x (by simp))).1 (isNm_all (h2 y (by simp))).1 (tail_nohd h3) (tail_nohd h4) h
      obtain ⟨e3, e4⟩ := tail_same (fun z hz => h1 z (by simp [hz])) (fun z hz => h2 z (by simp [hz])) h3 h4 e2
      exact ⟨by rw [e1, e3], e4⟩

/-- What may stand behind an element: ',', ')'. -/
def De (r : List UInt8) : Prop := ∃ c t, r = c :: t ∧ (c = 44 ∨ c = 41)
def plusT (b : Bool) : List UInt8 := if b then [43] else []
def condT (x : Ex) : List UInt8 := if x.op = 0 then [] else [91] ++ toldN showV 5 x ++ [93]
def ntT (b : Bool) : List UInt8 := if b then [33] else []
theorem elT_eq (e : El) : elT e = ntT e.nt ++ (e.al ++ [58] ++ Lib.join e.ty [124] ++ plusT e.plus ++ condT e.cond) := rfl
theorem condT_nohd {x : Ex} {r : List UInt8} (h : De r) : NoHd (fun c => smBar c || decide (c = 43)) (condT x ++ r) := by
  obtain ⟨c, t, rfl, hc⟩ := h
  unfold condT
  split
  · exact NoHd.cons (by rcases hc with rfl | rfl <;> decide)
  · exact NoHd.cons (by decide)
theorem cond_same {x y : Ex} {r r' : List UInt8} (hx : x = ex0 ∨ (x.op ≠ 0 ∧ shapedN 5 x = true)) (hy : y = ex0 ∨ (y.op ≠ 0 ∧ shapedN 5 y = true)) (hr : De r) (hr' : De r') (h : condT x ++ r = condT y ++ r') : x = y ∧ r = r' := by
  obtain ⟨c, t, rfl, hc⟩ := hr
  obtain ⟨d, t', rfl, hd⟩ := hr'
  rcases hx with rfl | ⟨hx, hx'⟩
  · rcases hy with rfl | ⟨hy, hy'⟩
    · exact ⟨rfl, h⟩
    · rw [condT, condT, if_pos (show ex0.op = 0 from rfl), if_neg hy] at h
      have := (List.cons.inj h).1
      subst this
      rcases hc with hc | hc <;> cases hc
  · rcases hy with rfl | ⟨hy, hy'⟩
    · rw [condT, condT, if_neg hx, if_pos (show ex0.op = 0 from rfl)] at h
      have := (List.cons.inj h).1
      subst this
      rcases hd with hd | hd <;> cases hd
    · rw [condT, condT, if_neg hx, if_neg hy] at h
      simp only [List.append_assoc] at h
      obtain ⟨e1, e2⟩ := told_same 5 x y _ _ hx' hy' (Dl.cons (by decide)) (Dl.cons (by decide)) (List.append_cancel_left h)
      exact ⟨e1, (List.cons.inj e2).2⟩
theorem plus_same {b b' : Bool} {r r' : List UInt8} (h1 : NoHd (fun c => smBar c || decide (c = 43)) r) (h2 : NoHd (fun c => smBar c || decide (c = 43)) r') (h : plusT b ++ r = plusT b' ++ r') : b = b' ∧ r = r' := by
  cases b with
  | false =>
    cases b' with
    | false => exact ⟨rfl, h⟩
    | true => have := h1 43 _ h; cases this
  | true =>
    cases b' with
    | false => have := h2 43 _ h.symm; cases this
    | true => exact ⟨rfl, (List.cons.inj h).2⟩
theorem nohd_weak {p : UInt8 → Bool} {r : List UInt8} (h : NoHd (fun c => p c || decide (c = 43)) r) (b : Bool) (hp : p 43 = false) : NoHd p (plusT b ++ r) := by
  cases b with
  | true => exact NoHd.cons hp
  | false =>
    intro c t e
    have := h c t e
    rw [Bool.or_eq_false_iff] at this
    exact this.1
theorem elT_same {e e' : El} {r r' : List UInt8} (g : ElGood e) (g' : ElGood e') (hr : De r) (hr' : De r') (h : elT e ++ r = elT e' ++ r') : e = e' ∧ r = r' := by
  rw [elT_eq, elT_eq] at h
  obtain ⟨a1, a2, _⟩ := isNm_all g.al
  obtain ⟨b1, b2, _⟩ := isNm_all g'.al
  have key : e.nt = e'.nt ∧ (e.al ++ [58] ++ Lib.join e.ty [124] ++ plusT e.plus ++ condT e.cond) ++ r = (e'.al ++ [58] ++ Lib.join e'.ty [124] ++ plusT e'.plus ++ condT e'.cond) ++ r' := by
    rw [List.append_assoc (ntT e.nt), List.append_assoc (ntT e'.nt)] at h
    cases hn : e.nt with
    | true =>
      cases hn' : e'.nt with
      | true => rw [hn, hn'] at h; exact ⟨rfl, (List.cons.inj h).2⟩
      | false =>
        rw [hn, hn'] at h
        cases ha : e'.al with
        | nil => exact absurd ha b2
        | cons c t =>
          rw [ha] at h b1
          have h5 : (33 : UInt8) = c := (List.cons.inj h).1
          have := b1 c (by simp)
          rw [← h5] at this; cases this
    | false =>
      cases hn' : e'.nt with
      | true =>
        rw [hn, hn'] at h
        cases ha : e.al with
        | nil => exact absurd ha a2
        | cons c t =>
          rw [ha] at h a1
          have h5 : c = 33 := (List.cons.inj h).1
          have := a1 c (by simp)
          rw [h5] at this; cases this
      | false => rw [hn, hn'] at h; exact ⟨rfl, h⟩
  obtain ⟨k1, k2⟩ := key
  simp only [List.append_assoc] at k2
  obtain ⟨k3, k4⟩ := span_same (p := isSm) a1 b1 (NoHd.cons (by decide)) (NoHd.cons (by decide)) k2
  have k5 := (List.cons.inj k4).2
  have c1 := condT_nohd (x := e.cond) hr
  have c2 := condT_nohd (x := e'.cond) hr'
  obtain ⟨k6, k7⟩ := join_same g.n1 g'.n1 g.ty g'.ty (nohd_weak c1 e.plus (by decide)) (nohd_weak c2 e'.plus (by decide)) k5
  obtain ⟨k8, k9⟩ := plus_same c1 c2 k7
  obtain ⟨k10, k11⟩ := cond_same g.cond g'.cond hr hr' k9
  obtain ⟨al, ty, plus, nt, cond⟩ := e
  obtain ⟨al', ty', plus', nt', cond'⟩ := e'
  simp only at k1 k3 k6 k8 k10
  subst k1 k3 k6 k8 k10
  exact ⟨rfl, k11⟩

theorem etail_de {l : List El} {r : List UInt8} : De (Lib.joinTail [44, 32] (l.map elT) ++ 41 :: r) := by
  cases l with
  | nil => exact ⟨41, r, rfl, .inr rfl⟩
  | cons x l =>
    rw [List.map_cons, joinTail_cons]
    exact ⟨44, _, rfl, .inl rfl⟩
theorem etail_same : ∀ {l l' : List El} {r r' : List UInt8}, (∀ x ∈ l, ElGood x) → (∀ x ∈ l', ElGood x) → Lib.joinTail [44, 32] (l.map elT) ++ 41 :: r = Lib.joinTail [44, 32] (l'.map elT) ++ 41 :: r' → l = l' ∧ r = r'
  | [], [], _, _, _, _, h => ⟨rfl, (List.cons.inj h).2⟩
  | [], x :: l', r, r', _, _, h => by
    rw [List.map_cons, joinTail_cons] at h
    exact absurd (List.cons.inj h).1 (by decide)
  | x :: l, [], r, r', _, _, h => by
    rw [List.map_cons, joinTail_cons] at h
    exact absurd (List.cons.inj h).1 (by decide)
  | x :: l, y :: l', r, r', h1, h2, h => by
    rw [List.map_cons, List.map_cons, joinTail_cons, joinTail_cons] at h
    simp only [List.append_assoc] at h
    have h5 := List.append_cancel_left h
    obtain ⟨e1, e2⟩ := elT_same (h1 x (by simp)) (h2 y (by simp)) etail_de etail_de h5
    obtain ⟨e3, e4⟩ := etail_same (l := l) (l' := l') (fun z hz => h1 z (by simp [hz])) (fun z hz => h2 z (by simp [hz])) e2
    exact ⟨by rw [e1, e3], e4⟩
theorem els_same {l l' : List El} {r r' : List UInt8} (n : 1 ≤ l.length) (n' : 1 ≤ l'.length) (h1 : ∀ x ∈ l, ElGood x) (h2 : ∀ x ∈ l', ElGood x) (h : Lib.join (l.map elT) [44, 32] ++ 41 :: r = Lib.join (l'.map elT) [44, 32] ++ 41 :: r') : l = l' ∧ r = r' := by
  cases l with
  | nil => simp at n
  | cons x l =>
    cases l' with
    | nil => simp at n'
    | cons y l' =>
      rw [List.map_cons, List.map_cons, Lib.join_cons, Lib.join_cons] at h
      simp only [List.append_assoc] at h
      obtain ⟨e1, e2⟩ := elT_same (h1 x (by simp)) (h2 y (by simp)) etail_de etail_de h
      obtain ⟨e3, e4⟩ := etail_same (fun z hz => h1 z (by simp [hz])) (fun z hz => h2 z (by simp [hz])) e2
      exact ⟨by rw [e1, e3], e4⟩

def byT (s : List UInt8) : List UInt8 := if s = [] then [] else byL ++ s
def anyT (b : Bool) : List UInt8 := if b then anyL else []
theorem any_same {b b' : Bool} (h : anyT b = anyT b') : b = b' := by
  cases b <;> cases b' <;> first | rfl | (exact absurd h (by decide))
theorem anyT_sm (b : Bool) : NoHd isSm (anyT b) := by
  cases b with
  | true => exact NoHd.cons (by decide)
  | false => exact NoHd.nil
theorem by_same {s s' : List UInt8} {b b' : Bool} (hs : s = [] ∨ isNm s = true) (hs' : s' = [] ∨ isNm s' = true) (h : byT s ++ anyT b = byT s' ++ anyT b') : s = s' ∧ b = b' := by
  by_cases h1 : s = []
  · by_cases h2 : s' = []
    · rw [byT, byT, if_pos h1, if_pos h2] at h
      exact ⟨by rw [h1, h2], any_same h⟩
    · rw [byT, byT, if_pos h1, if_neg h2] at h
      cases b with
      | false => cases h
      | true => exact absurd (List.cons.inj (List.cons.inj h).2).1 (by decide)
  · by_cases h2 : s' = []
    · rw [byT, byT, if_neg h1, if_pos h2] at h
      cases b' with
      | false => cases h
      | true => exact absurd (List.cons.inj (List.cons.inj h).2).1 (by decide)
    · rw [byT, byT, if_neg h1, if_neg h2, List.append_assoc, List.append_assoc] at h
      have h5 := List.append_cancel_left h
      obtain ⟨e1, e2⟩ := span_same (p := isSm) (isNm_all (hs.resolve_left h1)).1 (isNm_all (hs'.resolve_left h2)).1 (anyT_sm b) (anyT_sm b') h5
      exact ⟨e1, any_same e2⟩
theorem byany_dg {s : List UInt8} {b : Bool} : NoHd isDg (byT s ++ anyT b) := by
  unfold byT
  split
  · cases b with
    | true => exact NoHd.cons (by decide)
    | false => exact NoHd.nil
  · exact NoHd.cons (by decide)
theorem paT_eq (p : Pa) : paT p = seqL ++ (Lib.join (p.els.map elT) [44, 32] ++ 41 :: ([32, 87, 73, 84, 72, 73, 78, 32] ++ (decD p.within ++ (byT p.by_ ++ anyT p.any)))) := by
  simp [paT, byT, anyT, withinL]
/-- Unlike patterns have unlike texts. -/
theorem paT_same {p q : Pa} (hp : isPaB p = true) (hq : isPaB q = true) (h : paT p = paT q) : p = q := by
  obtain ⟨p1, p2, _, _, _, p6⟩ := pa_good hp
  obtain ⟨q1, q2, _, _, _, q6⟩ := pa_good hq
  rw [paT_eq, paT_eq] at h
  obtain ⟨e1, e2⟩ := els_same p2 q2 p1 q1 (List.append_cancel_left h)
  obtain ⟨e3, e4⟩ := decD_same byany_dg byany_dg (List.append_cancel_left e2)
  obtain ⟨e5, e6⟩ := by_same p6 q6 e4
  obtain ⟨a, b, c, d⟩ := p
  obtain ⟨a', b', c', d'⟩ := q
  simp only at e1 e3 e5 e6
  subst e1 e3 e5 e6
  rfl
theorem dl_nil : Dl [] := fun _ _ h => by cases h
theorem exT_same {x y : Ex} (hx : isExB x = true) (hy : isExB y = true) (h : toldN showV 5 x = toldN showV 5 y) : x = y :=
  (told_same 5 x y [] [] (exR_shape hx) (exR_shape hy) dl_nil dl_nil (by rw [h])).1
end Go.Sv
/- The text of a condition, of an element. -/
namespace Go.Sv
open Go Go.Proofs

theorem ExOk.less : ∀ {k : Nat} {x : Ex}, ExOk (k + 1) x → ExOk k x
  | 0, _, _ => trivial
  | _ + 1, _, h => ⟨h.1, h.2.1, h.2.2.1, h.2.2.2.1, fun y hy => (h.2.2.2.2 y hy).less⟩
theorem told5_call (x : Ex) (h : ExBd x) (hs : shapedN 5 x = true) : PCall Tryd.prog 41 [.agg (exC x)] (str (toldN showV 5 x)) :=
  told_call showV showvalue_call showV_len 5 x (by omega) h.2.1.less h.2.2.1 hs
theorem reftold5_call (x : Ex) (h : ExBd x) (hs : shapedN 5 x = true) : PCall Tryd.prog 42 [.agg (exC x)] (str (toldN showV 5 x)) :=
  refshow_call showV refshowvalue_call showV_len 5 x (by omega) h.2.1.less h.2.2.1 hs

def exT (x : Ex) : List UInt8 := if isExB x then toldN showV 5 x else []
theorem exT_no {x : Ex} (h : isExB x = false) : exT x = [] := by rw [exT, h]; rfl
theorem exT_yes {x : Ex} (h : isExB x = true) : exT x = toldN showV 5 x := by rw [exT, if_pos h]

set_option maxRecDepth 100000 in
theorem showexpr_call (x : Ex) (h : ExBd x) : PCall Tryd.prog 21 [.agg (exC x)] (str (exT x)) := by
  have fi := isexpr_call x h.1
  refine scall_of (live := []) (ords := []) Tryd.func21 rfl (by kernel_rfl) (by kernel_rfl) (Nat.le_of_ble_eq_true rfl) ?_
  (conv => arg 2; whnf); refine wp_pcall fi ?_
  (conv => arg 2; whnf); refine wp_ite (fun h1 => ?_) (fun h1 => ?_)
  · have h1 : isExB x = false := by simpa using h1
    (conv => arg 2; whnf); refine w_retp rfl (Vle.eq (congrArg str (exT_no h1).symm))
  have h1 : isExB x = true := by simpa using h1
  (conv => arg 2; whnf); refine wp_pcall (told5_call x h (exR_shape h1)) ?_
  (conv => arg 2; whnf); refine w_retp rfl (Vle.eq (congrArg str (exT_yes h1).symm))

set_option maxRecDepth 100000 in
theorem refshowexpr_call (x : Ex) (h : ExBd x) : PCall Tryd.prog 22 [.agg (exC x)] (str (exT x)) := by
  have fi := refisexpr_call x h.1 h.2.1 h.2.2.2
  rw [isEx_same] at fi
  refine scall_of (live := []) (ords := []) Tryd.func22 rfl (by kernel_rfl) (by kernel_rfl) (Nat.le_of_ble_eq_true rfl) ?_
  (conv => arg 2; whnf); refine wp_pcall fi ?_
  (conv => arg 2; whnf); refine wp_ite (fun h1 => ?_) (fun h1 => ?_)
  · have h1 : isExB x = false := by simpa using h1
    (conv => arg 2; whnf); refine w_retp rfl (Vle.eq (congrArg str (exT_no h1).symm))
  have h1 : isExB x = true := by simpa using h1
  (conv => arg 2; whnf); refine wp_pcall (reftold5_call x h (exR_shape h1)) ?_
  (conv => arg 2; whnf); refine w_retp rfl (Vle.eq (congrArg str (exT_yes h1).symm))

theorem joinTail_len {B : Nat} (sep : List UInt8) : ∀ l : List (List UInt8), (∀ x ∈ l, x.length ≤ B) → (Lib.joinTail sep l).length ≤ l.length * (sep.length + B)
  | [], _ => by simp [Lib.joinTail]
  | x :: l, h => by
    have h1 := joinTail_len sep l fun y hy => h y (by simp [hy])
    have h2 := h x (by simp)
    rw [joinTail_cons, List.length_append, List.length_append, List.length_cons, Nat.add_mul]
    omega
theorem join_len {B : Nat} (sep : List UInt8) (l : List (List UInt8)) (h : ∀ x ∈ l, x.length ≤ B) : (Lib.join l sep).length ≤ l.length * (sep.length + B) := by
  cases l with
  | nil => simp [Lib.join_nil]
  | cons x l =>
    have h1 := joinTail_len sep l fun y hy => h y (by simp [hy])
    have h2 := h x (by simp)
    rw [Lib.join_cons, List.length_append, List.length_cons, Nat.add_mul]
    omega
theorem ty_len {e : El} (g : ElGood e) : (Lib.join e.ty [124]).length ≤ 27 := by
  have h1 := join_len [124] e.ty (B := 8) fun x hx => (isNm_all (g.ty x hx)).2.2
  have h2 : e.ty.length * 9 ≤ 3 * 9 := Nat.mul_le_mul_right 9 g.n3
  simp only [List.length_cons, List.length_nil] at h1
  omega
theorem condT_len {e : El} (g : ElGood e) (h : ExBd e.cond) : (condT e.cond).length ≤ 2 ^ 16 + 2 := by
  unfold condT
  rcases g.cond with hc | ⟨hc, hs⟩
  · rw [hc, if_pos (show ex0.op = 0 from rfl)]; simp
  · rw [if_neg hc]
    have := told_sm5 h.2.2.1 hs
    simp only [List.length_append, List.length_cons, List.length_nil]; omega
theorem elT_len {e : El} (g : ElGood e) (h : ExBd e.cond) : (elT e).length ≤ 2 ^ 17 := by
  have h1 := ty_len g
  have h2 := condT_len g h
  have h3 := (isNm_all g.al).2.2
  have h4 : (ntT e.nt).length ≤ 1 := by cases e.nt <;> decide
  have h5 : (plusT e.plus).length ≤ 1 := by cases e.plus <;> decide
  rw [elT_eq]
  simp only [List.length_append, List.length_cons, List.length_nil]
  omega

theorem needP {a b c d : List UInt8} (h : a.length + (b.length + c.length + d.length) ≤ 4611686018427387904) : (S a).size + (S b ++ S c ++ S d).size ≤ 4611686018427387904 := by simp only [S_append, S_size, List.length_append]; exact h

set_option maxRecDepth 100000 in
theorem elem_call (e : El) (h : ElBd e) (g : ElGood e) : PCall Tryd.prog 45 [.agg (elC e)] (str (elT e)) := by
  have la := (isNm_all g.al).2.2
  have lj := ty_len g
  have l3 := g.n3
  obtain ⟨b, hb⟩ : ∃ b, b = e.al ++ [58] ++ Lib.join e.ty [124] := ⟨_, rfl⟩
  have lb : b.length ≤ 40 := by rw [hb]; simp only [List.length_append, List.length_cons, List.length_nil]; omega
  obtain ⟨b1, hb1⟩ : ∃ b1, b1 = ntT e.nt ++ b := ⟨_, rfl⟩
  have ln : (ntT e.nt).length ≤ 1 := by cases e.nt <;> decide
  have lp : (plusT e.plus).length ≤ 1 := by cases e.plus <;> decide
  have lb1 : b1.length ≤ 41 := by rw [hb1, List.length_append]; omega
  obtain ⟨b2, hb2⟩ : ∃ b2, b2 = b1 ++ plusT e.plus := ⟨_, rfl⟩
  have lb2 : b2.length ≤ 42 := by rw [hb2, List.length_append]; omega
  have he : elT e = b2 ++ condT e.cond := by rw [elT_eq, hb2, hb1, hb]; simp only [List.append_assoc]
  have fj := join_call e.ty .no [124] (by omega) (by omega)
  have q1 : V.c (.string (S e.al ++ S [58] ++ S (Lib.join e.ty [124]))) = str b := (cat3 _ _ _).trans (congrArg str hb.symm)
  have q2 : e.nt = true → V.c (.string (S [33] ++ S b)) = str b1 := fun h => by rw [S_append, hb1, h]; rfl
  have q3 : e.nt = false → str b = str b1 := fun h => by rw [hb1, h]; rfl
  have q4 : e.plus = true → V.c (.string (S b1 ++ S [43])) = str b2 := fun h => by rw [S_append, hb2, h]; rfl
  have q5 : e.plus = false → str b1 = str b2 := fun h => by rw [hb2, h]; exact congrArg str (List.append_nil _).symm
  have q6 : e.cond.op ≠ 0 → V.c (.string (S b2 ++ (S [91] ++ S (toldN showV 5 e.cond) ++ S [93]))) = str (elT e) := fun h => by rw [S_append, S_append, S_append, he, condT, if_neg h]; rfl
  have q7 : e.cond.op = 0 → str b2 = str (elT e) := fun h => by rw [he, condT, if_pos h, List.append_nil]
  have q8 : e.cond.op ≠ 0 → shapedN 5 e.cond = true := fun h => by
    rcases g.cond with hc | ⟨_, hs⟩
    · exact (h (by rw [hc]; rfl)).elim
    · exact hs
  have n1 := need2 (a := [33]) (b := b) (by simp only [List.length_cons, List.length_nil]; omega)
  have n2 := need2 (a := b1) (b := [43]) (by simp only [List.length_cons, List.length_nil]; omega)
  refine scall_of (live := []) (ords := [(2, []), (4, []), (6, [])]) Tryd.func45 rfl (by kernel_rfl) (by kernel_rfl) (Nat.le_of_ble_eq_true rfl) ?_
  (conv => arg 2; whnf); refine wp_need (need2 (a := e.al) (b := [58]) (by simp only [List.length_cons, List.length_nil]; omega)) ?_
  (conv => arg 2; whnf); refine wp_pc fj ?_
  (conv => arg 2; whnf); refine wp_need (need3 (a := e.al) (b := [58]) (c := Lib.join e.ty [124]) (by simp only [List.length_cons, List.length_nil]; omega)) ?_
  (conv => arg 2; whnf); refine wp_cutR (frL [(1, .pt (some 11) (.agg (elC e)) 0), (3, str b)]) [] (.cons (.refl _) (.cons (Vle.eq q1) (.nil _))) (List.Sublist.refl _) ?_
  apply wp_joinT
  case h1 =>
    intro rest
    (conv => arg 2; whnf); refine wp_ite (fun hn => ?_) (fun hn => ?_)
    · (conv => arg 2; whnf); refine wp_need n1 ?_
      (conv => arg 2; whnf)
      exact wp_cutR (frL [(1, .pt (some 11) (.agg (elC e)) 0), (3, str b1)]) [] (.cons (.refl _) (.cons (Vle.eq (q2 hn)) (.nil _))) (List.Sublist.refl _) rest
    · (conv => arg 2; whnf)
      exact wp_cutR (frL [(1, .pt (some 11) (.agg (elC e)) 0), (3, str b1)]) [] (.cons (.refl _) (.cons (Vle.eq (q3 hn)) (.nil _))) (List.Sublist.refl _) rest
  case rest =>
    apply wp_joinT
    case h1 =>
      intro rest
      (conv => arg 2; whnf); refine wp_ite (fun hn => ?_) (fun hn => ?_)
      · (conv => arg 2; whnf); refine wp_need n2 ?_
        (conv => arg 2; whnf)
        exact wp_cutR (frL [(1, .pt (some 11) (.agg (elC e)) 0), (3, str b2)]) [] (.cons (.refl _) (.cons (Vle.eq (q4 hn)) (.nil _))) (List.Sublist.refl _) rest
      · (conv => arg 2; whnf)
        exact wp_cutR (frL [(1, .pt (some 11) (.agg (elC e)) 0), (3, str b2)]) [] (.cons (.refl _) (.cons (Vle.eq (q5 hn)) (.nil _))) (List.Sublist.refl _) rest
    case rest =>
      (conv => arg 2; whnf); refine wp_ite (fun h1 => ?_) (fun h1 => ?_)
      · have h1 : e.cond.op ≠ 0 := by simpa using h1
        have ft := told5_call e.cond h.2.2.2 (q8 h1)
        have lt := told_sm5 h.2.2.2.2.2.1 (q8 h1)
        (conv => arg 2; whnf); refine wp_pcall ft ?_
        (conv => arg 2; whnf); refine wp_need (need2 (a := [91]) (b := toldN showV 5 e.cond) (by simp only [List.length_cons, List.length_nil]; omega)) ?_
        (conv => arg 2; whnf); refine wp_need (need3 (a := [91]) (b := toldN showV 5 e.cond) (c := [93]) (by simp only [List.length_cons, List.length_nil]; omega)) ?_
        (conv => arg 2; whnf); refine wp_need (needP (a := b2) (b := [91]) (c := toldN showV 5 e.cond) (d := [93]) (by simp only [List.length_cons, List.length_nil]; omega)) ?_
        (conv => arg 2; whnf); refine w_retp rfl (Vle.eq (q6 h1))
      · have h1 : e.cond.op = 0 := by simpa using h1
        (conv => arg 2; whnf); refine w_retp rfl (Vle.eq (q7 h1))
end Go.Sv
/- The text of a pattern. -/
namespace Go.Sv
open Go Go.Proofs

set_option maxRecDepth 100000 in
theorem values_call (l : List El) : PCall Tryd.prog 44 [elsV l] (.fn (.func 71) [] [.pt none (elsV l) 0]) := by
  refine scall_of (live := []) (ords := []) Tryd.func44 rfl (by kernel_rfl) (by kernel_rfl) (Nat.le_of_ble_eq_true rfl) ?_
  (conv => arg 2; whnf); refine w_retp rfl (Vle.eq ?_)
  rfl

set_option maxRecDepth 100000 in
theorem values_iter (l : List El) (hl : l.length < 2 ^ 60) : Iter Tryd.prog 71 [] [.pt none (elsV l) 0] (l.map fun e => [.agg (elC e)]) := by
  refine ⟨⟨_, _, Tryd.func71, rfl, by kernel_rfl⟩, fun y I E R0 h0 hy => ?_⟩
  refine scall_of (live := []) (ords := []) Tryd.func71 rfl (by kernel_rfl) (by kernel_rfl) (Nat.le_of_ble_eq_true rfl) ?_
  (conv => arg 2; whnf); refine wp_loop (fun m fr R => ∃ n : Nat, m = l.length - n ∧ n ≤ l.length ∧ I n R ∧ fr = frL [(0, .fn (.yield y) [] []), (5, elsV l), (6, i64V l.length), (7, i64V n)])
    l.length _ _ (.cons (.refl _) (.cons (.refl _) (.cons (Vle.eq ?_) (.cons (.refl _) (.nil _))))) (List.Sublist.refl _) ⟨0, rfl, Nat.zero_le _, h0, rfl⟩ ?_
  · show V.c (.int .i64 (l.map elV).length) = _
    rw [List.length_map]; rfl
  rintro m fr R ⟨n, rfl, hn, hI, rfl⟩
  (conv => arg 2; whnf); refine wp_ite (fun h => ?_) (fun h => ?_)
  · have h : n < l.length := by have := of_decide_eq_true h; omega
    obtain ⟨e, he⟩ : ∃ e, l[n]? = some e := ⟨_, List.getElem?_eq_getElem h⟩
    have hp : (l.map fun e => [V.agg (elC e)])[n]? = some [.agg (elC e)] := by rw [List.getElem?_map, he]; rfl
    (conv => arg 2; whnf); refine wp_elem n (.agg (elC e)) rfl (els_at he) (Vle.refl _) ?_
    (conv => arg 2; whnf); refine wp_allocE elZ rfl fun b => ?_
    (conv => arg 2; whnf); refine wp_storeE (cs := elZ) R.length 0 (elC e) (by simp) rfl (VleL.refl _) (Nat.le_refl _) rfl (R' := [] ++ R ++ [.obj b (elC e)]) (by simp [splice_el]) ?_
    (conv => arg 2; whnf); refine wp_load (cs := elC e) R.length (by simp) rfl ?_
    (conv => arg 2; whnf); refine wp_yld (YCall.frame (A := []) (B := [.obj b (elC e)]) (hy _ _ _ hp hI)) ?_
    rintro b' R' ⟨R1, (⟨rfl, hI2⟩ | ⟨rfl, hE⟩), rfl⟩
    · (repeat ((conv => arg 2; whnf); first | refine wp_ite (fun _ => ?_) (fun h => Bool.noConfusion h) | refine wp_ite (fun h => Bool.noConfusion h) (fun _ => ?_)))
      (conv => arg 2; whnf)
      refine wp_leaf (loop_next (l.length - (n + 1)) _ R1 (by omega) (.cons (.refl _) (.cons (.refl _) (.cons (.refl _) (.cons (Vle.inc n rfl (by omega)) (.nil _))))) (by simp) ⟨n + 1, rfl, by omega, hI2, rfl⟩)
    · (repeat ((conv => arg 2; whnf); first | refine wp_ite (fun _ => ?_) (fun h => Bool.noConfusion h) | refine wp_ite (fun h => Bool.noConfusion h) (fun _ => ?_)))
      (conv => arg 2; whnf)
      refine wp_leaf (loop_ret ?_)
      (conv => arg 2; whnf); refine w_ret0 (R' := R1) rfl (by simp) (.inr hE)
  · have h : n = l.length := by have := of_decide_eq_false h; omega
    subst h
    (conv => arg 2; whnf)
    refine wp_leaf (loop_exit ?_)
    (conv => arg 2; whnf); refine w_norm0 rfl (List.Sublist.refl _) (.inl ?_)
    rw [List.length_map]; exact hI
end Go.Sv
/- The text of a pattern: the program's. -/
namespace Go.Sv
open Go Go.Proofs

def paT' (p : Pa) : List UInt8 := if isPaB p then paT p else []
theorem paT_no {p : Pa} (h : isPaB p = false) : paT' p = [] := by rw [paT', h]; rfl
theorem paT_yes {p : Pa} (h : isPaB p = true) : paT' p = paT p := by rw [paT', if_pos h]
theorem cat4 (a b c d : List UInt8) : V.c (.string (S a ++ S b ++ S c ++ S d)) = str (a ++ b ++ c ++ d) := by simp only [S_append]; rfl
theorem cat12 (a b c : List UInt8) : V.c (.string (S a ++ (S b ++ S c))) = str (a ++ (b ++ c)) := by simp only [S_append]; rfl
theorem needQ {a b c : List UInt8} (h : a.length + (b.length + c.length) ≤ 4611686018427387904) : (S a).size + (S b ++ S c).size ≤ 4611686018427387904 := by simp only [S_append, S_size, List.length_append]; exact h

def txs (l : List El) : List V := (l.map elT).map str
theorem txs_next {l : List El} {n : Nat} {e : El} (h : l[n]? = some e) : txs (l.take n) ++ [str (elT e)] = txs (l.take (n + 1)) := by
  rw [List.take_add_one, h]; simp [txs]

set_option maxRecDepth 100000 in
theorem showpattern_call (p : Pa) (h : PaBd p) : PCall Tryd.prog 23 [.agg (paC p)] (str (paT' p)) := by
  have fp := pattern_call p h
  obtain ⟨hl, he, hb, hw1, hw2⟩ := h
  refine scall_of (live := [13, 14, 18]) (ords := [(8, []), (10, [])]) Tryd.func23 rfl (by kernel_rfl) (by kernel_rfl) (Nat.le_of_ble_eq_true rfl) ?_
  (conv => arg 2; whnf); refine wp_pcall fp ?_
  (conv => arg 2; whnf); refine wp_ite (fun h1 => ?_) (fun h1 => ?_)
  · have h1 : isPaB p = false := by simpa using h1
    (conv => arg 2; whnf); refine w_retp rfl (Vle.eq (congrArg str (paT_no h1).symm))
  have h1 : isPaB p = true := by simpa using h1
  obtain ⟨hg, n1, n5, _, _, hby⟩ := pa_good h1
  (conv => arg 2; whnf); refine wp_allocE [.sl none [] .zero] rfl fun c => ?_
  (conv => arg 2; whnf); refine wp_pcall (values_call p.els) ?_
  (conv => arg 2; whnf); refine wp_range (values_iter p.els (by omega)) (fun i R' => ∃ T : List Res, (i = 0 ∧ R' = .obj c [.sl none [] .zero] :: T) ∨ (∃ t j : Nat, T[j]? = some (.tok t none) ∧ R' = .obj c [.sl none (txs (p.els.take i)) (.t t)] :: T)) ⟨[], .inl ⟨rfl, rfl⟩⟩ ?_ ?_ ?_
  · intro i args hi
    rw [List.getElem?_map, Option.map_eq_some_iff] at hi
    obtain ⟨z, _, rfl⟩ := hi
    rfl
  · rintro i args R1 hi ⟨T, hT⟩
    rw [List.getElem?_map, Option.map_eq_some_iff] at hi
    obtain ⟨e, hei, rfl⟩ := hi
    have hm := List.mem_of_getElem? hei
    have fe := elem_call e (he e hm) (hg e hm)
    have hn := txs_next hei
    have hlen : i < p.els.length := (List.getElem?_eq_some_iff.1 hei).1
    rcases hT with ⟨rfl, rfl⟩ | ⟨t, j, hj, rfl⟩
    · (conv => arg 2; whnf); refine wp_allocE elZ rfl fun b => ?_
      (conv => arg 2; whnf); refine wp_storeE (cs := elZ) (T.length + 1) 0 (elC e) (by simp) rfl (VleL.refl _) (Nat.le_refl _) rfl (R' := .obj c [.sl none [] .zero] :: (T ++ [.obj b (elC e)])) (by simp [splice_el]) ?_
      (conv => arg 2; whnf); refine wp_load (cs := [.sl none [] .zero]) 0 rfl rfl ?_
      (conv => arg 2; whnf); refine wp_load (cs := elC e) (T.length + 1) (by simp) rfl ?_
      (conv => arg 2; whnf); refine wp_pc fe ?_
      (conv => arg 2; whnf); refine wp_append_nil ?_ ?_ fun t => ?_
      · intro y hy; rw [List.mem_singleton.1 hy]; trivial
      · show 1 * _ ≤ 140737488355328
        decide
      (conv => arg 2; whnf); refine wp_storeE (cs := [.sl none [] .zero]) 0 0 [.sl none (txs (p.els.take 1)) (.t t)] rfl rfl (.cons (Vle.eq ?_) .nil) (Nat.le_refl _) rfl (R' := .obj c [.sl none (txs (p.els.take 1)) (.t t)] :: (T ++ [.obj b (elC e)] ++ [.tok t none])) rfl ?_
      · rw [← hn]; rfl
      (conv => arg 2; whnf)
      refine wp_leaf ⟨_, .inr ⟨t, T.length + 1, by simp, rfl⟩⟩
    · have hjl : j < T.length := (List.getElem?_eq_some_iff.1 hj).1
      (conv => arg 2; whnf); refine wp_allocE elZ rfl fun b => ?_
      (conv => arg 2; whnf); refine wp_storeE (cs := elZ) (T.length + 1) 0 (elC e) (by simp) rfl (VleL.refl _) (Nat.le_refl _) rfl (R' := .obj c [.sl none (txs (p.els.take i)) (.t t)] :: (T ++ [.obj b (elC e)])) (by simp [splice_el]) ?_
      (conv => arg 2; whnf); refine wp_load (cs := [.sl none (txs (p.els.take i)) (.t t)]) 0 rfl rfl ?_
      (conv => arg 2; whnf); refine wp_load (cs := elC e) (T.length + 1) (by simp) rfl ?_
      (conv => arg 2; whnf); refine wp_pc fe ?_
      (conv => arg 2; whnf); refine wp_append_tok (j + 1) (by rw [List.getElem?_cons_succ, List.getElem?_append_left hjl, hj]) ?_ ?_ fun t' => ?_
      · intro y hy; rw [List.mem_singleton.1 hy]; trivial
      · have : (txs (p.els.take i)).length ≤ 5 := by simp [txs]; omega
        show (_ + 1) * 16 ≤ 140737488355328
        omega
      (conv => arg 2; whnf); refine wp_storeE (cs := [.sl none (txs (p.els.take i)) (.t t)]) 0 0 [.sl none (txs (p.els.take (i + 1))) (.t t')] rfl rfl (.cons (Vle.eq ?_) .nil) (Nat.le_refl _) rfl (R' := .obj c [.sl none (txs (p.els.take (i + 1))) (.t t')] :: ((T ++ [Res.obj b (elC e)]).set j (.tok t' none))) rfl ?_
      · rw [← hn]; rfl
      (conv => arg 2; whnf)
      refine wp_leaf ⟨_, .inr ⟨t', j, ?_, rfl⟩⟩
      rw [List.getElem?_set_self (by rw [List.length_append]; omega)]
  · rintro R1 ⟨T, hT⟩
    rw [List.length_map, List.take_length] at hT
    rcases hT with ⟨h0, _⟩ | ⟨t, j, hj, rfl⟩
    · omega
    have lj : (Lib.join (p.els.map elT) [44, 32]).length ≤ 2 ^ 20 := by
      have k1 := join_len [44, 32] (p.els.map elT) (B := 2 ^ 17) fun x hx => by
        obtain ⟨e, hem, rfl⟩ := List.mem_map.1 hx
        exact elT_len (hg e hem) (he e hem).2.2.2
      rw [List.length_map] at k1
      have k2 : p.els.length * (2 + 2 ^ 17) ≤ 5 * (2 + 2 ^ 17) := Nat.mul_le_mul_right _ n5
      exact Nat.le_trans k1 (Nat.le_trans k2 (by decide))
    have fj := join_call (p.els.map elT) (.t t) [44, 32] (by rw [List.length_map]; omega) (by omega)
    have fi := itoa_call p.within hw1 hw2
    have ld := decD_len21 p.within hw1 hw2
    have lby : p.by_.length ≤ 8 := by
      rcases hby with hby | hby
      · rw [hby]; simp
      · exact (isNm_all hby).2.2
    obtain ⟨b0, hb0⟩ : ∃ b, b = seqL ++ Lib.join (p.els.map elT) [44, 32] ++ withinL ++ decD p.within := ⟨_, rfl⟩
    obtain ⟨b1, hb1⟩ : ∃ b, b = b0 ++ byT p.by_ := ⟨_, rfl⟩
    have he : paT p = b1 ++ anyT p.any := by rw [hb1, hb0]; rfl
    have lb0 : b0.length ≤ 2 ^ 21 := by rw [hb0]; simp only [List.length_append, seqL, withinL, List.length_cons, List.length_nil]; omega
    have lb1 : b1.length ≤ 2 ^ 22 := by
      have : (byT p.by_).length ≤ 12 := by
        unfold byT
        split
        · simp
        · simp only [List.length_append, byL, List.length_cons, List.length_nil]; omega
      rw [hb1, List.length_append]; omega
    have q1 : V.c (.string (S seqL ++ S (Lib.join (p.els.map elT) [44, 32]) ++ S withinL ++ S (decD p.within))) = str b0 := (cat4 _ _ _ _).trans (congrArg str hb0.symm)
    have q2 : p.by_ ≠ [] → V.c (.string (S b0 ++ (S byL ++ S p.by_))) = str b1 := fun h => by rw [S_append, S_append, hb1, byT, if_neg h]; rfl
    have q3 : p.by_ = [] → str b0 = str b1 := fun h => by rw [hb1, byT, if_pos h, List.append_nil]
    have q4 : p.any = true → V.c (.string (S b1 ++ S anyL)) = str (paT' p) := fun h => by rw [S_append, paT_yes h1, he, h]; rfl
    have q5 : p.any = false → str b1 = str (paT' p) := fun h => by rw [paT_yes h1, he, h]; exact congrArg str (List.append_nil _).symm
    have m1 := need2 (a := seqL) (b := Lib.join (p.els.map elT) [44, 32]) (by simp only [seqL, List.length_cons, List.length_nil]; omega)
    have m2 := need3 (a := seqL) (b := Lib.join (p.els.map elT) [44, 32]) (c := withinL) (by simp only [seqL, withinL, List.length_cons, List.length_nil]; omega)
    have m3 := need4 (a := seqL) (b := Lib.join (p.els.map elT) [44, 32]) (c := withinL) (d := decD p.within) (by simp only [seqL, withinL, List.length_cons, List.length_nil]; omega)
    have m4 := need2 (a := byL) (b := p.by_) (by simp only [byL, List.length_cons, List.length_nil]; omega)
    have m5 := needQ (a := b0) (b := byL) (c := p.by_) (by simp only [byL, List.length_cons, List.length_nil]; omega)
    have m6 := need2 (a := b1) (b := anyL) (by simp only [anyL, List.length_cons, List.length_nil]; omega)
    have byne : (!((S p.by_).toList == (⟨#[]⟩ : ByteArray).toList)) = true → p.by_ ≠ [] := fun hq e => by
      have := (nilS_ne (l := p.by_)).symm.trans hq
      rw [e] at this; cases this
    have byeq : (!((S p.by_).toList == (⟨#[]⟩ : ByteArray).toList)) = false → p.by_ = [] := fun hq => Classical.byContradiction fun e => by
      have := (nilS_ne (l := p.by_)).symm.trans hq
      rw [decide_eq_false e] at this; cases this
    (conv => arg 2; whnf); refine wp_load (cs := [.sl none (txs p.els) (.t t)]) 0 rfl rfl ?_
    (conv => arg 2; whnf); refine wp_pc fj ?_
    (conv => arg 2; whnf); refine wp_need m1 ?_
    (conv => arg 2; whnf); refine wp_need m2 ?_
    (conv => arg 2; whnf); refine wp_pc fi ?_
    (conv => arg 2; whnf); refine wp_need m3 ?_
    (conv => arg 2; whnf); refine wp_cutR (frL [(1, .pt (some 4) (.agg (paC p)) 0), (5, str b0)]) [] (.cons (.refl _) (.cons (Vle.eq q1) (.nil _))) (List.nil_sublist _) ?_
    apply wp_joinT
    case h1 =>
      intro rest
      (conv => arg 2; whnf); refine wp_ite (fun hq => ?_) (fun hq => ?_)
      · (conv => arg 2; whnf); refine wp_need m4 ?_
        (conv => arg 2; whnf); refine wp_need m5 ?_
        (conv => arg 2; whnf)
        exact wp_cutR (frL [(1, .pt (some 4) (.agg (paC p)) 0), (5, str b1)]) [] (.cons (.refl _) (.cons (Vle.eq (q2 (byne hq))) (.nil _))) (List.Sublist.refl _) rest
      · (conv => arg 2; whnf)
        exact wp_cutR (frL [(1, .pt (some 4) (.agg (paC p)) 0), (5, str b1)]) [] (.cons (.refl _) (.cons (Vle.eq (q3 (byeq hq))) (.nil _))) (List.Sublist.refl _) rest
    case rest =>
      (conv => arg 2; whnf); refine wp_ite (fun ha => ?_) (fun ha => ?_)
      · (conv => arg 2; whnf); refine wp_need m6 ?_
        (conv => arg 2; whnf); refine w_retp rfl (Vle.eq (q4 ha))
      · (conv => arg 2; whnf); refine w_retp rfl (Vle.eq (q5 ha))
end Go.Sv
/- The text of a pattern: the reference's. -/
namespace Go.Sv
open Go Go.Proofs

theorem Vle.via {v a b : V} (h : a = b) (hv : v = a) : Vle v b := Vle.eq (hv.trans h)
def sepT (sep : List UInt8) (n : Nat) : List UInt8 := if 0 < n then sep else []
theorem joinTail_app (sep : List UInt8) (l m : List (List UInt8)) : Lib.joinTail sep (l ++ m) = Lib.joinTail sep l ++ Lib.joinTail sep m := by simp [Lib.joinTail]
theorem join_next {sep : List UInt8} {l : List (List UInt8)} {n : Nat} {x : List UInt8} (h : l[n]? = some x) : Lib.join (l.take (n + 1)) sep = Lib.join (l.take n) sep ++ sepT sep n ++ x := by
  rw [List.take_add_one, h]
  cases n with
  | zero => simp [sepT, Lib.join_nil, Lib.join_one]
  | succ n =>
    cases l with
    | nil => cases h
    | cons y l =>
      rw [List.take_succ_cons, List.cons_append, Lib.join_cons, Lib.join_cons, joinTail_app, sepT, if_pos (by omega)]
      simp only [Option.toList_some, joinTail_cons, List.append_assoc]
      simp [Lib.joinTail]

set_option maxRecDepth 100000 in
set_option maxHeartbeats 1000000 in
theorem refshowpattern_call (p : Pa) (h : PaBd p) : PCall Tryd.prog 24 [.agg (paC p)] (str (paT' p)) := by
  have fp := refpattern_call p h
  obtain ⟨hl, he, hb, hw1, hw2⟩ := h
  refine scall_of (live := []) (ords := [(10, []), (12, []), (18, []), (21, []), (24, []), (26, [])]) Tryd.func24 rfl (by kernel_rfl) (by kernel_rfl) (Nat.le_of_ble_eq_true rfl) ?_
  (conv => arg 2; whnf); refine wp_pcall fp ?_
  (conv => arg 2; whnf); refine wp_ite (fun h1 => ?_) (fun h1 => ?_)
  · have h1 : isPaB p = false := by simpa using h1
    (conv => arg 2; whnf); refine w_retp rfl (Vle.eq (congrArg str (paT_no h1).symm))
  have h1 : isPaB p = true := by simpa using h1
  obtain ⟨hg, n1, n5, _, _, hby⟩ := pa_good h1
  have lj : ∀ i, (Lib.join ((p.els.map elT).take i) [44, 32]).length ≤ 2 ^ 20 := fun i => by
    have k1 := join_len [44, 32] ((p.els.map elT).take i) (B := 2 ^ 17) fun x hx => by
      obtain ⟨e, hem, rfl⟩ := List.mem_map.1 (List.mem_of_mem_take hx)
      exact elT_len (hg e hem) (he e hem).2.2.2
    have k2 : ((p.els.map elT).take i).length * (2 + 2 ^ 17) ≤ 5 * (2 + 2 ^ 17) := Nat.mul_le_mul_right _ (by rw [List.length_take, List.length_map]; omega)
    exact Nat.le_trans k1 (Nat.le_trans k2 (by decide))
  (conv => arg 2; whnf); refine wp_loop (fun m fr R => ∃ n : Nat, m = p.els.length - n ∧ n ≤ p.els.length ∧ R = [] ∧ fr = frL [(1, .pt (some 4) (.agg (paC p)) 0), (3, str (seqL ++ Lib.join ((p.els.map elT).take n) [44, 32])), (4, i64V n)])
    p.els.length _ _ (.cons (.refl _) (.cons (.refl _) (.cons (.refl _) (.nil _)))) (List.Sublist.refl _) ⟨0, rfl, Nat.zero_le _, rfl, rfl⟩ ?_
  rintro m fr R ⟨n, rfl, hn, rfl, rfl⟩
  have ljn := lj n
  (conv => arg 2; whnf); refine wp_ite (fun h2 => ?_) (fun h2 => ?_)
  · have h2 : n < p.els.length := by have := of_decide_eq_true h2; rw [List.length_map] at this; omega
    obtain ⟨e, hen⟩ : ∃ e, p.els[n]? = some e := ⟨_, List.getElem?_eq_getElem h2⟩
    have hm := List.mem_of_getElem? hen
    have g := hg e hm
    have ebd := he e hm
    have la := (isNm_all g.al).2.2
    have lty := ty_len g
    have gn3 := g.n3
    have lcd := condT_len g ebd.2.2.2
    have ltk : ∀ k, (Lib.join (e.ty.take k) [124]).length ≤ 27 := fun k => by
      have k1 := join_len [124] (e.ty.take k) (B := 8) fun x hx => (isNm_all (g.ty x (List.mem_of_mem_take hx))).2.2
      have k2 : (e.ty.take k).length * 9 ≤ 3 * 9 := Nat.mul_le_mul_right 9 (by have := g.n3; rw [List.length_take]; omega)
      simp only [List.length_cons, List.length_nil] at k1
      omega
    have hnext := join_next (sep := [44, 32]) (l := p.els.map elT) (n := n) (x := elT e) (by rw [List.getElem?_map, hen]; rfl)
    obtain ⟨t0, ht0⟩ : ∃ t, t = seqL ++ Lib.join ((p.els.map elT).take n) [44, 32] := ⟨_, rfl⟩
    obtain ⟨t1, ht1⟩ : ∃ t, t = t0 ++ sepT [44, 32] n := ⟨_, rfl⟩
    obtain ⟨t2, ht2⟩ : ∃ t, t = t1 ++ ntT e.nt := ⟨_, rfl⟩
    obtain ⟨t3, ht3⟩ : ∃ t, t = t2 ++ e.al ++ [58] := ⟨_, rfl⟩
    obtain ⟨t4, ht4⟩ : ∃ t, t = t3 ++ Lib.join e.ty [124] := ⟨_, rfl⟩
    obtain ⟨t5, ht5⟩ : ∃ t, t = t4 ++ plusT e.plus := ⟨_, rfl⟩
    have hfin : t5 ++ condT e.cond = seqL ++ Lib.join ((p.els.map elT).take (n + 1)) [44, 32] := by
      rw [hnext, ht5, ht4, ht3, ht2, ht1, ht0, elT_eq]; simp only [List.append_assoc]
    have l0 : t0.length ≤ 2 ^ 20 + 4 := by rw [ht0]; simp only [List.length_append, seqL, List.length_cons, List.length_nil]; omega
    have l1 : t1.length ≤ 2 ^ 20 + 6 := by
      rw [ht1, List.length_append]
      have : (sepT [44, 32] n).length ≤ 2 := by unfold sepT; split <;> simp
      omega
    have l2 : t2.length ≤ 2 ^ 20 + 7 := by
      rw [ht2, List.length_append]
      have : (ntT e.nt).length ≤ 1 := by cases e.nt <;> decide
      omega
    have l3 : t3.length ≤ 2 ^ 20 + 16 := by rw [ht3]; simp only [List.length_append, List.length_cons, List.length_nil]; omega
    have l4 : t4.length ≤ 2 ^ 20 + 50 := by rw [ht4, List.length_append]; omega
    have l5 : t5.length ≤ 2 ^ 20 + 51 := by
      rw [ht5, List.length_append]
      have : (plusT e.plus).length ≤ 1 := by cases e.plus <;> decide
      omega
    have q1 : 0 < n → V.c (.string (S t0 ++ S [44, 32])) = str t1 := fun h => by rw [S_append, ht1, sepT, if_pos h]; rfl
    have q1' : ¬ 0 < n → str t0 = str t1 := fun h => by rw [ht1, sepT, if_neg h, List.append_nil]
    have q2 : e.nt = true → V.c (.string (S t1 ++ S [33])) = str t2 := fun h => by rw [S_append, ht2, h]; rfl
    have q2' : e.nt = false → str t1 = str t2 := fun h => by rw [ht2, h]; exact congrArg str (List.append_nil _).symm
    have q3 : V.c (.string (S t2 ++ S e.al ++ S [58])) = str t3 := (cat3 _ _ _).trans (congrArg str ht3.symm)
    have q3' : V.c (.string (S t2 ++ S e.al ++ S [58])) = str (t3 ++ Lib.join (e.ty.take 0) [124]) := q3.trans (congrArg str (List.append_nil t3).symm)
    have q5 : e.plus = true → V.c (.string (S t4 ++ S [43])) = str t5 := fun h => by rw [S_append, ht5, h]; rfl
    have q5' : e.plus = false → str t4 = str t5 := fun h => by rw [ht5, h]; exact congrArg str (List.append_nil _).symm
    have q6 : e.cond.op ≠ 0 → V.c (.string (S t5 ++ S [91] ++ S (toldN showV 5 e.cond) ++ S [93])) = str (seqL ++ Lib.join ((p.els.map elT).take (n + 1)) [44, 32]) := fun h => by
      rw [← hfin, cat4, condT, if_neg h]; simp only [List.append_assoc]
    have q6' : e.cond.op = 0 → str t5 = str (seqL ++ Lib.join ((p.els.map elT).take (n + 1)) [44, 32]) := fun h => by rw [← hfin, condT, if_pos h, List.append_nil]
    have q8 : e.cond.op ≠ 0 → shapedN 5 e.cond = true := fun h => by
      rcases g.cond with hc | ⟨_, hs⟩
      · exact (h (by rw [hc]; rfl)).elim
      · exact hs
    have m1 := need2 (a := t0) (b := [44, 32]) (by simp only [List.length_cons, List.length_nil]; omega)
    have m2 := need2 (a := t1) (b := [33]) (by simp only [List.length_cons, List.length_nil]; omega)
    have m3 := need2 (a := t2) (b := e.al) (by omega)
    have m4 := need3 (a := t2) (b := e.al) (c := [58]) (by simp only [List.length_cons, List.length_nil]; omega)
    have m5 := need2 (a := t4) (b := [43]) (by simp only [List.length_cons, List.length_nil]; omega)
    have m6 := need2 (a := t5) (b := [91]) (by simp only [List.length_cons, List.length_nil]; omega)
    have gt1 : decide ((n : Int) > 0) = true → 0 < n := fun h => by have := of_decide_eq_true h; omega
    have gt0 : decide ((n : Int) > 0) = false → ¬ 0 < n := fun h => by have := of_decide_eq_false h; omega
    rw [← ht0]
    (conv => arg 2; whnf); refine wp_elem n (.agg (elC e)) rfl (els_at hen) (Vle.refl _) ?_
    (conv => arg 2; whnf); refine wp_allocE elZ rfl fun b => ?_
    (conv => arg 2; whnf); refine wp_storeE (cs := elZ) 0 0 (elC e) rfl rfl (VleL.refl _) (Nat.le_refl _) rfl (R' := [.obj b (elC e)]) rfl ?_
    apply wp_joinT
    case h1 =>
      intro rest
      (conv => arg 2; whnf); refine wp_ite (fun hq => ?_) (fun hq => ?_)
      · (conv => arg 2; whnf); refine wp_need m1 ?_
        (conv => arg 2; whnf)
        exact wp_cutR (frL [(1, .pt (some 4) (.agg (paC p)) 0), (3, str t1), (4, i64V n), (5, .loc b 0)]) [.obj b (elC e)] (.cons (.refl _) (.cons (Vle.eq (q1 (gt1 hq))) (.cons (.refl _) (.cons (.refl _) (.nil _))))) (List.Sublist.refl _) rest
      · (conv => arg 2; whnf)
        exact wp_cutR (frL [(1, .pt (some 4) (.agg (paC p)) 0), (3, str t1), (4, i64V n), (5, .loc b 0)]) [.obj b (elC e)] (.cons (.refl _) (.cons (Vle.eq (q1' (gt0 hq))) (.cons (.refl _) (.cons (.refl _) (.nil _))))) (List.Sublist.refl _) rest
    case rest =>
    (conv => arg 2; whnf); refine wp_load (cs := elC e) 0 rfl rfl ?_
    apply wp_joinT
    case h1 =>
      intro rest
      (conv => arg 2; whnf); refine wp_ite (fun hq => ?_) (fun hq => ?_)
      · (conv => arg 2; whnf); refine wp_need m2 ?_
        (conv => arg 2; whnf)
        exact wp_cutR (frL [(1, .pt (some 4) (.agg (paC p)) 0), (3, str t2), (4, i64V n), (5, .loc b 0)]) [.obj b (elC e)] (.cons (.refl _) (.cons (Vle.eq (q2 hq)) (.cons (.refl _) (.cons (.refl _) (.nil _))))) (List.Sublist.refl _) rest
      · (conv => arg 2; whnf)
        exact wp_cutR (frL [(1, .pt (some 4) (.agg (paC p)) 0), (3, str t2), (4, i64V n), (5, .loc b 0)]) [.obj b (elC e)] (.cons (.refl _) (.cons (Vle.eq (q2' hq)) (.cons (.refl _) (.cons (.refl _) (.nil _))))) (List.Sublist.refl _) rest
    case rest =>
    (conv => arg 2; whnf); refine wp_load (cs := elC e) 0 rfl rfl ?_
    (conv => arg 2; whnf); refine wp_need m3 ?_
    (conv => arg 2; whnf); refine wp_need m4 ?_
    (conv => arg 2; whnf); refine wp_loop (fun m fr R => ∃ k : Nat, m = e.ty.length - k ∧ k ≤ e.ty.length ∧ R = [.obj b (elC e)] ∧ fr = frL [(1, .pt (some 4) (.agg (paC p)) 0), (3, str (t3 ++ Lib.join (e.ty.take k) [124])), (4, i64V n), (5, .loc b 0), (6, i64V k)])
      e.ty.length _ _ (.cons (.refl _) (.cons (Vle.via q3' rfl) (.cons (.refl _) (.cons (.refl _) (.cons (.refl _) (.nil _)))))) (List.Sublist.refl _) ⟨0, rfl, Nat.zero_le _, rfl, rfl⟩ ?_
    rintro m fr R ⟨k, rfl, hk, rfl, rfl⟩
    (conv => arg 2; whnf); refine wp_load (cs := elC e) 0 rfl rfl ?_
    (conv => arg 2; whnf); refine wp_ite (fun h3 => ?_) (fun h3 => ?_)
    · have h3 : k < e.ty.length := by have := of_decide_eq_true h3; rw [List.length_map] at this; omega
      obtain ⟨t, htk⟩ : ∃ t, e.ty[k]? = some t := ⟨_, List.getElem?_eq_getElem h3⟩
      have lt := (isNm_all (g.ty t (List.mem_of_getElem? htk))).2.2
      have lk := ltk k
      have hk1 := join_next (sep := [124]) htk
      obtain ⟨u0, hu0⟩ : ∃ u, u = t3 ++ Lib.join (e.ty.take k) [124] := ⟨_, rfl⟩
      obtain ⟨u1, hu1⟩ : ∃ u, u = u0 ++ sepT [124] k := ⟨_, rfl⟩
      have lu0 : u0.length ≤ 2 ^ 20 + 50 := by rw [hu0, List.length_append]; omega
      have lu1 : u1.length ≤ 2 ^ 20 + 51 := by
        rw [hu1, List.length_append]
        have : (sepT [124] k).length ≤ 1 := by unfold sepT; split <;> simp
        omega
      have r1 : 0 < k → V.c (.string (S u0 ++ S [124])) = str u1 := fun h => by rw [S_append, hu1, sepT, if_pos h]; rfl
      have r1' : ¬ 0 < k → str u0 = str u1 := fun h => by rw [hu1, sepT, if_neg h, List.append_nil]
      have r2 : V.c (.string (S u1 ++ S t)) = str (t3 ++ Lib.join (e.ty.take (k + 1)) [124]) := by rw [S_append, hk1, hu1, hu0]; simp only [List.append_assoc]; rfl
      have m7 := need2 (a := u0) (b := [124]) (by simp only [List.length_cons, List.length_nil]; omega)
      have m8 := need2 (a := u1) (b := t) (by omega)
      have kt1 : decide ((k : Int) > 0) = true → 0 < k := fun h => by have := of_decide_eq_true h; omega
      have kt0 : decide ((k : Int) > 0) = false → ¬ 0 < k := fun h => by have := of_decide_eq_false h; omega
      rw [← hu0]
      apply wp_joinT
      case h1 =>
        intro rest
        (conv => arg 2; whnf); refine wp_ite (fun hq => ?_) (fun hq => ?_)
        · (conv => arg 2; whnf); refine wp_need m7 ?_
          (conv => arg 2; whnf)
          exact wp_cutR (frL [(1, .pt (some 4) (.agg (paC p)) 0), (3, str u1), (4, i64V n), (5, .loc b 0), (6, i64V k)]) [.obj b (elC e)] (.cons (.refl _) (.cons (Vle.eq (r1 (kt1 hq))) (.cons (.refl _) (.cons (.refl _) (.cons (.refl _) (.nil _)))))) (List.Sublist.refl _) rest
        · (conv => arg 2; whnf)
          exact wp_cutR (frL [(1, .pt (some 4) (.agg (paC p)) 0), (3, str u1), (4, i64V n), (5, .loc b 0), (6, i64V k)]) [.obj b (elC e)] (.cons (.refl _) (.cons (Vle.eq (r1' (kt0 hq))) (.cons (.refl _) (.cons (.refl _) (.cons (.refl _) (.nil _)))))) (List.Sublist.refl _) rest
      case rest =>
      (conv => arg 2; whnf); refine wp_load (cs := elC e) 0 rfl rfl ?_
      (conv => arg 2; whnf); refine wp_elem k (str t) rfl (by rw [List.getElem?_map, htk]; rfl) (Vle.refl _) ?_
      (conv => arg 2; whnf); refine wp_need m8 ?_
      (conv => arg 2; whnf)
      refine wp_leaf (loop_next (e.ty.length - (k + 1)) _ _ (by omega) (.cons (.refl _) (.cons (Vle.via r2 rfl) (.cons (.refl _) (.cons (.refl _) (.cons (Vle.inc k rfl (by omega)) (.nil _)))))) (List.Sublist.refl _) ⟨k + 1, rfl, h3, rfl, rfl⟩)
    · have h3 : k = e.ty.length := by have := of_decide_eq_false h3; rw [List.length_map] at this; omega
      subst h3
      rw [List.take_length, ← ht4]
      (conv => arg 2; whnf)
      refine wp_leaf (loop_exit ?_)
      (conv => arg 2; whnf); refine wp_load (cs := elC e) 0 rfl rfl ?_
      apply wp_joinT
      case h1 =>
        intro rest
        (conv => arg 2; whnf); refine wp_ite (fun hq => ?_) (fun hq => ?_)
        · (conv => arg 2; whnf); refine wp_need m5 ?_
          (conv => arg 2; whnf)
          exact wp_cutR (frL [(1, .pt (some 4) (.agg (paC p)) 0), (3, str t5), (4, i64V n), (5, .loc b 0)]) [.obj b (elC e)] (.cons (.refl _) (.cons (Vle.eq (q5 hq)) (.cons (.refl _) (.cons (.refl _) (.nil _))))) (List.Sublist.refl _) rest
        · (conv => arg 2; whnf)
          exact wp_cutR (frL [(1, .pt (some 4) (.agg (paC p)) 0), (3, str t5), (4, i64V n), (5, .loc b 0)]) [.obj b (elC e)] (.cons (.refl _) (.cons (Vle.eq (q5' hq)) (.cons (.refl _) (.cons (.refl _) (.nil _))))) (List.Sublist.refl _) rest
      case rest =>
      (conv => arg 2; whnf); refine wp_load (cs := elC e) 0 rfl rfl ?_
      (conv => arg 2; whnf); refine wp_ite (fun hq => ?_) (fun hq => ?_)
      · have hq : e.cond.op ≠ 0 := by simpa using hq
        have ft := reftold5_call e.cond ebd.2.2.2 (q8 hq)
        have lt := told_sm5 ebd.2.2.2.2.2.1 (q8 hq)
        (conv => arg 2; whnf); refine wp_need m6 ?_
        (conv => arg 2; whnf); refine wp_load (cs := elC e) 0 rfl rfl ?_
        (conv => arg 2; whnf); refine wp_pcall ft ?_
        (conv => arg 2; whnf); refine wp_need (need3 (a := t5) (b := [91]) (c := toldN showV 5 e.cond) (by simp only [List.length_cons, List.length_nil]; omega)) ?_
        (conv => arg 2; whnf); refine wp_need (need4 (a := t5) (b := [91]) (c := toldN showV 5 e.cond) (d := [93]) (by simp only [List.length_cons, List.length_nil]; omega)) ?_
        (conv => arg 2; whnf)
        refine wp_leaf (loop_next (p.els.length - (n + 1)) _ _ (by omega) (.cons (.refl _) (.cons (Vle.via (q6 hq) rfl) (.cons (Vle.inc n rfl (by omega)) (.nil _)))) (List.nil_sublist _) ⟨n + 1, rfl, h2, rfl, rfl⟩)
      · have hq : e.cond.op = 0 := by simpa using hq
        (conv => arg 2; whnf)
        refine wp_leaf (loop_next (p.els.length - (n + 1)) _ _ (by omega) (.cons (.refl _) (.cons (Vle.via (q6' hq) rfl) (.cons (Vle.inc n rfl (by omega)) (.nil _)))) (List.nil_sublist _) ⟨n + 1, rfl, h2, rfl, rfl⟩)
  · have h2 : n = p.els.length := by have := of_decide_eq_false h2; rw [List.length_map] at this; omega
    subst h2
    have etake : (p.els.map elT).take p.els.length = p.els.map elT := by rw [List.take_of_length_le (by rw [List.length_map]; omega)]
    rw [etake] at ljn ⊢
    have fi := dec_call p.within hw1 hw2
    have ld := decD_len21 p.within hw1 hw2
    have lby : p.by_.length ≤ 8 := by
      rcases hby with hby | hby
      · rw [hby]; simp
      · exact (isNm_all hby).2.2
    obtain ⟨a0, ha0⟩ : ∃ b, b = seqL ++ Lib.join (p.els.map elT) [44, 32] := ⟨_, rfl⟩
    obtain ⟨b0, hb0⟩ : ∃ b, b = a0 ++ withinL ++ decD p.within := ⟨_, rfl⟩
    obtain ⟨b1, hb1⟩ : ∃ b, b = b0 ++ byT p.by_ := ⟨_, rfl⟩
    have he : paT p = b1 ++ anyT p.any := by rw [hb1, hb0, ha0]; rfl
    have la0 : a0.length ≤ 2 ^ 20 + 4 := by rw [ha0]; simp only [List.length_append, seqL, List.length_cons, List.length_nil]; omega
    have lb0 : b0.length ≤ 2 ^ 21 := by rw [hb0]; simp only [List.length_append, withinL, List.length_cons, List.length_nil]; omega
    have lb1 : b1.length ≤ 2 ^ 22 := by
      have : (byT p.by_).length ≤ 12 := by
        unfold byT
        split
        · simp
        · simp only [List.length_append, byL, List.length_cons, List.length_nil]; omega
      rw [hb1, List.length_append]; omega
    have q1 : V.c (.string (S a0 ++ S withinL ++ S (decD p.within))) = str b0 := (cat3 _ _ _).trans (congrArg str hb0.symm)
    have q2 : p.by_ ≠ [] → V.c (.string (S b0 ++ S byL ++ S p.by_)) = str b1 := fun h => by rw [cat3, hb1, byT, if_neg h, List.append_assoc]
    have q3 : p.by_ = [] → str b0 = str b1 := fun h => by rw [hb1, byT, if_pos h, List.append_nil]
    have q4 : p.any = true → V.c (.string (S b1 ++ S anyL)) = str (paT' p) := fun h => by rw [S_append, paT_yes h1, he, h]; rfl
    have q5 : p.any = false → str b1 = str (paT' p) := fun h => by rw [paT_yes h1, he, h]; exact congrArg str (List.append_nil _).symm
    have m1 := need2 (a := a0) (b := withinL) (by simp only [withinL, List.length_cons, List.length_nil]; omega)
    have m2 := need3 (a := a0) (b := withinL) (c := decD p.within) (by simp only [withinL, List.length_cons, List.length_nil]; omega)
    have m4 := need2 (a := b0) (b := byL) (by simp only [byL, List.length_cons, List.length_nil]; omega)
    have m5 := need3 (a := b0) (b := byL) (c := p.by_) (by simp only [byL, List.length_cons, List.length_nil]; omega)
    have m6 := need2 (a := b1) (b := anyL) (by simp only [anyL, List.length_cons, List.length_nil]; omega)
    have byne : (!((S p.by_).toList == (⟨#[]⟩ : ByteArray).toList)) = true → p.by_ ≠ [] := fun hq e => by
      have := (nilS_ne (l := p.by_)).symm.trans hq
      rw [e] at this; cases this
    have byeq : (!((S p.by_).toList == (⟨#[]⟩ : ByteArray).toList)) = false → p.by_ = [] := fun hq => Classical.byContradiction fun e => by
      have := (nilS_ne (l := p.by_)).symm.trans hq
      rw [decide_eq_false e] at this; cases this
    rw [← ha0]
    (conv => arg 2; whnf)
    refine wp_leaf (loop_exit ?_)
    (conv => arg 2; whnf); refine wp_need m1 ?_
    (conv => arg 2; whnf); refine wp_pcall fi ?_
    (conv => arg 2; whnf); refine wp_need m2 ?_
    (conv => arg 2; whnf); refine wp_cutR (frL [(1, .pt (some 4) (.agg (paC p)) 0), (3, str b0)]) [] (.cons (.refl _) (.cons (Vle.eq q1) (.nil _))) (List.Sublist.refl _) ?_
    apply wp_joinT
    case h1 =>
      intro rest
      (conv => arg 2; whnf); refine wp_ite (fun hq => ?_) (fun hq => ?_)
      · (conv => arg 2; whnf); refine wp_need m4 ?_
        (conv => arg 2; whnf); refine wp_need m5 ?_
        (conv => arg 2; whnf)
        exact wp_cutR (frL [(1, .pt (some 4) (.agg (paC p)) 0), (3, str b1)]) [] (.cons (.refl _) (.cons (Vle.eq (q2 (byne hq))) (.nil _))) (List.Sublist.refl _) rest
      · (conv => arg 2; whnf)
        exact wp_cutR (frL [(1, .pt (some 4) (.agg (paC p)) 0), (3, str b1)]) [] (.cons (.refl _) (.cons (Vle.eq (q3 (byeq hq))) (.nil _))) (List.Sublist.refl _) rest
    case rest =>
      (conv => arg 2; whnf); refine wp_ite (fun ha => ?_) (fun ha => ?_)
      · (conv => arg 2; whnf); refine wp_need m6 ?_
        (conv => arg 2; whnf); refine w_retp rfl (Vle.eq (q4 ha))
      · (conv => arg 2; whnf); refine w_retp rfl (Vle.eq (q5 ha))
end Go.Sv
