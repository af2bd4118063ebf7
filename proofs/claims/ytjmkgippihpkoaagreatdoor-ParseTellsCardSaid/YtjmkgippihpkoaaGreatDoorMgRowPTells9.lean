/- Parts of the proof, one behind the other. -/
import Derived.Test.YtjmkgippihpkoaaGreatDoorMgRowPTells8
import Derived.Test.YtjmkgippihpkoaaGreatDoorMgRowPTells5
import Derived.Test.YtjmkgippihpkoaaGreatDoorMgRowPTells6
import Derived.Test.YtjmkgippihpkoaaGreatDoorMgRowPTells4
/- What a pattern is: the reference's. -/
namespace Go.Sv
open Go Go.Proofs

set_option maxRecDepth 100000 in
set_option maxHeartbeats 1000000 in
theorem refpattern_call (p : Pa) (h : PaBd p) : PCall Tryz.prog 11 [.agg (paC p)] (bV (isPaB p)) := by
  obtain ⟨hl, he, hb, hw1, hw2⟩ := h
  have fb := refname_call p.by_ (by omega)
  refine scall_of (live := []) (ords := [(10, [])]) Tryz.func11 rfl (by kernel_rfl) (by kernel_rfl) (Nat.le_of_ble_eq_true rfl) ?_
  (conv => arg 2; whnf); refine wp_ite (fun h1 => ?_) (fun h1 => ?_)
  · have h1 : p.els.length < 1 := by have := of_decide_eq_true h1; rw [List.length_map] at this; omega
    (repeat ((conv => arg 2; whnf); first | refine wp_ite (fun _ => ?_) (fun h => Bool.noConfusion h) | refine wp_ite (fun h => Bool.noConfusion h) (fun _ => ?_)))
    (conv => arg 2; whnf); refine w_retp rfl (Vle.eq (cBool (isPa_few h1).symm))
  have h1 : 1 ≤ p.els.length := by have := of_decide_eq_false h1; rw [List.length_map] at this; omega
  (conv => arg 2; whnf); refine wp_ite (fun h2 => ?_) (fun h2 => ?_)
  · have h2 : 5 < p.els.length := by have := of_decide_eq_true h2; rw [List.length_map] at this; omega
    (repeat ((conv => arg 2; whnf); first | refine wp_ite (fun _ => ?_) (fun h => Bool.noConfusion h) | refine wp_ite (fun h => Bool.noConfusion h) (fun _ => ?_)))
    (conv => arg 2; whnf); refine w_retp rfl (Vle.eq (cBool (isPa_many h2).symm))
  have h2 : p.els.length ≤ 5 := by have := of_decide_eq_false h2; rw [List.length_map] at this; omega
  (conv => arg 2; whnf); refine wp_ite (fun h5 => ?_) (fun h5 => ?_)
  · have h5 : p.within < 0 := of_decide_eq_true h5
    (repeat ((conv => arg 2; whnf); first | refine wp_ite (fun _ => ?_) (fun h => Bool.noConfusion h) | refine wp_ite (fun h => Bool.noConfusion h) (fun _ => ?_)))
    (conv => arg 2; whnf); refine w_retp rfl (Vle.eq (cBool (isPa_w0 h5).symm))
  have h5 : 0 ≤ p.within := by have := of_decide_eq_false h5; omega
  (conv => arg 2; whnf); refine wp_ite (fun h6 => ?_) (fun h6 => ?_)
  · have h6 : 1000 < p.within := of_decide_eq_true h6
    (repeat ((conv => arg 2; whnf); first | refine wp_ite (fun _ => ?_) (fun h => Bool.noConfusion h) | refine wp_ite (fun h => Bool.noConfusion h) (fun _ => ?_)))
    (conv => arg 2; whnf); refine w_retp rfl (Vle.eq (cBool (isPa_w1 h6).symm))
  have h6 : p.within ≤ 1000 := by have := of_decide_eq_false h6; omega
  obtain ⟨e0, he0⟩ : ∃ e, p.els[0]? = some e := ⟨_, List.getElem?_eq_getElem (by omega)⟩
  obtain ⟨e1, he1⟩ : ∃ e, p.els[p.els.length - 1]? = some e := ⟨_, List.getElem?_eq_getElem (by omega)⟩
  have ws : IntKind.i64.wrap (((p.els.map elV).length : Int) - 1) = ((p.els.length - 1 : Nat) : Int) := by
    rw [List.length_map]; exact wsub (by omega) (by omega) (by omega)
  (conv => arg 2; whnf); refine wp_ite (fun hq => ?_) (fun hq => ?_)
  · have hq : p.by_ ≠ [] := fun e => by
      have := (nilS_ne (l := p.by_)).symm.trans hq
      rw [e] at this; cases this
    (conv => arg 2; whnf); refine wp_pcall fb ?_
    (conv => arg 2; whnf); refine wp_ite (fun hr => ?_) (fun hr => ?_)
    · have hr : isNm p.by_ = false := by simpa using hr
      (repeat ((conv => arg 2; whnf); first | refine wp_ite (fun _ => ?_) (fun h => Bool.noConfusion h) | refine wp_ite (fun h => Bool.noConfusion h) (fun _ => ?_)))
      (conv => arg 2; whnf); refine w_retp rfl (Vle.eq (cBool (isPa_by hq hr).symm))
    have hr : isNm p.by_ = true := by simpa using hr
    have h7 : p.by_ = [] ∨ isNm p.by_ = true := .inr hr
    (repeat ((conv => arg 2; whnf); first | refine wp_ite (fun _ => ?_) (fun h => Bool.noConfusion h) | refine wp_ite (fun h => Bool.noConfusion h) (fun _ => ?_)))
    (conv => arg 2; whnf); refine wp_elem 0 (.agg (elC e0)) rfl (els_at he0) (Vle.refl _) ?_
    (conv => arg 2; whnf); refine wp_ite (fun h3 => ?_) (fun h3 => ?_)
    · have h3 : ntAt p.els 0 = true := (ntAt_of he0).trans h3
      (repeat ((conv => arg 2; whnf); first | refine wp_ite (fun _ => ?_) (fun h => Bool.noConfusion h) | refine wp_ite (fun h => Bool.noConfusion h) (fun _ => ?_)))
      (conv => arg 2; whnf); refine w_retp rfl (Vle.eq (cBool (isPa_first h3).symm))
    have h3 : ntAt p.els 0 = false := (ntAt_of he0).trans h3
    (conv => arg 2; whnf); refine wp_elem (p.els.length - 1) (.agg (elC e1)) ws (els_at he1) (Vle.refl _) ?_
    (conv => arg 2; whnf); refine wp_ite (fun h4 => ?_) (fun h4 => ?_)
    · have h4 : ntAt p.els (p.els.length - 1) = true := (ntAt_of he1).trans h4
      (repeat ((conv => arg 2; whnf); first | refine wp_ite (fun _ => ?_) (fun h => Bool.noConfusion h) | refine wp_ite (fun h => Bool.noConfusion h) (fun _ => ?_)))
      (conv => arg 2; whnf); refine w_retp rfl (Vle.eq (cBool (isPa_last h4).symm))
    have h4 : ntAt p.els (p.els.length - 1) = false := (ntAt_of he1).trans h4
    (conv => arg 2; whnf); refine wp_loop (fun m fr R => ∃ n : Nat, m = p.els.length - n ∧ n ≤ p.els.length ∧ R = [] ∧ ((List.range n).all fun i => okAtB p.els i (p.els.getD i el0)) = true ∧ fr = frL [(1, .pt (some 4) (.agg (paC p)) 0), (3, i64V p.els.length), (4, i64V n)])
      p.els.length _ _ (.cons (.refl _) (.cons (Vle.eq ?_) (.cons (.refl _) (.nil _)))) (List.Sublist.refl _) ⟨0, rfl, Nat.zero_le _, rfl, rfl, rfl⟩ ?_
    · show V.c (.int .i64 (p.els.map elV).length) = _
      rw [List.length_map]; rfl
    rintro m fr R ⟨n, rfl, hn, rfl, hall, rfl⟩
    (conv => arg 2; whnf); refine wp_ite (fun h => ?_) (fun h => ?_)
    · have h : n < p.els.length := by have := of_decide_eq_true h; omega
      obtain ⟨e, hen⟩ : ∃ e, p.els[n]? = some e := ⟨_, List.getElem?_eq_getElem h⟩
      have hbd := he e (List.mem_of_getElem? hen)
      obtain ⟨ba, bl, bt, bx⟩ := hbd
      have fn := refname_call e.al (by omega)
      have fa := alias_call p.els e.al (by omega)
      have fr := refrise_call e.ty (by omega)
      have fs := refsame0_call e.cond bx.kids
      have fi := refisexpr_call e.cond bx.1 bx.2.1 bx.2.2.2
      rw [isEx_same] at fi
      (conv => arg 2; whnf); refine wp_elem n (.agg (elC e)) rfl (els_at hen) (Vle.refl _) ?_
      (conv => arg 2; whnf); refine wp_allocE elZ rfl fun b => ?_
      (conv => arg 2; whnf); refine wp_storeE (cs := elZ) 0 0 (elC e) rfl rfl (VleL.refl _) (Nat.le_refl _) rfl (R' := [.obj b (elC e)]) rfl ?_
      (conv => arg 2; whnf); refine wp_load (cs := elC e) 0 rfl rfl ?_
      (conv => arg 2; whnf); refine wp_pcall fn ?_
      (conv => arg 2; whnf); refine wp_ite (fun g1 => ?_) (fun g1 => ?_)
      · have g1 : isNm e.al = false := by simpa using g1
        (repeat ((conv => arg 2; whnf); first | refine wp_ite (fun _ => ?_) (fun h => Bool.noConfusion h) | refine wp_ite (fun h => Bool.noConfusion h) (fun _ => ?_)))
        (conv => arg 2; whnf)
        refine wp_leaf (loop_ret ?_)
        (conv => arg 2; whnf); refine w_retp rfl (Vle.eq (cBool (isPa_el hen (okAt_el (isEl_name g1))).symm))
      have g1 : isNm e.al = true := by simpa using g1
      (conv => arg 2; whnf); refine wp_load (cs := elC e) 0 rfl rfl ?_
      (conv => arg 2; whnf); refine wp_pcall fa ?_
      (conv => arg 2; whnf); refine wp_ite (fun g2 => ?_) (fun g2 => ?_)
      · have g2 : aliasI p.els e.al ≠ n := by simpa using g2
        have g2 : twiceB p.els n e.al = true := by
          cases ht : twiceB p.els n e.al with
          | true => rfl
          | false => exact (g2 ((aliasI_iff hen).2 ht)).elim
        (repeat ((conv => arg 2; whnf); first | refine wp_ite (fun _ => ?_) (fun h => Bool.noConfusion h) | refine wp_ite (fun h => Bool.noConfusion h) (fun _ => ?_)))
        (conv => arg 2; whnf)
        refine wp_leaf (loop_ret ?_)
        (conv => arg 2; whnf); refine w_retp rfl (Vle.eq (cBool (isPa_el hen (okAt_twice g2)).symm))
      have g2 : aliasI p.els e.al = n := by simpa using g2
      have g2 : twiceB p.els n e.al = false := (aliasI_iff hen).1 g2
      (conv => arg 2; whnf); refine wp_load (cs := elC e) 0 rfl rfl ?_
      (conv => arg 2; whnf); refine wp_ite (fun g3 => ?_) (fun g3 => ?_)
      · have g3 : e.ty.length < 1 := by have := of_decide_eq_true g3; rw [List.length_map] at this; omega
        (repeat ((conv => arg 2; whnf); first | refine wp_ite (fun _ => ?_) (fun h => Bool.noConfusion h) | refine wp_ite (fun h => Bool.noConfusion h) (fun _ => ?_)))
        (conv => arg 2; whnf)
        refine wp_leaf (loop_ret ?_)
        (conv => arg 2; whnf); refine w_retp rfl (Vle.eq (cBool (isPa_el hen (okAt_el (isEl_few g3))).symm))
      have g3 : 1 ≤ e.ty.length := by have := of_decide_eq_false g3; rw [List.length_map] at this; omega
      (conv => arg 2; whnf); refine wp_load (cs := elC e) 0 rfl rfl ?_
      (conv => arg 2; whnf); refine wp_ite (fun g4 => ?_) (fun g4 => ?_)
      · have g4 : 3 < e.ty.length := by have := of_decide_eq_true g4; rw [List.length_map] at this; omega
        (repeat ((conv => arg 2; whnf); first | refine wp_ite (fun _ => ?_) (fun h => Bool.noConfusion h) | refine wp_ite (fun h => Bool.noConfusion h) (fun _ => ?_)))
        (conv => arg 2; whnf)
        refine wp_leaf (loop_ret ?_)
        (conv => arg 2; whnf); refine w_retp rfl (Vle.eq (cBool (isPa_el hen (okAt_el (isEl_many g4))).symm))
      have g4 : e.ty.length ≤ 3 := by have := of_decide_eq_false g4; rw [List.length_map] at this; omega
      (conv => arg 2; whnf); refine wp_load (cs := elC e) 0 rfl rfl ?_
      (conv => arg 2; whnf); refine wp_pcall fr ?_
      (conv => arg 2; whnf); refine wp_ite (fun g5 => ?_) (fun g5 => ?_)
      · have g5 : riseB e.ty = false := by simpa using g5
        (repeat ((conv => arg 2; whnf); first | refine wp_ite (fun _ => ?_) (fun h => Bool.noConfusion h) | refine wp_ite (fun h => Bool.noConfusion h) (fun _ => ?_)))
        (conv => arg 2; whnf)
        refine wp_leaf (loop_ret ?_)
        (conv => arg 2; whnf); refine w_retp rfl (Vle.eq (cBool (isPa_el hen (okAt_el (isEl_rise g5))).symm))
      have g5 : riseB e.ty = true := by simpa using g5
      have pf : e.plus = false → (e.plus && e.nt) = false := fun h => by rw [h, Bool.false_and]
      have nf : e.nt = false → (e.plus && e.nt) = false := fun h => by rw [h, Bool.and_false]
      have nf' : e.nt = false → (e.nt && (decide (0 < n) && ntAt p.els (n - 1))) = false := fun h => by rw [h, Bool.false_and]
      have n0f : ¬ 0 < n → (e.nt && (decide (0 < n) && ntAt p.els (n - 1))) = false := fun h => by rw [decide_eq_false h]; simp
      have pvf : ntAt p.els (n - 1) = false → (e.nt && (decide (0 < n) && ntAt p.els (n - 1))) = false := fun h => by rw [h]; simp
      have nqt : e.nt = false → e.nt = true → False := fun h h' => by rw [h] at h'; cases h'
      have i0 : decide ((n : Int) > 0) = false → ¬ 0 < n := fun h => by have := of_decide_eq_false h; omega
      have i1 : decide ((n : Int) > 0) = true → 0 < n := fun h => by have := of_decide_eq_true h; omega
      have wsn : 0 < n → IntKind.i64.wrap ((n : Int) - 1) = ((n - 1 : Nat) : Int) := fun h => wsub (by omega : ((n : Nat) : Int) - 1 = ((n - 1 : Nat) : Int)) (by omega) (by omega)
      have hy : 0 < n → p.els[n - 1]? = some (p.els.getD (n - 1) el0) := fun h0 => by
        have hx : p.els[n - 1]? = some p.els[n - 1] := List.getElem?_eq_getElem (by omega)
        rw [getDx hx]; exact hx
      apply @wp_joinT _ ((e.plus && e.nt) = false → (e.nt && (decide (0 < n) && ntAt p.els (n - 1))) = false → _)
      case h1 =>
        intro rest
        (conv => arg 2; whnf); refine wp_load (cs := elC e) 0 rfl rfl ?_
        (conv => arg 2; whnf); refine wp_ite (fun hp => ?_) (fun hp => ?_)
        · (conv => arg 2; whnf); refine wp_load (cs := elC e) 0 rfl rfl ?_
          (conv => arg 2; whnf); refine wp_ite (fun hq => ?_) (fun hq => ?_)
          · have hp : e.plus = true := hp
            have hq : e.nt = true := hq
            (repeat ((conv => arg 2; whnf); first | refine wp_ite (fun _ => ?_) (fun h => Bool.noConfusion h) | refine wp_ite (fun h => Bool.noConfusion h) (fun _ => ?_)))
            (conv => arg 2; whnf)
            refine wp_leaf (loop_ret ?_)
            (conv => arg 2; whnf); refine w_retp rfl (Vle.eq (cBool (isPa_el hen (okAt_el (isEl_both hp hq))).symm))
          · have hq : e.nt = false := hq
            (repeat ((conv => arg 2; whnf); first | refine wp_ite (fun _ => ?_) (fun h => Bool.noConfusion h) | refine wp_ite (fun h => Bool.noConfusion h) (fun _ => ?_)))
            (conv => arg 2; whnf); refine wp_ite (fun h0 => ?_) (fun h0 => ?_)
            · (conv => arg 2; whnf); refine wp_load (cs := elC e) 0 rfl rfl ?_
              (conv => arg 2; whnf); refine wp_ite (fun hq' => (nqt hq hq').elim) (fun _ => ?_)
              (repeat ((conv => arg 2; whnf); first | refine wp_ite (fun _ => ?_) (fun h => Bool.noConfusion h) | refine wp_ite (fun h => Bool.noConfusion h) (fun _ => ?_)))
              (conv => arg 2; whnf)
              exact wp_cutR (frL [(1, .pt (some 4) (.agg (paC p)) 0), (3, i64V p.els.length), (4, i64V n), (5, .loc b 0)]) [.obj b (elC e)] (.cons (.refl _) (.cons (.refl _) (.cons (.refl _) (.cons (.refl _) (.nil _))))) (List.Sublist.refl _) (rest (nf hq) (nf' hq))
            · (repeat ((conv => arg 2; whnf); first | refine wp_ite (fun _ => ?_) (fun h => Bool.noConfusion h) | refine wp_ite (fun h => Bool.noConfusion h) (fun _ => ?_)))
              (conv => arg 2; whnf)
              exact wp_cutR (frL [(1, .pt (some 4) (.agg (paC p)) 0), (3, i64V p.els.length), (4, i64V n), (5, .loc b 0)]) [.obj b (elC e)] (.cons (.refl _) (.cons (.refl _) (.cons (.refl _) (.cons (.refl _) (.nil _))))) (List.Sublist.refl _) (rest (nf hq) (nf' hq))
        · have hp : e.plus = false := hp
          (repeat ((conv => arg 2; whnf); first | refine wp_ite (fun _ => ?_) (fun h => Bool.noConfusion h) | refine wp_ite (fun h => Bool.noConfusion h) (fun _ => ?_)))
          (conv => arg 2; whnf); refine wp_ite (fun h0 => ?_) (fun h0 => ?_)
          · (conv => arg 2; whnf); refine wp_load (cs := elC e) 0 rfl rfl ?_
            (conv => arg 2; whnf); refine wp_ite (fun hq => ?_) (fun hq => ?_)
            · have hq : e.nt = true := hq
              (conv => arg 2; whnf); refine wp_elem (n - 1) (.agg (elC (p.els.getD (n - 1) el0))) (wsn (i1 h0)) (els_at (hy (i1 h0))) (Vle.refl _) ?_
              (conv => arg 2; whnf); refine wp_ite (fun hz => ?_) (fun hz => ?_)
              · have hz : ntAt p.els (n - 1) = true := (ntAt_of (hy (i1 h0))).trans hz
                (repeat ((conv => arg 2; whnf); first | refine wp_ite (fun _ => ?_) (fun h => Bool.noConfusion h) | refine wp_ite (fun h => Bool.noConfusion h) (fun _ => ?_)))
                (conv => arg 2; whnf)
                refine wp_leaf (loop_ret ?_)
                (conv => arg 2; whnf); refine w_retp rfl (Vle.eq (cBool (isPa_el hen (okAt_nt hq (i1 h0) hz)).symm))
              · have hz : ntAt p.els (n - 1) = false := (ntAt_of (hy (i1 h0))).trans hz
                (repeat ((conv => arg 2; whnf); first | refine wp_ite (fun _ => ?_) (fun h => Bool.noConfusion h) | refine wp_ite (fun h => Bool.noConfusion h) (fun _ => ?_)))
                (conv => arg 2; whnf)
                exact wp_cutR (frL [(1, .pt (some 4) (.agg (paC p)) 0), (3, i64V p.els.length), (4, i64V n), (5, .loc b 0)]) [.obj b (elC e)] (.cons (.refl _) (.cons (.refl _) (.cons (.refl _) (.cons (.refl _) (.nil _))))) (List.Sublist.refl _) (rest (pf hp) (pvf hz))
            · have hq : e.nt = false := hq
              (repeat ((conv => arg 2; whnf); first | refine wp_ite (fun _ => ?_) (fun h => Bool.noConfusion h) | refine wp_ite (fun h => Bool.noConfusion h) (fun _ => ?_)))
              (conv => arg 2; whnf)
              exact wp_cutR (frL [(1, .pt (some 4) (.agg (paC p)) 0), (3, i64V p.els.length), (4, i64V n), (5, .loc b 0)]) [.obj b (elC e)] (.cons (.refl _) (.cons (.refl _) (.cons (.refl _) (.cons (.refl _) (.nil _))))) (List.Sublist.refl _) (rest (pf hp) (nf' hq))
          · (repeat ((conv => arg 2; whnf); first | refine wp_ite (fun _ => ?_) (fun h => Bool.noConfusion h) | refine wp_ite (fun h => Bool.noConfusion h) (fun _ => ?_)))
            (conv => arg 2; whnf)
            exact wp_cutR (frL [(1, .pt (some 4) (.agg (paC p)) 0), (3, i64V p.els.length), (4, i64V n), (5, .loc b 0)]) [.obj b (elC e)] (.cons (.refl _) (.cons (.refl _) (.cons (.refl _) (.cons (.refl _) (.nil _))))) (List.Sublist.refl _) (rest (pf hp) (n0f (i0 h0)))
      case rest =>
        intro g6 g7
        (conv => arg 2; whnf); refine wp_loop (fun m fr R => ∃ k : Nat, m = e.ty.length - k ∧ k ≤ e.ty.length ∧ R = [.obj b (elC e)] ∧ (e.ty.take k).all isNm = true ∧ fr = frL [(1, .pt (some 4) (.agg (paC p)) 0), (3, i64V p.els.length), (4, i64V n), (5, .loc b 0), (6, i64V k)])
          e.ty.length _ _ (.cons (.refl _) (.cons (.refl _) (.cons (.refl _) (.cons (.refl _) (.cons (.refl _) (.nil _)))))) (List.Sublist.refl _) ⟨0, rfl, Nat.zero_le _, rfl, rfl, rfl⟩ ?_
        rintro m fr R ⟨k, rfl, hk, rfl, hnm, rfl⟩
        (conv => arg 2; whnf); refine wp_load (cs := elC e) 0 rfl rfl ?_
        (conv => arg 2; whnf); refine wp_ite (fun hk1 => ?_) (fun hk1 => ?_)
        · have hk1 : k < e.ty.length := by have := of_decide_eq_true hk1; rw [List.length_map] at this; omega
          obtain ⟨t, htk⟩ : ∃ t, e.ty[k]? = some t := ⟨_, List.getElem?_eq_getElem hk1⟩
          have hm := List.mem_of_getElem? htk
          have fn := refname_call t (by have := bt t hm; omega)
          (conv => arg 2; whnf); refine wp_load (cs := elC e) 0 rfl rfl ?_
          (conv => arg 2; whnf); refine wp_elem k (str t) rfl (by rw [List.getElem?_map, htk]; rfl) (Vle.refl _) ?_
          (conv => arg 2; whnf); refine wp_pcall fn ?_
          (conv => arg 2; whnf); refine wp_ite (fun g8 => ?_) (fun g8 => ?_)
          · have g8 : isNm t = false := by simpa using g8
            (conv => arg 2; whnf)
            refine wp_leaf (loop_ret ?_)
            (conv => arg 2; whnf)
            refine wp_leaf (loop_ret ?_)
            (conv => arg 2; whnf); refine w_retp rfl (Vle.eq (cBool (isPa_el hen (okAt_el (isEl_ty hm g8))).symm))
          · have g8 : isNm t = true := by simpa using g8
            (conv => arg 2; whnf)
            refine wp_leaf (loop_next (e.ty.length - (k + 1)) _ _ (by omega) (.cons (.refl _) (.cons (.refl _) (.cons (.refl _) (.cons (.refl _) (.cons (Vle.inc k rfl (by omega)) (.nil _)))))) (List.Sublist.refl _) ⟨k + 1, rfl, hk1, rfl, ?_, rfl⟩)
            rw [List.take_add_one, htk, List.all_append, hnm]
            simp [g8]
        · have hk1 : k = e.ty.length := by have := of_decide_eq_false hk1; rw [List.length_map] at this; omega
          subst hk1
          rw [List.take_length] at hnm
          have hend := isEl_end g1 g3 g4 g5 g6 hnm
          have next : isElB e = true → ((List.range (n + 1)).all fun i => okAtB p.els i (p.els.getD i el0)) = true := fun g => by
            rw [List.range_succ, List.all_append, hall]
            simp only [List.all_cons, List.all_nil]
            rw [getDx hen, okAt_end g g2 g7]; rfl
          (conv => arg 2; whnf)
          refine wp_leaf (loop_exit ?_)
          (conv => arg 2; whnf); refine wp_load (cs := elC e) 0 rfl rfl ?_
          (conv => arg 2; whnf); refine wp_pcallV (.cons (.refl _) (.cons zero_vle .nil)) fs ?_
          (conv => arg 2; whnf); refine wp_ite (fun g9 => ?_) (fun g9 => ?_)
          · have g9 : zeroB e.cond = false := by simpa using g9
            (conv => arg 2; whnf); refine wp_load (cs := elC e) 0 rfl rfl ?_
            (conv => arg 2; whnf); refine wp_pcall fi ?_
            (conv => arg 2; whnf); refine wp_ite (fun g10 => ?_) (fun g10 => ?_)
            · have g10 : isExB e.cond = false := by simpa using g10
              (conv => arg 2; whnf)
              refine wp_leaf (loop_ret ?_)
              (conv => arg 2; whnf); refine w_retp rfl (Vle.eq (cBool (isPa_el hen (okAt_el (by rw [hend, g9, g10]; rfl))).symm))
            · have g10 : isExB e.cond = true := by simpa using g10
              (conv => arg 2; whnf)
              refine wp_leaf (loop_next (p.els.length - (n + 1)) _ _ (by omega) (.cons (.refl _) (.cons (.refl _) (.cons (Vle.inc n rfl (by omega)) (.nil _)))) (List.nil_sublist _) ⟨n + 1, rfl, h, rfl, next (by rw [hend, g9, g10]; rfl), rfl⟩)
          · have g9 : zeroB e.cond = true := by simpa using g9
            (repeat ((conv => arg 2; whnf); first | refine wp_ite (fun _ => ?_) (fun h => Bool.noConfusion h) | refine wp_ite (fun h => Bool.noConfusion h) (fun _ => ?_)))
            (conv => arg 2; whnf)
            refine wp_leaf (loop_next (p.els.length - (n + 1)) _ _ (by omega) (.cons (.refl _) (.cons (.refl _) (.cons (Vle.inc n rfl (by omega)) (.nil _)))) (List.nil_sublist _) ⟨n + 1, rfl, h, rfl, next (by rw [hend, g9]; rfl), rfl⟩)
    · have h : n = p.els.length := by have := of_decide_eq_false h; omega
      subst h
      (conv => arg 2; whnf)
      refine wp_leaf (loop_exit ?_)
      (conv => arg 2; whnf); refine w_retp rfl (Vle.eq (cBool (isPa_end h1 h2 h3 h4 h5 h6 h7 hall).symm))
  · have hq : p.by_ = [] := Classical.byContradiction fun e => by
      have := (nilS_ne (l := p.by_)).symm.trans hq
      rw [decide_eq_false e] at this; cases this
    have h7 : p.by_ = [] ∨ isNm p.by_ = true := .inl hq
    (repeat ((conv => arg 2; whnf); first | refine wp_ite (fun _ => ?_) (fun h => Bool.noConfusion h) | refine wp_ite (fun h => Bool.noConfusion h) (fun _ => ?_)))
    (conv => arg 2; whnf); refine wp_elem 0 (.agg (elC e0)) rfl (els_at he0) (Vle.refl _) ?_
    (conv => arg 2; whnf); refine wp_ite (fun h3 => ?_) (fun h3 => ?_)
    · have h3 : ntAt p.els 0 = true := (ntAt_of he0).trans h3
      (repeat ((conv => arg 2; whnf); first | refine wp_ite (fun _ => ?_) (fun h => Bool.noConfusion h) | refine wp_ite (fun h => Bool.noConfusion h) (fun _ => ?_)))
      (conv => arg 2; whnf); refine w_retp rfl (Vle.eq (cBool (isPa_first h3).symm))
    have h3 : ntAt p.els 0 = false := (ntAt_of he0).trans h3
    (conv => arg 2; whnf); refine wp_elem (p.els.length - 1) (.agg (elC e1)) ws (els_at he1) (Vle.refl _) ?_
    (conv => arg 2; whnf); refine wp_ite (fun h4 => ?_) (fun h4 => ?_)
    · have h4 : ntAt p.els (p.els.length - 1) = true := (ntAt_of he1).trans h4
      (repeat ((conv => arg 2; whnf); first | refine wp_ite (fun _ => ?_) (fun h => Bool.noConfusion h) | refine wp_ite (fun h => Bool.noConfusion h) (fun _ => ?_)))
      (conv => arg 2; whnf); refine w_retp rfl (Vle.eq (cBool (isPa_last h4).symm))
    have h4 : ntAt p.els (p.els.length - 1) = false := (ntAt_of he1).trans h4
    (conv => arg 2; whnf); refine wp_loop (fun m fr R => ∃ n : Nat, m = p.els.length - n ∧ n ≤ p.els.length ∧ R = [] ∧ ((List.range n).all fun i => okAtB p.els i (p.els.getD i el0)) = true ∧ fr = frL [(1, .pt (some 4) (.agg (paC p)) 0), (3, i64V p.els.length), (4, i64V n)])
      p.els.length _ _ (.cons (.refl _) (.cons (Vle.eq ?_) (.cons (.refl _) (.nil _)))) (List.Sublist.refl _) ⟨0, rfl, Nat.zero_le _, rfl, rfl, rfl⟩ ?_
    · show V.c (.int .i64 (p.els.map elV).length) = _
      rw [List.length_map]; rfl
    rintro m fr R ⟨n, rfl, hn, rfl, hall, rfl⟩
    (conv => arg 2; whnf); refine wp_ite (fun h => ?_) (fun h => ?_)
    · have h : n < p.els.length := by have := of_decide_eq_true h; omega
      obtain ⟨e, hen⟩ : ∃ e, p.els[n]? = some e := ⟨_, List.getElem?_eq_getElem h⟩
      have hbd := he e (List.mem_of_getElem? hen)
      obtain ⟨ba, bl, bt, bx⟩ := hbd
      have fn := refname_call e.al (by omega)
      have fa := alias_call p.els e.al (by omega)
      have fr := refrise_call e.ty (by omega)
      have fs := refsame0_call e.cond bx.kids
      have fi := refisexpr_call e.cond bx.1 bx.2.1 bx.2.2.2
      rw [isEx_same] at fi
      (conv => arg 2; whnf); refine wp_elem n (.agg (elC e)) rfl (els_at hen) (Vle.refl _) ?_
      (conv => arg 2; whnf); refine wp_allocE elZ rfl fun b => ?_
      (conv => arg 2; whnf); refine wp_storeE (cs := elZ) 0 0 (elC e) rfl rfl (VleL.refl _) (Nat.le_refl _) rfl (R' := [.obj b (elC e)]) rfl ?_
      (conv => arg 2; whnf); refine wp_load (cs := elC e) 0 rfl rfl ?_
      (conv => arg 2; whnf); refine wp_pcall fn ?_
      (conv => arg 2; whnf); refine wp_ite (fun g1 => ?_) (fun g1 => ?_)
      · have g1 : isNm e.al = false := by simpa using g1
        (repeat ((conv => arg 2; whnf); first | refine wp_ite (fun _ => ?_) (fun h => Bool.noConfusion h) | refine wp_ite (fun h => Bool.noConfusion h) (fun _ => ?_)))
        (conv => arg 2; whnf)
        refine wp_leaf (loop_ret ?_)
        (conv => arg 2; whnf); refine w_retp rfl (Vle.eq (cBool (isPa_el hen (okAt_el (isEl_name g1))).symm))
      have g1 : isNm e.al = true := by simpa using g1
      (conv => arg 2; whnf); refine wp_load (cs := elC e) 0 rfl rfl ?_
      (conv => arg 2; whnf); refine wp_pcall fa ?_
      (conv => arg 2; whnf); refine wp_ite (fun g2 => ?_) (fun g2 => ?_)
      · have g2 : aliasI p.els e.al ≠ n := by simpa using g2
        have g2 : twiceB p.els n e.al = true := by
          cases ht : twiceB p.els n e.al with
          | true => rfl
          | false => exact (g2 ((aliasI_iff hen).2 ht)).elim
        (repeat ((conv => arg 2; whnf); first | refine wp_ite (fun _ => ?_) (fun h => Bool.noConfusion h) | refine wp_ite (fun h => Bool.noConfusion h) (fun _ => ?_)))
        (conv => arg 2; whnf)
        refine wp_leaf (loop_ret ?_)
        (conv => arg 2; whnf); refine w_retp rfl (Vle.eq (cBool (isPa_el hen (okAt_twice g2)).symm))
      have g2 : aliasI p.els e.al = n := by simpa using g2
      have g2 : twiceB p.els n e.al = false := (aliasI_iff hen).1 g2
      (conv => arg 2; whnf); refine wp_load (cs := elC e) 0 rfl rfl ?_
      (conv => arg 2; whnf); refine wp_ite (fun g3 => ?_) (fun g3 => ?_)
      · have g3 : e.ty.length < 1 := by have := of_decide_eq_true g3; rw [List.length_map] at this; omega
        (repeat ((conv => arg 2; whnf); first | refine wp_ite (fun _ => ?_) (fun h => Bool.noConfusion h) | refine wp_ite (fun h => Bool.noConfusion h) (fun _ => ?_)))
        (conv => arg 2; whnf)
        refine wp_leaf (loop_ret ?_)
        (conv => arg 2; whnf); refine w_retp rfl (Vle.eq (cBool (isPa_el hen (okAt_el (isEl_few g3))).symm))
      have g3 : 1 ≤ e.ty.length := by have := of_decide_eq_false g3; rw [List.length_map] at this; omega
      (conv => arg 2; whnf); refine wp_load (cs := elC e) 0 rfl rfl ?_
      (conv => arg 2; whnf); refine wp_ite (fun g4 => ?_) (fun g4 => ?_)
      · have g4 : 3 < e.ty.length := by have := of_decide_eq_true g4; rw [List.length_map] at this; omega
        (repeat ((conv => arg 2; whnf); first | refine wp_ite (fun _ => ?_) (fun h => Bool.noConfusion h) | refine wp_ite (fun h => Bool.noConfusion h) (fun _ => ?_)))
        (conv => arg 2; whnf)
        refine wp_leaf (loop_ret ?_)
        (conv => arg 2; whnf); refine w_retp rfl (Vle.eq (cBool (isPa_el hen (okAt_el (isEl_many g4))).symm))
      have g4 : e.ty.length ≤ 3 := by have := of_decide_eq_false g4; rw [List.length_map] at this; omega
      (conv => arg 2; whnf); refine wp_load (cs := elC e) 0 rfl rfl ?_
      (conv => arg 2; whnf); refine wp_pcall fr ?_
      (conv => arg 2; whnf); refine wp_ite (fun g5 => ?_) (fun g5 => ?_)
      · have g5 : riseB e.ty = false := by simpa using g5
        (repeat ((conv => arg 2; whnf); first | refine wp_ite (fun _ => ?_) (fun h => Bool.noConfusion h) | refine wp_ite (fun h => Bool.noConfusion h) (fun _ => ?_)))
        (conv => arg 2; whnf)
        refine wp_leaf (loop_ret ?_)
        (conv => arg 2; whnf); refine w_retp rfl (Vle.eq (cBool (isPa_el hen (okAt_el (isEl_rise g5))).symm))
      have g5 : riseB e.ty = true := by simpa using g5
      have pf : e.plus = false → (e.plus && e.nt) = false := fun h => by rw [h, Bool.false_and]
      have nf : e.nt = false → (e.plus && e.nt) = false := fun h => by rw [h, Bool.and_false]
      have nf' : e.nt = false → (e.nt && (decide (0 < n) && ntAt p.els (n - 1))) = false := fun h => by rw [h, Bool.false_and]
      have n0f : ¬ 0 < n → (e.nt && (decide (0 < n) && ntAt p.els (n - 1))) = false := fun h => by rw [decide_eq_false h]; simp
      have pvf : ntAt p.els (n - 1) = false → (e.nt && (decide (0 < n) && ntAt p.els (n - 1))) = false := fun h => by rw [h]; simp
      have nqt : e.nt = false → e.nt = true → False := fun h h' => by rw [h] at h'; cases h'
      have i0 : decide ((n : Int) > 0) = false → ¬ 0 < n := fun h => by have := of_decide_eq_false h; omega
      have i1 : decide ((n : Int) > 0) = true → 0 < n := fun h => by have := of_decide_eq_true h; omega
      have wsn : 0 < n → IntKind.i64.wrap ((n : Int) - 1) = ((n - 1 : Nat) : Int) := fun h => wsub (by omega : ((n : Nat) : Int) - 1 = ((n - 1 : Nat) : Int)) (by omega) (by omega)
      have hy : 0 < n → p.els[n - 1]? = some (p.els.getD (n - 1) el0) := fun h0 => by
        have hx : p.els[n - 1]? = some p.els[n - 1] := List.getElem?_eq_getElem (by omega)
        rw [getDx hx]; exact hx
      apply @wp_joinT _ ((e.plus && e.nt) = false → (e.nt && (decide (0 < n) && ntAt p.els (n - 1))) = false → _)
      case h1 =>
        intro rest
        (conv => arg 2; whnf); refine wp_load (cs := elC e) 0 rfl rfl ?_
        (conv => arg 2; whnf); refine wp_ite (fun hp => ?_) (fun hp => ?_)
        · (conv => arg 2; whnf); refine wp_load (cs := elC e) 0 rfl rfl ?_
          (conv => arg 2; whnf); refine wp_ite (fun hq => ?_) (fun hq => ?_)
          · have hp : e.plus = true := hp
            have hq : e.nt = true := hq
            (repeat ((conv => arg 2; whnf); first | refine wp_ite (fun _ => ?_) (fun h => Bool.noConfusion h) | refine wp_ite (fun h => Bool.noConfusion h) (fun _ => ?_)))
            (conv => arg 2; whnf)
            refine wp_leaf (loop_ret ?_)
            (conv => arg 2; whnf); refine w_retp rfl (Vle.eq (cBool (isPa_el hen (okAt_el (isEl_both hp hq))).symm))
          · have hq : e.nt = false := hq
            (repeat ((conv => arg 2; whnf); first | refine wp_ite (fun _ => ?_) (fun h => Bool.noConfusion h) | refine wp_ite (fun h => Bool.noConfusion h) (fun _ => ?_)))
            (conv => arg 2; whnf); refine wp_ite (fun h0 => ?_) (fun h0 => ?_)
            · (conv => arg 2; whnf); refine wp_load (cs := elC e) 0 rfl rfl ?_
              (conv => arg 2; whnf); refine wp_ite (fun hq' => (nqt hq hq').elim) (fun _ => ?_)
              (repeat ((conv => arg 2; whnf); first | refine wp_ite (fun _ => ?_) (fun h => Bool.noConfusion h) | refine wp_ite (fun h => Bool.noConfusion h) (fun _ => ?_)))
              (conv => arg 2; whnf)
              exact wp_cutR (frL [(1, .pt (some 4) (.agg (paC p)) 0), (3, i64V p.els.length), (4, i64V n), (5, .loc b 0)]) [.obj b (elC e)] (.cons (.refl _) (.cons (.refl _) (.cons (.refl _) (.cons (.refl _) (.nil _))))) (List.Sublist.refl _) (rest (nf hq) (nf' hq))
            · (repeat ((conv => arg 2; whnf); first | refine wp_ite (fun _ => ?_) (fun h => Bool.noConfusion h) | refine wp_ite (fun h => Bool.noConfusion h) (fun _ => ?_)))
              (conv => arg 2; whnf)
              exact wp_cutR (frL [(1, .pt (some 4) (.agg (paC p)) 0), (3, i64V p.els.length), (4, i64V n), (5, .loc b 0)]) [.obj b (elC e)] (.cons (.refl _) (.cons (.refl _) (.cons (.refl _) (.cons (.refl _) (.nil _))))) (List.Sublist.refl _) (rest (nf hq) (nf' hq))
        · have hp : e.plus = false := hp
          (repeat ((conv => arg 2; whnf); first | refine wp_ite (fun _ => ?_) (fun h => Bool.noConfusion h) | refine wp_ite (fun h => Bool.noConfusion h) (fun _ => ?_)))
          (conv => arg 2; whnf); refine wp_ite (fun h0 => ?_) (fun h0 => ?_)
          · (conv => arg 2; whnf); refine wp_load (cs := elC e) 0 rfl rfl ?_
            (conv => arg 2; whnf); refine wp_ite (fun hq => ?_) (fun hq => ?_)
            · have hq : e.nt = true := hq
              (conv => arg 2; whnf); refine wp_elem (n - 1) (.agg (elC (p.els.getD (n - 1) el0))) (wsn (i1 h0)) (els_at (hy (i1 h0))) (Vle.refl _) ?_
              (conv => arg 2; whnf); refine wp_ite (fun hz => ?_) (fun hz => ?_)
              · have hz : ntAt p.els (n - 1) = true := (ntAt_of (hy (i1 h0))).trans hz
                (repeat ((conv => arg 2; whnf); first | refine wp_ite (fun _ => ?_) (fun h => Bool.noConfusion h) | refine wp_ite (fun h => Bool.noConfusion h) (fun _ => ?_)))
                (conv => arg 2; whnf)
                refine wp_leaf (loop_ret ?_)
                (conv => arg 2; whnf); refine w_retp rfl (Vle.eq (cBool (isPa_el hen (okAt_nt hq (i1 h0) hz)).symm))
              · have hz : ntAt p.els (n - 1) = false := (ntAt_of (hy (i1 h0))).trans hz
                (repeat ((conv => arg 2; whnf); first | refine wp_ite (fun _ => ?_) (fun h => Bool.noConfusion h) | refine wp_ite (fun h => Bool.noConfusion h) (fun _ => ?_)))
                (conv => arg 2; whnf)
                exact wp_cutR (frL [(1, .pt (some 4) (.agg (paC p)) 0), (3, i64V p.els.length), (4, i64V n), (5, .loc b 0)]) [.obj b (elC e)] (.cons (.refl _) (.cons (.refl _) (.cons (.refl _) (.cons (.refl _) (.nil _))))) (List.Sublist.refl _) (rest (pf hp) (pvf hz))
            · have hq : e.nt = false := hq
              (repeat ((conv => arg 2; whnf); first | refine wp_ite (fun _ => ?_) (fun h => Bool.noConfusion h) | refine wp_ite (fun h => Bool.noConfusion h) (fun _ => ?_)))
              (conv => arg 2; whnf)
              exact wp_cutR (frL [(1, .pt (some 4) (.agg (paC p)) 0), (3, i64V p.els.length), (4, i64V n), (5, .loc b 0)]) [.obj b (elC e)] (.cons (.refl _) (.cons (.refl _) (.cons (.refl _) (.cons (.refl _) (.nil _))))) (List.Sublist.refl _) (rest (pf hp) (nf' hq))
          · (repeat ((conv => arg 2; whnf); first | refine wp_ite (fun _ => ?_) (fun h => Bool.noConfusion h) | refine wp_ite (fun h => Bool.noConfusion h) (fun _ => ?_)))
            (conv => arg 2; whnf)
            exact wp_cutR (frL [(1, .pt (some 4) (.agg (paC p)) 0), (3, i64V p.els.length), (4, i64V n), (5, .loc b 0)]) [.obj b (elC e)] (.cons (.refl _) (.cons (.refl _) (.cons (.refl _) (.cons (.refl _) (.nil _))))) (List.Sublist.refl _) (rest (pf hp) (n0f (i0 h0)))
      case rest =>
        intro g6 g7
        (conv => arg 2; whnf); refine wp_loop (fun m fr R => ∃ k : Nat, m = e.ty.length - k ∧ k ≤ e.ty.length ∧ R = [.obj b (elC e)] ∧ (e.ty.take k).all isNm = true ∧ fr = frL [(1, .pt (some 4) (.agg (paC p)) 0), (3, i64V p.els.length), (4, i64V n), (5, .loc b 0), (6, i64V k)])
          e.ty.length _ _ (.cons (.refl _) (.cons (.refl _) (.cons (.refl _) (.cons (.refl _) (.cons (.refl _) (.nil _)))))) (List.Sublist.refl _) ⟨0, rfl, Nat.zero_le _, rfl, rfl, rfl⟩ ?_
        rintro m fr R ⟨k, rfl, hk, rfl, hnm, rfl⟩
        (conv => arg 2; whnf); refine wp_load (cs := elC e) 0 rfl rfl ?_
        (conv => arg 2; whnf); refine wp_ite (fun hk1 => ?_) (fun hk1 => ?_)
        · have hk1 : k < e.ty.length := by have := of_decide_eq_true hk1; rw [List.length_map] at this; omega
          obtain ⟨t, htk⟩ : ∃ t, e.ty[k]? = some t := ⟨_, List.getElem?_eq_getElem hk1⟩
          have hm := List.mem_of_getElem? htk
          have fn := refname_call t (by have := bt t hm; omega)
          (conv => arg 2; whnf); refine wp_load (cs := elC e) 0 rfl rfl ?_
          (conv => arg 2; whnf); refine wp_elem k (str t) rfl (by rw [List.getElem?_map, htk]; rfl) (Vle.refl _) ?_
          (conv => arg 2; whnf); refine wp_pcall fn ?_
          (conv => arg 2; whnf); refine wp_ite (fun g8 => ?_) (fun g8 => ?_)
          · have g8 : isNm t = false := by simpa using g8
            (conv => arg 2; whnf)
            refine wp_leaf (loop_ret ?_)
            (conv => arg 2; whnf)
            refine wp_leaf (loop_ret ?_)
            (conv => arg 2; whnf); refine w_retp rfl (Vle.eq (cBool (isPa_el hen (okAt_el (isEl_ty hm g8))).symm))
          · have g8 : isNm t = true := by simpa using g8
            (conv => arg 2; whnf)
            refine wp_leaf (loop_next (e.ty.length - (k + 1)) _ _ (by omega) (.cons (.refl _) (.cons (.refl _) (.cons (.refl _) (.cons (.refl _) (.cons (Vle.inc k rfl (by omega)) (.nil _)))))) (List.Sublist.refl _) ⟨k + 1, rfl, hk1, rfl, ?_, rfl⟩)
            rw [List.take_add_one, htk, List.all_append, hnm]
            simp [g8]
        · have hk1 : k = e.ty.length := by have := of_decide_eq_false hk1; rw [List.length_map] at this; omega
          subst hk1
          rw [List.take_length] at hnm
          have hend := isEl_end g1 g3 g4 g5 g6 hnm
          have next : isElB e = true → ((List.range (n + 1)).all fun i => okAtB p.els i (p.els.getD i el0)) = true := fun g => by
            rw [List.range_succ, List.all_append, hall]
            simp only [List.all_cons, List.all_nil]
            rw [getDx hen, okAt_end g g2 g7]; rfl
          (conv => arg 2; whnf)
          refine wp_leaf (loop_exit ?_)
          (conv => arg 2; whnf); refine wp_load (cs := elC e) 0 rfl rfl ?_
          (conv => arg 2; whnf); refine wp_pcallV (.cons (.refl _) (.cons zero_vle .nil)) fs ?_
          (conv => arg 2; whnf); refine wp_ite (fun g9 => ?_) (fun g9 => ?_)
          · have g9 : zeroB e.cond = false := by simpa using g9
            (conv => arg 2; whnf); refine wp_load (cs := elC e) 0 rfl rfl ?_
            (conv => arg 2; whnf); refine wp_pcall fi ?_
            (conv => arg 2; whnf); refine wp_ite (fun g10 => ?_) (fun g10 => ?_)
            · have g10 : isExB e.cond = false := by simpa using g10
              (conv => arg 2; whnf)
              refine wp_leaf (loop_ret ?_)
              (conv => arg 2; whnf); refine w_retp rfl (Vle.eq (cBool (isPa_el hen (okAt_el (by rw [hend, g9, g10]; rfl))).symm))
            · have g10 : isExB e.cond = true := by simpa using g10
              (conv => arg 2; whnf)
              refine wp_leaf (loop_next (p.els.length - (n + 1)) _ _ (by omega) (.cons (.refl _) (.cons (.refl _) (.cons (Vle.inc n rfl (by omega)) (.nil _)))) (List.nil_sublist _) ⟨n + 1, rfl, h, rfl, next (by rw [hend, g9, g10]; rfl), rfl⟩)
          · have g9 : zeroB e.cond = true := by simpa using g9
            (repeat ((conv => arg 2; whnf); first | refine wp_ite (fun _ => ?_) (fun h => Bool.noConfusion h) | refine wp_ite (fun h => Bool.noConfusion h) (fun _ => ?_)))
            (conv => arg 2; whnf)
            refine wp_leaf (loop_next (p.els.length - (n + 1)) _ _ (by omega) (.cons (.refl _) (.cons (.refl _) (.cons (Vle.inc n rfl (by omega)) (.nil _)))) (List.nil_sublist _) ⟨n + 1, rfl, h, rfl, next (by rw [hend, g9]; rfl), rfl⟩)
    · have h : n = p.els.length := by have := of_decide_eq_false h; omega
      subst h
      (conv => arg 2; whnf)
      refine wp_leaf (loop_exit ?_)
      (conv => arg 2; whnf); refine w_retp rfl (Vle.eq (cBool (isPa_end h1 h2 h3 h4 h5 h6 h7 hall).symm))
end Go.Sv
/- Texts: how long they are; conditions of the same text are the same. -/
namespace Go.Sv
open Go Go.Proofs

theorem shape_nb {k : Nat} {x : Ex} (h : shapedN (k + 1) x = true) : ¬ (x.op < 1 ∨ 12 < x.op ∨ x.kids.length ≠ kidsN x.op) := fun hb => by
  rw [shapedN_bad hb] at h; cases h
theorem hasF_no {x : Ex} (h : (!hasF x) = true) : x.al = [] ∧ x.fd = [] := by
  simp only [hasF, Bool.not_eq_true', Bool.or_eq_false_iff, Bool.not_eq_false'] at h
  exact ⟨of_decide_eq_true h.1, of_decide_eq_true h.2⟩
theorem hasV_no {x : Ex} (h : (!hasV x) = true) : x.val = val0 := by
  simp only [hasV, Bool.not_not] at h
  exact of_decide_eq_true h
theorem shape_1 {k : Nat} {v : Val} {a f : List UInt8} {l : List Ex} (h : shapedN (k + 1) (.mk 1 v a f l) = true) : valIs v = true ∧ a = [] ∧ f = [] ∧ l = [] := by
  have hb := shape_nb h
  have hl : l.length = kidsN 1 := Classical.byContradiction fun e => hb (.inr (.inr e))
  rw [kidsN_0 (by omega) (by omega)] at hl
  rw [shapedN_lit hb rfl, Bool.and_eq_true] at h
  exact ⟨h.1, (hasF_no h.2).1, (hasF_no h.2).2, List.length_eq_zero_iff.1 hl⟩
theorem shape_2 {k : Nat} {v : Val} {a f : List UInt8} {l : List Ex} (h : shapedN (k + 1) (.mk 2 v a f l) = true) : v = val0 ∧ isNm a = true ∧ isNm f = true ∧ l = [] := by
  have hb := shape_nb h
  have hl : l.length = kidsN 2 := Classical.byContradiction fun e => hb (.inr (.inr e))
  rw [kidsN_0 (by omega) (by omega)] at hl
  rw [shapedN_fld hb rfl, Bool.and_eq_true, Bool.and_eq_true] at h
  exact ⟨hasV_no h.1, h.2.1, h.2.2, List.length_eq_zero_iff.1 hl⟩
theorem shape_3 {k : Nat} {o : Int} {v : Val} {a f : List UInt8} {l : List Ex} (h : shapedN (k + 1) (.mk o v a f l) = true) (h1 : o ≠ 1) (h2 : o ≠ 2) : v = val0 ∧ a = [] ∧ f = [] := by
  have hb := shape_nb h
  rw [shapedN_in hb h1 h2, Bool.and_eq_true, Bool.and_eq_true] at h
  exact ⟨hasV_no h.2.1, (hasF_no h.2.2).1, (hasF_no h.2.2).2⟩

theorem isNm_all {s : List UInt8} (h : isNm s = true) : (∀ c ∈ s, isSm c = true) ∧ s ≠ [] ∧ s.length ≤ 8 := by
  rw [isNm, Bool.and_eq_true, Bool.and_eq_true] at h
  refine ⟨fun c hc => List.all_eq_true.1 h.1 c hc, fun e => ?_, of_decide_eq_true h.2.2⟩
  have := h.2.1
  rw [decide_eq_true e] at this; cases this
theorem valIs_s {v : Val} (h : valIs v = true) : v.s.length ≤ 16 := by
  unfold valIs at h
  split at h
  · rw [of_decide_eq_true h]; simp
  · split at h
    · rw [Bool.and_eq_true, isTextB, Bool.and_eq_true] at h
      exact of_decide_eq_true h.2.2
    · split at h
      · rw [Bool.and_eq_true] at h
        rw [of_decide_eq_true h.2]; simp
      · cases h
theorem showV_sm {v : Val} (h : valIs v = true) (hv : ValSm v) : (showV v).length ≤ 64 := by
  have hs := valIs_s h
  rw [showV, if_pos h]
  split
  · have := decD_len21 v.n hv.2.1 hv.2.2; omega
  · split
    · have := esc_len v.s
      simp only [quoted, List.length_cons, List.length_append, List.length_nil]; omega
    · split <;> decide
theorem told_sm : ∀ (k : Nat) (x : Ex), ExSm k x → shapedN k x = true → (toldN showV k x).length ≤ 2 ^ (6 + 2 * k)
  | 0, _, _, h => by cases h
  | k + 1, .mk o v a f l, hok, hsh => by
    have hp : 2 ^ (6 + 2 * (k + 1)) = 4 * 2 ^ (6 + 2 * k) := by rw [show 6 + 2 * (k + 1) = (6 + 2 * k) + 2 by omega, Nat.pow_add]; omega
    have hq : 2 ^ 6 ≤ 2 ^ (6 + 2 * k) := Nat.pow_le_pow_right (by omega) (by omega)
    rcases shape_cases hsh with rfl | rfl | ⟨rfl, x, rfl, hx⟩ | ⟨h3, h11, x, y, rfl, hx, hy⟩
    · rw [toldN_1]
      have := showV_sm (shape_1 hsh).1 hok.1
      omega
    · rw [toldN_2]
      obtain ⟨_, ha, hf, _⟩ := shape_2 hsh
      have := (isNm_all ha).2.2
      have := (isNm_all hf).2.2
      simp only [List.length_append, List.length_cons, List.length_nil]
      omega
    · rw [toldN_12]
      have := told_sm k x (hok.2.2.2 x (by simp [Ex.kids])) hx
      simp only [List.length_append, List.length_cons, List.length_nil, notL]
      omega
    · rw [toldN_op (by omega) (by omega) (by omega)]
      have h1 := told_sm k x (hok.2.2.2 x (by simp [Ex.kids])) hx
      have h2 := told_sm k y (hok.2.2.2 y (by simp [Ex.kids])) hy
      have h3 := signT_len o
      simp only [List.length_append, List.length_cons, List.length_nil]
      omega
theorem told_sm5 {x : Ex} (h : ExSm 5 x) (hs : shapedN 5 x = true) : (toldN showV 5 x).length ≤ 2 ^ 16 := told_sm 5 x h hs

/-- What comes behind begins with none of these. -/
def NoHd (p : UInt8 → Bool) (r : List UInt8) : Prop := ∀ c t, r = c :: t → p c = false
theorem span_same {p : UInt8 → Bool} : ∀ {l l' r r' : List UInt8}, (∀ c ∈ l, p c = true) → (∀ c ∈ l', p c = true) → NoHd p r → NoHd p r' → l ++ r = l' ++ r' → l = l' ∧ r = r'
  | [], [], _, _, _, _, _, _, h => ⟨rfl, h⟩
  | [], c :: l', r, r', _, h2, h3, _, h => by
    have := h3 c (l' ++ r') h
    rw [h2 c (by simp)] at this; cases this
  | c :: l, [], r, r', h1, _, _, h4, h => by
    have := h4 c (l ++ r) h.symm
    rw [h1 c (by simp)] at this; cases this
  | c :: l, d :: l', r, r', h1, h2, h3, h4, h => by
    obtain ⟨rfl, h5⟩ := List.cons.inj h
    obtain ⟨e1, e2⟩ := span_same (l := l) (l' := l') (r := r) (r' := r') (fun c hc => h1 c (by simp [hc])) (fun c hc => h2 c (by simp [hc])) h3 h4 h5
    exact ⟨by rw [e1], e2⟩
theorem NoHd.nil {p : UInt8 → Bool} : NoHd p [] := fun _ _ h => by cases h
theorem NoHd.cons {p : UInt8 → Bool} {c : UInt8} {t : List UInt8} (h : p c = false) : NoHd p (c :: t) := fun _ _ e => by rw [← (List.cons.inj e).1]; exact h

theorem natD_same {n m : Nat} {r r' : List UInt8} (h3 : NoHd isDg r) (h4 : NoHd isDg r') (h : natD n ++ r = natD m ++ r') : n = m ∧ r = r' := by
  obtain ⟨a1, _, a3⟩ := natD_dig n
  obtain ⟨b1, _, b3⟩ := natD_dig m
  obtain ⟨e1, e2⟩ := span_same a1 b1 h3 h4 h
  exact ⟨by rw [← a3, ← b3, e1], e2⟩
theorem natD_no45 {n : Nat} {r t : List UInt8} (h : natD n ++ r = 45 :: t) : False := by
  obtain ⟨a1, a2, _⟩ := natD_dig n
  cases hn : natD n with
  | nil => exact a2 hn
  | cons c l =>
    rw [hn] at h a1
    obtain ⟨rfl, _⟩ := List.cons.inj h
    have := a1 45 (by simp)
    revert this; decide
theorem decD_same {n m : Int} {r r' : List UInt8} (h3 : NoHd isDg r) (h4 : NoHd isDg r') (h : decD n ++ r = decD m ++ r') : n = m ∧ r = r' := by
  unfold decD at h
  by_cases hn : n < 0
  · by_cases hm : m < 0
    · rw [if_pos hn, if_pos hm] at h
      obtain ⟨e1, e2⟩ := natD_same h3 h4 (List.cons.inj h).2
      exact ⟨by omega, e2⟩
    · rw [if_pos hn, if_neg hm] at h
      exact (natD_no45 h.symm).elim
  · by_cases hm : m < 0
    · rw [if_neg hn, if_pos hm] at h
      exact (natD_no45 h).elim
    · rw [if_neg hn, if_neg hm] at h
      obtain ⟨e1, e2⟩ := natD_same h3 h4 h
      exact ⟨by omega, e2⟩
theorem esc_cons (c : UInt8) (s : List UInt8) : esc (c :: s) = escB c ++ esc s := by simp [esc]
theorem esc_same : ∀ {s s' r r' : List UInt8}, esc s ++ 34 :: r = esc s' ++ 34 :: r' → s = s' ∧ r = r'
  | [], [], _, _, h => ⟨rfl, (List.cons.inj h).2⟩
  | [], c :: s', r, r', h => by
    rw [esc_cons, escB] at h
    split at h
    · exact absurd (List.cons.inj h).1 (by decide)
    · rename_i hc
      exact (hc (.inl (List.cons.inj h).1.symm)).elim
  | c :: s, [], r, r', h => by
    rw [esc_cons, escB] at h
    split at h
    · exact absurd (List.cons.inj h).1 (by decide)
    · rename_i hc
      exact (hc (.inl (List.cons.inj h).1)).elim
  | c :: s, d :: s', r, r', h => by
    rw [esc_cons, esc_cons, escB, escB] at h
    split at h
    · split at h
      · obtain ⟨_, h⟩ := List.cons.inj h
        obtain ⟨rfl, h5⟩ := List.cons.inj h
        obtain ⟨e1, e2⟩ := esc_same (s := s) (s' := s') (r := r) (r' := r') h5
        exact ⟨by rw [e1], e2⟩
      · rename_i hd
        exact (hd (.inr (List.cons.inj h).1.symm)).elim
    · rename_i hc
      split at h
      · exact (hc (.inr (List.cons.inj h).1)).elim
      · obtain ⟨rfl, h5⟩ := List.cons.inj h
        obtain ⟨e1, e2⟩ := esc_same (s := s) (s' := s') (r := r) (r' := r') h5
        exact ⟨by rw [e1], e2⟩
end Go.Sv
/- Conditions of the same text are the same. -/
namespace Go.Sv
open Go Go.Proofs

/-- What may stand behind a condition: nothing, a blank, ')', ']'. -/
def Dl (r : List UInt8) : Prop := ∀ c t, r = c :: t → c = 32 ∨ c = 41 ∨ c = 93
theorem Dl.cons {c : UInt8} {t : List UInt8} (h : c = 32 ∨ c = 41 ∨ c = 93) : Dl (c :: t) := fun _ _ e => by rw [← (List.cons.inj e).1]; exact h
theorem Dl.dg {r : List UInt8} (h : Dl r) : NoHd isDg r := fun c t e => by rcases h c t e with rfl | rfl | rfl <;> decide
theorem Dl.sm {r : List UInt8} (h : Dl r) : NoHd isSm r := fun c t e => by rcases h c t e with rfl | rfl | rfl <;> decide

/-- The kind of a condition, by its text's first byte. -/
def tagB (c : UInt8) : Nat := if isDg c || decide (c = 45) then 1 else if c = 34 then 2 else if c = 84 ∨ c = 70 then 3 else if isSm c then 4 else if c = 40 then 5 else 0
def cls (x : Ex) : Nat := if x.op = 1 then (if x.val.kind = 1 then 1 else if x.val.kind = 2 then 2 else 3) else if x.op = 2 then 4 else 5
theorem sm_tag {c : UInt8} (h : isSm c = true) : tagB c = 4 := by
  have h' := h
  rw [isSm, Bool.and_eq_true] at h
  have h1 := of_decide_eq_true h.1
  have h2 := of_decide_eq_true h.2
  have hd : isDg c = false := by rw [isDg, decide_eq_false (by omega : ¬ c.toNat ≤ 57), Bool.and_false]
  have ne : ∀ k : UInt8, k.toNat < 97 → c ≠ k := fun k hk e => by subst e; omega
  rw [tagB, hd, decide_eq_false (ne 45 (by decide)), if_neg (by decide), if_neg (ne 34 (by decide)), if_neg (fun e => e.elim (ne 84 (by decide)) (ne 70 (by decide))), if_pos h']
theorem dec_tag (n : Int) : ∃ c t, decD n = c :: t ∧ tagB c = 1 := by
  obtain ⟨c, r, e, _, hc⟩ := dec_shape n
  refine ⟨c, r, e, ?_⟩
  rw [tagB, if_pos]
  rcases hc with hc | ⟨rfl, _⟩
  · rw [hc]; rfl
  · rfl
theorem showV_tag {v : Val} (h : valIs v = true) : ∃ c t, showV v = c :: t ∧ tagB c = (if v.kind = 1 then 1 else if v.kind = 2 then 2 else 3) := by
  by_cases h1 : v.kind = 1
  · rw [showV_1 h h1, if_pos h1]; exact dec_tag v.n
  by_cases h2 : v.kind = 2
  · rw [showV_2 h h2, if_neg h1, if_pos h2]; exact ⟨34, _, rfl, rfl⟩
  rw [if_neg h1, if_neg h2]
  by_cases h3 : v.n = 1
  · rw [showV_t h h1 h2 h3]; exact ⟨84, _, rfl, rfl⟩
  · rw [showV_f h h1 h2 h3]; exact ⟨70, _, rfl, rfl⟩
theorem told_tag : ∀ {k : Nat} {x : Ex}, shapedN k x = true → ∃ c t, toldN showV k x = c :: t ∧ tagB c = cls x
  | 0, _, h => by cases h
  | k + 1, .mk o v a f l, h => by
    rcases shape_cases h with rfl | rfl | ⟨rfl, x, rfl, hx⟩ | ⟨h3, h11, x, y, rfl, hx, hy⟩
    · rw [toldN_1]
      exact showV_tag (shape_1 h).1
    · obtain ⟨_, ha, _, _⟩ := shape_2 h
      obtain ⟨a1, a2, _⟩ := isNm_all ha
      rw [toldN_2]
      cases a with
      | nil => exact absurd rfl a2
      | cons c t => exact ⟨c, _, rfl, sm_tag (a1 c (by simp))⟩
    · rw [toldN_12]
      exact ⟨40, _, rfl, rfl⟩
    · rw [toldN_op (by omega) (by omega) (by omega)]
      refine ⟨40, _, rfl, ?_⟩
      have e1 : ¬ Ex.op (.mk o v a f [x, y]) = 1 := by show ¬ o = 1; omega
      have e2 : ¬ Ex.op (.mk o v a f [x, y]) = 2 := by show ¬ o = 2; omega
      rw [cls, if_neg e1, if_neg e2]; rfl
theorem cls_same {k : Nat} {x y : Ex} {r r' : List UInt8} (hx : shapedN k x = true) (hy : shapedN k y = true) (h : toldN showV k x ++ r = toldN showV k y ++ r') : cls x = cls y := by
  obtain ⟨c, t, e1, e2⟩ := told_tag hx
  obtain ⟨d, t', e3, e4⟩ := told_tag hy
  rw [e1, e3] at h
  rw [← e2, ← e4, (List.cons.inj h).1]
theorem cls_le (x : Ex) : 1 ≤ cls x := by
  unfold cls
  repeat' split
  all_goals omega

theorem signT_bl (o : Int) : ∀ c ∈ signT o, (c != 32) = true := by
  unfold signT
  repeat' split
  all_goals decide
theorem sign_same {o o' : Int} (h1 : 3 ≤ o) (h2 : o ≤ 11) (h3 : 3 ≤ o') (h4 : o' ≤ 11) (h : signT o = signT o') : o = o' := by
  have key : ∀ i j : Fin 9, signT (3 + (i.val : Int)) = signT (3 + (j.val : Int)) → i = j := by decide
  have e1 : o = 3 + (((⟨(o - 3).toNat, by omega⟩ : Fin 9)).val : Int) := by show o = 3 + ((o - 3).toNat : Int); omega
  have e2 : o' = 3 + (((⟨(o' - 3).toNat, by omega⟩ : Fin 9)).val : Int) := by show o' = 3 + ((o' - 3).toNat : Int); omega
  rw [e1, e2] at h
  have := key _ _ h
  have := congrArg Fin.val this
  simp only at this
  omega
theorem tag78 : tagB 78 = 0 := by decide

theorem val_same {v u : Val} {r r' : List UInt8} (hv : valIs v = true) (hu : valIs u = true) (hr : Dl r) (hr' : Dl r') (h : showV v ++ r = showV u ++ r') : v = u ∧ r = r' := by
  obtain ⟨c, t, e1, e2⟩ := showV_tag hv
  obtain ⟨d, t', e3, e4⟩ := showV_tag hu
  have hk : (if v.kind = 1 then 1 else if v.kind = 2 then 2 else 3) = (if u.kind = 1 then 1 else if u.kind = 2 then 2 else 3) := by
    have h' := h
    rw [e1, e3] at h'
    rw [← e2, ← e4, (List.cons.inj h').1]
  obtain ⟨k, n, s⟩ := v
  obtain ⟨k', n', s'⟩ := u
  simp only at hk
  by_cases h1 : k = 1
  · have h1' : k' = 1 := Classical.byContradiction fun e => by
      rw [if_pos h1, if_neg e] at hk; split at hk <;> cases hk
    rw [showV_1 hv h1, showV_1 hu h1'] at h
    obtain ⟨e5, e6⟩ := decD_same hr.dg hr'.dg h
    rw [valIs, if_pos h1] at hv
    rw [valIs, if_pos h1'] at hu
    have e7 := of_decide_eq_true hv
    have e8 := of_decide_eq_true hu
    simp only at e5 e7 e8
    rw [h1, h1', e5, e7, e8]
    exact ⟨rfl, e6⟩
  have h1' : k' ≠ 1 := fun e => by
    rw [if_neg h1, if_pos e] at hk; split at hk <;> cases hk
  rw [if_neg h1, if_neg h1'] at hk
  by_cases h2 : k = 2
  · have h2' : k' = 2 := Classical.byContradiction fun e => by
      rw [if_pos h2, if_neg e] at hk; cases hk
    rw [showV_2 hv h2, showV_2 hu h2', quoted, quoted] at h
    simp only [List.cons_append, List.append_assoc, List.nil_append] at h
    obtain ⟨e5, e6⟩ := esc_same (List.cons.inj h).2
    rw [valIs, if_neg h1, if_pos h2, Bool.and_eq_true] at hv
    rw [valIs, if_neg h1', if_pos h2', Bool.and_eq_true] at hu
    have e7 := of_decide_eq_true hv.1
    have e8 := of_decide_eq_true hu.1
    simp only at e5 e7 e8
    rw [h2, h2', e5, e7, e8]
    exact ⟨rfl, e6⟩
  have h2' : k' ≠ 2 := fun e => by
    rw [if_neg h2, if_pos e] at hk; cases hk
  have k3 : k = 3 := valIs_kind hv h1 h2
  have k3' : k' = 3 := valIs_kind hu h1' h2'
  have hv' := hv
  have hu' := hu
  rw [valIs, if_neg h1, if_neg h2, if_pos k3, Bool.and_eq_true, Bool.or_eq_true] at hv'
  rw [valIs, if_neg h1', if_neg h2', if_pos k3', Bool.and_eq_true, Bool.or_eq_true] at hu'
  have e7 := of_decide_eq_true hv'.2
  have e8 := of_decide_eq_true hu'.2
  simp only at e7 e8
  by_cases h3 : n = 1
  · by_cases h3' : n' = 1
    · rw [showV_t hv h1 h2 h3, showV_t hu h1' h2' h3'] at h
      rw [k3, k3', h3, h3', e7, e8]
      exact ⟨rfl, List.append_cancel_left h⟩
    · rw [showV_t hv h1 h2 h3, showV_f hu h1' h2' h3'] at h
      exact absurd (List.cons.inj h).1 (by decide)
  · by_cases h3' : n' = 1
    · rw [showV_f hv h1 h2 h3, showV_t hu h1' h2' h3'] at h
      exact absurd (List.cons.inj h).1 (by decide)
    · rw [showV_f hv h1 h2 h3, showV_f hu h1' h2' h3'] at h
      have n0 : n = 0 := hv'.1.elim (fun e => of_decide_eq_true e) (fun e => (h3 (of_decide_eq_true e)).elim)
      have n0' : n' = 0 := hu'.1.elim (fun e => of_decide_eq_true e) (fun e => (h3' (of_decide_eq_true e)).elim)
      rw [k3, k3', n0, n0', e7, e8]
      exact ⟨rfl, List.append_cancel_left h⟩

theorem told_same : ∀ (k : Nat) (x y : Ex) (r r' : List UInt8), shapedN k x = true → shapedN k y = true → Dl r → Dl r' → toldN showV k x ++ r = toldN showV k y ++ r' → x = y ∧ r = r'
  | 0, _, _, _, _, h, _, _, _, _ => by cases h
  | k + 1, .mk o v a f l, .mk o' v' a' f' l', r, r', hx, hy, hr, hr', h => by
    have hc := cls_same hx hy h
    rcases shape_cases hx with rfl | rfl | ⟨rfl, x, rfl, hx1⟩ | ⟨h3, h11, x1, x2, rfl, hx1, hx2⟩
    · -- a value
      have ho : o' = 1 := Classical.byContradiction fun e => by
        have e1 : cls (.mk o' v' a' f' l') = (if o' = 2 then 4 else 5) := by rw [cls, if_neg (show ¬ Ex.op (.mk o' v' a' f' l') = 1 from e)]; rfl
        have e2 : cls (.mk 1 v a f l) ≤ 3 := by
          rw [cls, if_pos (show Ex.op _ = 1 from rfl)]
          repeat' split
          all_goals omega
        rw [hc, e1] at e2
        split at e2 <;> omega
      subst ho
      rw [toldN_1, toldN_1] at h
      obtain ⟨b1, b2, b3, b4⟩ := shape_1 hx
      obtain ⟨c1, c2, c3, c4⟩ := shape_1 hy
      obtain ⟨e1, e2⟩ := val_same b1 c1 hr hr' h
      subst b2 b3 b4 c2 c3 c4 e1
      exact ⟨rfl, e2⟩
    · -- a field
      have ho : o' = 2 := Classical.byContradiction fun e => by
        have e2 : cls (.mk 2 v a f l) = 4 := by rw [cls, if_neg (show ¬ Ex.op (.mk 2 v a f l) = 1 from (by decide : ¬ (2 : Int) = 1)), if_pos (show Ex.op _ = 2 from rfl)]
        rw [e2, cls] at hc
        split at hc
        · split at hc
          · cases hc
          · split at hc <;> cases hc
        · rw [if_neg (show ¬ Ex.op (.mk o' v' a' f' l') = 2 from e)] at hc; cases hc
      subst ho
      rw [toldN_2, toldN_2] at h
      obtain ⟨b1, b2, b3, b4⟩ := shape_2 hx
      obtain ⟨c1, c2, c3, c4⟩ := shape_2 hy
      simp only [List.append_assoc] at h
      obtain ⟨e1, e2⟩ := span_same (p := isSm) (isNm_all b2).1 (isNm_all c2).1 (NoHd.cons (by decide)) (NoHd.cons (by decide)) h
      obtain ⟨e3, e4⟩ := span_same (p := isSm) (isNm_all b3).1 (isNm_all c3).1 hr.sm hr'.sm (List.cons.inj e2).2
      subst b1 b4 c1 c4 e1 e3
      exact ⟨rfl, e4⟩
    · -- NOT
      obtain ⟨b1, b2, b3⟩ := shape_3 hx (by omega) (by omega)
      have e2 : cls (.mk 12 v a f [x]) = 5 := by rw [cls, if_neg (show ¬ Ex.op (.mk 12 v a f [x]) = 1 from (by decide : ¬ (12 : Int) = 1)), if_neg (show ¬ Ex.op (.mk 12 v a f [x]) = 2 from (by decide : ¬ (12 : Int) = 2))]
      rw [e2] at hc
      rcases shape_cases hy with rfl | rfl | ⟨rfl, y, rfl, hy1⟩ | ⟨h3', h11', y1, y2, rfl, hy1, hy2⟩
      · rw [cls, if_pos (show Ex.op _ = 1 from rfl)] at hc
        split at hc
        · cases hc
        · split at hc <;> cases hc
      · rw [cls, if_neg (show ¬ Ex.op (.mk 2 v' a' f' l') = 1 from (by decide : ¬ (2 : Int) = 1)), if_pos (show Ex.op _ = 2 from rfl)] at hc; cases hc
      · obtain ⟨c1, c2, c3⟩ := shape_3 hy (by omega) (by omega)
        rw [toldN_12, toldN_12] at h
        simp only [List.append_assoc] at h
        have h := List.append_cancel_left h
        obtain ⟨e3, e4⟩ := told_same k x y _ _ hx1 hy1 (Dl.cons (by decide)) (Dl.cons (by decide)) h
        subst b1 b2 b3 c1 c2 c3 e3
        exact ⟨rfl, (List.cons.inj e4).2⟩
      · rw [toldN_12, toldN_op (by omega) (by omega) (by omega)] at h
        obtain ⟨c, t, e3, e4⟩ := told_tag hy1
        rw [e3] at h
        have h := (List.cons.inj (List.cons.inj h).2).1
        rw [← h, tag78] at e4
        have := cls_le y1
        omega
    · -- two kids
      obtain ⟨b1, b2, b3⟩ := shape_3 hx (by omega) (by omega)
      have e2 : cls (.mk o v a f [x1, x2]) = 5 := by rw [cls, if_neg (show ¬ Ex.op (.mk o v a f [x1, x2]) = 1 from (by show ¬ o = 1; omega)), if_neg (show ¬ Ex.op (.mk o v a f [x1, x2]) = 2 from (by show ¬ o = 2; omega))]
      rw [e2] at hc
      rcases shape_cases hy with rfl | rfl | ⟨rfl, y, rfl, hy1⟩ | ⟨h3', h11', y1, y2, rfl, hy1, hy2⟩
      · rw [cls, if_pos (show Ex.op _ = 1 from rfl)] at hc
        split at hc
        · cases hc
        · split at hc <;> cases hc
      · rw [cls, if_neg (show ¬ Ex.op (.mk 2 v' a' f' l') = 1 from (by decide : ¬ (2 : Int) = 1)), if_pos (show Ex.op _ = 2 from rfl)] at hc; cases hc
      · rw [toldN_12, toldN_op (by omega) (by omega) (by omega)] at h
        obtain ⟨c, t, e3, e4⟩ := told_tag hx1
        rw [e3] at h
        have h := (List.cons.inj (List.cons.inj h).2).1
        rw [h, tag78] at e4
        have := cls_le x1
        omega
      · obtain ⟨c1, c2, c3⟩ := shape_3 hy (by omega) (by omega)
        rw [toldN_op (by omega) (by omega) (by omega), toldN_op (by omega) (by omega) (by omega)] at h
        simp only [List.append_assoc] at h
        have h := List.append_cancel_left h
        obtain ⟨e3, e4⟩ := told_same k x1 y1 _ _ hx1 hy1 (Dl.cons (by decide)) (Dl.cons (by decide)) h
        obtain ⟨e5, e6⟩ := span_same (p := fun c => c != 32) (signT_bl o) (signT_bl o') (NoHd.cons (by decide)) (NoHd.cons (by decide)) (List.cons.inj e4).2
        obtain ⟨e7, e8⟩ := told_same k x2 y2 _ _ hx2 hy2 (Dl.cons (by decide)) (Dl.cons (by decide)) (List.cons.inj e6).2
        have e9 := sign_same h3 h11 h3' h11' e5
        subst b1 b2 b3 c1 c2 c3 e3 e7 e9
        exact ⟨rfl, (List.cons.inj e8).2⟩
end Go.Sv
/- Patterns of the same text are the same. -/
namespace Go.Sv
open Go Go.Proofs

theorem exR_shape {x : Ex} (h : isExB x = true) : shapedN 5 x = true := by
  rw [← isEx_same, isExR, Bool.and_eq_true] at h
  exact h.1
structure ElGood (e : El) : Prop where
  al : isNm e.al = true
  n1 : 1 ≤ e.ty.length
  n3 : e.ty.length ≤ 3
  both : (e.plus && e.nt) = false
  ty : ∀ t ∈ e.ty, isNm t = true
  cond : e.cond = ex0 ∨ (e.cond.op ≠ 0 ∧ shapedN 5 e.cond = true)
theorem el_good {e : El} (h : isElB e = true) : ElGood e := by
  rw [isElB, Bool.and_eq_true, Bool.and_eq_true, Bool.and_eq_true, Bool.and_eq_true, Bool.and_eq_true, Bool.and_eq_true, Bool.or_eq_true] at h
  obtain ⟨h1, h2, h3, _, h5, h6, h7⟩ := h
  refine ⟨h1, of_decide_eq_true h2, of_decide_eq_true h3, by cases hb : (e.plus && e.nt) with | true => (rw [hb] at h5; cases h5) | false => rfl, fun t ht => List.all_eq_true.1 h6 t ht, ?_⟩
  rcases h7 with h7 | h7
  · exact .inl (zeroB_iff.1 h7)
  · have hs := exR_shape h7
    refine .inr ⟨fun e0 => ?_, hs⟩
    have := shape_nb (k := 4) hs
    omega
theorem pa_good {p : Pa} (h : isPaB p = true) : (∀ e ∈ p.els, ElGood e) ∧ 1 ≤ p.els.length ∧ p.els.length ≤ 5 ∧ 0 ≤ p.within ∧ p.within ≤ 1000 ∧ (p.by_ = [] ∨ isNm p.by_ = true) := by
  rw [isPaB, Bool.and_eq_true, Bool.and_eq_true, Bool.and_eq_true, Bool.and_eq_true, Bool.and_eq_true, Bool.and_eq_true, Bool.and_eq_true, Bool.or_eq_true] at h
  obtain ⟨h1, h2, _, _, h5, h6, h7, h8⟩ := h
  refine ⟨fun e he => ?_, of_decide_eq_true h1, of_decide_eq_true h2, of_decide_eq_true h5, of_decide_eq_true h6, h7.imp (fun e => of_decide_eq_true e) id⟩
  obtain ⟨i, hi⟩ := List.mem_iff_getElem?.1 he
  have := List.all_eq_true.1 h8 i (List.mem_range.2 (List.getElem?_eq_some_iff.1 hi).1)
  rw [getDx hi, okAtB, Bool.and_eq_true] at this
  exact el_good this.1

def smBar (c : UInt8) : Bool := isSm c || decide (c = 124)
theorem smBar_sm {r : List UInt8} (h : NoHd smBar r) : NoHd isSm r := fun c t e => by
  have := h c t e
  rw [smBar, Bool.or_eq_false_iff] at this
  exact this.1
theorem tail_nohd {l : List (List UInt8)} {r : List UInt8} (h : NoHd smBar r) : NoHd isSm (Lib.joinTail [124] l ++ r) := by
  cases l with
  | nil => exact smBar_sm h
  | cons x l => exact NoHd.cons (by decide)
theorem joinTail_cons (sep x : List UInt8) (l : List (List UInt8)) : Lib.joinTail sep (x :: l) = sep ++ x ++ Lib.joinTail sep l := by simp [Lib.joinTail]
theorem tail_same : ∀ {l l' : List (List UInt8)} {r r' : List UInt8}, (∀ x ∈ l, isNm x = true) → (∀ x ∈ l', isNm x = true) → NoHd smBar r → NoHd smBar r' → Lib.joinTail [124] l ++ r = Lib.joinTail [124] l' ++ r' → l = l' ∧ r = r'
  | [], [], _, _, _, _, _, _, h => ⟨rfl, h⟩
  | [], x :: l', r, r', _, _, h3, _, h => by
    have := h3 124 _ h
    cases this
  | x :: l, [], r, r', _, _, _, h4, h => by
    have := h4 124 _ h.symm
    cases this
  | x :: l, y :: l', r, r', h1, h2, h3, h4, h => by
    rw [joinTail_cons, joinTail_cons] at h
    simp only [List.append_assoc] at h
    have h5 := List.append_cancel_left h
    obtain ⟨e1, e2⟩ := span_same (p := isSm) (isNm_all (h1 x (by simp))).1 (isNm_all (h2 y (by simp))).1 (tail_nohd h3) (tail_nohd h4) h5
    obtain ⟨e3, e4⟩ := tail_same (l := l) (l' := l') (fun z hz => h1 z (by simp [hz])) (fun z hz => h2 z (by simp [hz])) h3 h4 e2
    exact ⟨by rw [e1, e3], e4⟩
theorem join_same {l l' : List (List UInt8)} {r r' : List UInt8} (n : 1 ≤ l.length) (n' : 1 ≤ l'.length) (h1 : ∀ x ∈ l, isNm x = true) (h2 : ∀ x ∈ l', isNm x = true) (h3 : NoHd smBar r) (h4 : NoHd smBar r') (h : Lib.join l [124] ++ r = Lib.join l' [124] ++ r') : l = l' ∧ r = r' := by
  cases l with
  | nil => simp at n
  | cons x l =>
    cases l' with
    | nil => simp at n'
    | cons y l' =>
      rw [Lib.join_cons, Lib.join_cons] at h
      simp only [List.append_assoc] at h
      obtain ⟨e1, e2⟩ := span_same (p := isSm) (isNm_all (h1 x (by simp))).1 (isNm_all (h2 y (by simp))).1 (tail_nohd h3) (tail_nohd h4) h
      obtain ⟨e3, e4⟩ := tail_same (fun z hz => h1 z (by simp [hz])) (fun z hz => h2 z (by simp [hz])) h3 h4 e2
      exact ⟨by rw [e1, e3], e4⟩

/-- What may stand behind an element: ',', ')'. -/
def De (r : List UInt8) : Prop := ∃ c t, r = c :: t ∧ (c = 44 ∨ c = 41)
def plusT (b : Bool) : List UInt8 := if b then [43] else []
def condT (x : Ex) : List UInt8 := if x.op = 0 then [] else [91] ++ toldN showV 5 x ++ [93]
def ntT (b : Bool) : List UInt8 := if b then [33] else []
theorem elT_eq (e : El) : elT e = ntT e.nt ++ (e.al ++ [58] ++ Lib.join e.ty [124] ++ plusT e.plus ++ condT e.cond) := rfl
theorem condT_nohd {x : Ex} {r : List UInt8} (h : De r) : NoHd (fun c => smBar c || decide (c = 43)) (condT x ++ r) := by
  obtain ⟨c, t, rfl, hc⟩ := h
  unfold condT
  split
  · exact NoHd.cons (by rcases hc with rfl | rfl <;> decide)
  · exact NoHd.cons (by decide)
theorem cond_same {x y : Ex} {r r' : List UInt8} (hx : x = ex0 ∨ (x.op ≠ 0 ∧ shapedN 5 x = true)) (hy : y = ex0 ∨ (y.op ≠ 0 ∧ shapedN 5 y = true)) (hr : De r) (hr' : De r') (h : condT x ++ r = condT y ++ r') : x = y ∧ r = r' := by
  obtain ⟨c, t, rfl, hc⟩ := hr
  obtain ⟨d, t', rfl, hd⟩ := hr'
  rcases hx with rfl | ⟨hx, hx'⟩
  · rcases hy with rfl | ⟨hy, hy'⟩
    · exact ⟨rfl, h⟩
    · rw [condT, condT, if_pos (show ex0.op = 0 from rfl), if_neg hy] at h
      have := (List.cons.inj h).1
      subst this
      rcases hc with hc | hc <;> cases hc
  · rcases hy with rfl | ⟨hy, hy'⟩
    · rw [condT, condT, if_neg hx, if_pos (show ex0.op = 0 from rfl)] at h
      have := (List.cons.inj h).1
      subst this
      rcases hd with hd | hd <;> cases hd
    · rw [condT, condT, if_neg hx, if_neg hy] at h
      simp only [List.append_assoc] at h
      obtain ⟨e1, e2⟩ := told_same 5 x y _ _ hx' hy' (Dl.cons (by decide)) (Dl.cons (by decide)) (List.append_cancel_left h)
      exact ⟨e1, (List.cons.inj e2).2⟩
theorem plus_same {b b' : Bool} {r r' : List UInt8} (h1 : NoHd (fun c => smBar c || decide (c = 43)) r) (h2 : NoHd (fun c => smBar c || decide (c = 43)) r') (h : plusT b ++ r = plusT b' ++ r') : b = b' ∧ r = r' := by
  cases b with
  | false =>
    cases b' with
    | false => exact ⟨rfl, h⟩
    | true => have := h1 43 _ h; cases this
  | true =>
    cases b' with
    | false => have := h2 43 _ h.symm; cases this
    | true => exact ⟨rfl, (List.cons.inj h).2⟩
theorem nohd_weak {p : UInt8 → Bool} {r : List UInt8} (h : NoHd (fun c => p c || decide (c = 43)) r) (b : Bool) (hp : p 43 = false) : NoHd p (plusT b ++ r) := by
  cases b with
  | true => exact NoHd.cons hp
  | false =>
    intro c t e
    have := h c t e
    rw [Bool.or_eq_false_iff] at this
    exact this.1
theorem elT_same {e e' : El} {r r' : List UInt8} (g : ElGood e) (g' : ElGood e') (hr : De r) (hr' : De r') (h : elT e ++ r = elT e' ++ r') : e = e' ∧ r = r' := by
  rw [elT_eq, elT_eq] at h
  obtain ⟨a1, a2, _⟩ := isNm_all g.al
  obtain ⟨b1, b2, _⟩ := isNm_all g'.al
  have key : e.nt = e'.nt ∧ (e.al ++ [58] ++ Lib.join e.ty [124] ++ plusT e.plus ++ condT e.cond) ++ r = (e'.al ++ [58] ++ Lib.join e'.ty [124] ++ plusT e'.plus ++ condT e'.cond) ++ r' := by
    rw [List.append_assoc (ntT e.nt), List.append_assoc (ntT e'.nt)] at h
    cases hn : e.nt with
    | true =>
      cases hn' : e'.nt with
      | true => rw [hn, hn'] at h; exact ⟨rfl, (List.cons.inj h).2⟩
      | false =>
        rw [hn, hn'] at h
        cases ha : e'.al with
        | nil => exact absurd ha b2
        | cons c t =>
          rw [ha] at h b1
          have h5 : (33 : UInt8) = c := (List.cons.inj h).1
          have := b1 c (by simp)
          rw [← h5] at this; cases this
    | false =>
      cases hn' : e'.nt with
      | true =>
        rw [hn, hn'] at h
        cases ha : e.al with
        | nil => exact absurd ha a2
        | cons c t =>
          rw [ha] at h a1
          have h5 : c = 33 := (List.cons.inj h).1
          have := a1 c (by simp)
          rw [h5] at this; cases this
      | false => rw [hn, hn'] at h; exact ⟨rfl, h⟩
  obtain ⟨k1, k2⟩ := key
  simp only [List.append_assoc] at k2
  obtain ⟨k3, k4⟩ := span_same (p := isSm) a1 b1 (NoHd.cons (by decide)) (NoHd.cons (by decide)) k2
  have k5 := (List.cons.inj k4).2
  have c1 := condT_nohd (x := e.cond) hr
  have c2 := condT_nohd (x := e'.cond) hr'
  obtain ⟨k6, k7⟩ := join_same g.n1 g'.n1 g.ty g'.ty (nohd_weak c1 e.plus (by decide)) (nohd_weak c2 e'.plus (by decide)) k5
  obtain ⟨k8, k9⟩ := plus_same c1 c2 k7
  obtain ⟨k10, k11⟩ := cond_same g.cond g'.cond hr hr' k9
  obtain ⟨al, ty, plus, nt, cond⟩ := e
  obtain ⟨al', ty', plus', nt', cond'⟩ := e'
  simp only at k1 k3 k6 k8 k10
  subst k1 k3 k6 k8 k10
  exact ⟨rfl, k11⟩

theorem etail_de {l : List El} {r : List UInt8} : De (Lib.joinTail [44, 32] (l.map elT) ++ 41 :: r) := by
  cases l with
  | nil => exact ⟨41, r, rfl, .inr rfl⟩
  | cons x l =>
    rw [List.map_cons, joinTail_cons]
    exact ⟨44, _, rfl, .inl rfl⟩
theorem etail_same : ∀ {l l' : List El} {r r' : List UInt8}, (∀ x ∈ l, ElGood x) → (∀ x ∈ l', ElGood x) → Lib.joinTail [44, 32] (l.map elT) ++ 41 :: r = Lib.joinTail [44, 32] (l'.map elT) ++ 41 :: r' → l = l' ∧ r = r'
  | [], [], _, _, _, _, h => ⟨rfl, (List.cons.inj h).2⟩
  | [], x :: l', r, r', _, _, h => by
    rw [List.map_cons, joinTail_cons] at h
    exact absurd (List.cons.inj h).1 (by decide)
  | x :: l, [], r, r', _, _, h => by
    rw [List.map_cons, joinTail_cons] at h
    exact absurd (List.cons.inj h).1 (by decide)
  | x :: l, y :: l', r, r', h1, h2, h => by
    rw [List.map_cons, List.map_cons, joinTail_cons, joinTail_cons] at h
    simp only [List.append_assoc] at h
    have h5 := List.append_cancel_left h
    obtain ⟨e1, e2⟩ := elT_same (h1 x (by simp)) (h2 y (by simp)) etail_de etail_de h5
    obtain ⟨e3, e4⟩ := etail_same (l := l) (l' := l') (fun z hz => h1 z (by simp [hz])) (fun z hz => h2 z (by simp [hz])) e2
    exact ⟨by rw [e1, e3], e4⟩
theorem els_same {l l' : List El} {r r' : List UInt8} (n : 1 ≤ l.length) (n' : 1 ≤ l'.length) (h1 : ∀ x ∈ l, ElGood x) (h2 : ∀ x ∈ l', ElGood x) (h : Lib.join (l.map elT) [44, 32] ++ 41 :: r = Lib.join (l'.map elT) [44, 32] ++ 41 :: r') : l = l' ∧ r = r' := by
  cases l with
  | nil => simp at n
  | cons x l =>
    cases l' with
    | nil => simp at n'
    | cons y l' =>
      rw [List.map_cons, List.map_cons, Lib.join_cons, Lib.join_cons] at h
      simp only [List.append_assoc] at h
      obtain ⟨e1, e2⟩ := elT_same (h1 x (by simp)) (h2 y (by simp)) etail_de etail_de h
      obtain ⟨e3, e4⟩ := etail_same (fun z hz => h1 z (by simp [hz])) (fun z hz => h2 z (by simp [hz])) e2
      exact ⟨by rw [e1, e3], e4⟩

def byT (s : List UInt8) : List UInt8 := if s = [] then [] else byL ++ s
def anyT (b : Bool) : List UInt8 := if b then anyL else []
theorem any_same {b b' : Bool} (h : anyT b = anyT b') : b = b' := by
  cases b <;> cases b' <;> first | rfl | (exact absurd h (by decide))
theorem anyT_sm (b : Bool) : NoHd isSm (anyT b) := by
  cases b with
  | true => exact NoHd.cons (by decide)
  | false => exact NoHd.nil
theorem by_same {s s' : List UInt8} {b b' : Bool} (hs : s = [] ∨ isNm s = true) (hs' : s' = [] ∨ isNm s' = true) (h : byT s ++ anyT b = byT s' ++ anyT b') : s = s' ∧ b = b' := by
  by_cases h1 : s = []
  · by_cases h2 : s' = []
    · rw [byT, byT, if_pos h1, if_pos h2] at h
      exact ⟨by rw [h1, h2], any_same h⟩
    · rw [byT, byT, if_pos h1, if_neg h2] at h
      cases b with
      | false => cases h
      | true => exact absurd (List.cons.inj (List.cons.inj h).2).1 (by decide)
  · by_cases h2 : s' = []
    · rw [byT, byT, if_neg h1, if_pos h2] at h
      cases b' with
      | false => cases h
      | true => exact absurd (List.cons.inj (List.cons.inj h).2).1 (by decide)
    · rw [byT, byT, if_neg h1, if_neg h2, List.append_assoc, List.append_assoc] at h
      have h5 := List.append_cancel_left h
      obtain ⟨e1, e2⟩ := span_same (p := isSm) (isNm_all (hs.resolve_left h1)).1 (isNm_all (hs'.resolve_left h2)).1 (anyT_sm b) (anyT_sm b') h5
      exact ⟨e1, any_same e2⟩
theorem byany_dg {s : List UInt8} {b : Bool} : NoHd isDg (byT s ++ anyT b) := by
  unfold byT
  split
  · cases b with
    | true => exact NoHd.cons (by decide)
    | false => exact NoHd.nil
  · exact NoHd.cons (by decide)
theorem paT_eq (p : Pa) : paT p = seqL ++ (Lib.join (p.els.map elT) [44, 32] ++ 41 :: ([32, 87, 73, 84, 72, 73, 78, 32] ++ (decD p.within ++ (byT p.by_ ++ anyT p.any)))) := by
  simp [paT, byT, anyT, withinL]
/-- Unlike patterns have unlike texts. -/
theorem paT_same {p q : Pa} (hp : isPaB p = true) (hq : isPaB q = true) (h : paT p = paT q) : p = q := by
  obtain ⟨p1, p2, _, _, _, p6⟩ := pa_good hp
  obtain ⟨q1, q2, _, _, _, q6⟩ := pa_good hq
  rw [paT_eq, paT_eq] at h
  obtain ⟨e1, e2⟩ := els_same p2 q2 p1 q1 (List.append_cancel_left h)
  obtain ⟨e3, e4⟩ := decD_same byany_dg byany_dg (List.append_cancel_left e2)
  obtain ⟨e5, e6⟩ := by_same p6 q6 e4
  obtain ⟨a, b, c, d⟩ := p
  obtain ⟨a', b', c', d'⟩ := q
  simp only at e1 e3 e5 e6
  subst e1 e3 e5 e6
  rfl
theorem dl_nil : Dl [] := fun _ _ h => by cases h
theorem exT_same {x y : Ex} (hx : isExB x = true) (hy : isExB y = true) (h : toldN showV 5 x = toldN showV 5 y) : x = y :=
  (told_same 5 x y [] [] (exR_shape hx) (exR_shape hy) dl_nil dl_nil (by rw [h])).1
end Go.Sv
/- The text of a condition, of an element. -/
namespace Go.Sv
open Go Go.Proofs

theorem ExOk.less : ∀ {k : Nat} {x : Ex}, ExOk (k + 1) x → ExOk k x
  | 0, _, _ => trivial
  | _ + 1, _, h => ⟨h.1, h.2.1, h.2.2.1, h.2.2.2.1, fun y hy => (h.2.2.2.2 y hy).less⟩

theorem reftold5_call (x : Ex) (h : ExBd x) (hs : shapedN 5 x = true) : PCall Tryz.prog 23 [.agg (exC x)] (str (toldN showV 5 x)) :=
  refshow_call showV refshowvalue_call showV_len 5 x (by omega) h.2.1.less h.2.2.1 hs

def exT (x : Ex) : List UInt8 := if isExB x then toldN showV 5 x else []
theorem exT_no {x : Ex} (h : isExB x = false) : exT x = [] := by rw [exT, h]; rfl
theorem exT_yes {x : Ex} (h : isExB x = true) : exT x = toldN showV 5 x := by rw [exT, if_pos h]



theorem joinTail_len {B : Nat} (sep : List UInt8) : ∀ l : List (List UInt8), (∀ x ∈ l, x.length ≤ B) → (Lib.joinTail sep l).length ≤ l.length * (sep.length + B)
  | [], _ => by simp [Lib.joinTail]
  | x :: l, h => by
    have h1 := joinTail_len sep l fun y hy => h y (by simp [hy])
    have h2 := h x (by simp)
    rw [joinTail_cons, List.length_append, List.length_append, List.length_cons, Nat.add_mul]
    omega
theorem join_len {B : Nat} (sep : List UInt8) (l : List (List UInt8)) (h : ∀ x ∈ l, x.length ≤ B) : (Lib.join l sep).length ≤ l.length * (sep.length + B) := by
  cases l with
  | nil => simp [Lib.join_nil]
  | cons x l =>
    have h1 := joinTail_len sep l fun y hy => h y (by simp [hy])
    have h2 := h x (by simp)
    rw [Lib.join_cons, List.length_append, List.length_cons, Nat.add_mul]
    omega
theorem ty_len {e : El} (g : ElGood e) : (Lib.join e.ty [124]).length ≤ 27 := by
  have h1 := join_len [124] e.ty (B := 8) fun x hx => (isNm_all (g.ty x hx)).2.2
  have h2 : e.ty.length * 9 ≤ 3 * 9 := Nat.mul_le_mul_right 9 g.n3
  simp only [List.length_cons, List.length_nil] at h1
  omega
theorem condT_len {e : El} (g : ElGood e) (h : ExBd e.cond) : (condT e.cond).length ≤ 2 ^ 16 + 2 := by
  unfold condT
  rcases g.cond with hc | ⟨hc, hs⟩
  · rw [hc, if_pos (show ex0.op = 0 from rfl)]; simp
  · rw [if_neg hc]
    have := told_sm5 h.2.2.1 hs
    simp only [List.length_append, List.length_cons, List.length_nil]; omega
theorem elT_len {e : El} (g : ElGood e) (h : ExBd e.cond) : (elT e).length ≤ 2 ^ 17 := by
  have h1 := ty_len g
  have h2 := condT_len g h
  have h3 := (isNm_all g.al).2.2
  have h4 : (ntT e.nt).length ≤ 1 := by cases e.nt <;> decide
  have h5 : (plusT e.plus).length ≤ 1 := by cases e.plus <;> decide
  rw [elT_eq]
  simp only [List.length_append, List.length_cons, List.length_nil]
  omega

theorem needP {a b c d : List UInt8} (h : a.length + (b.length + c.length + d.length) ≤ 4611686018427387904) : (S a).size + (S b ++ S c ++ S d).size ≤ 4611686018427387904 := by simp only [S_append, S_size, List.length_append]; exact h


end Go.Sv
/- The same elements, the same patterns: the reference's. -/
namespace Go.Sv
open Go Go.Proofs

theorem refsameC_call (x y : Ex) (h : ExBd x) (g : x = ex0 ∨ (x.op ≠ 0 ∧ shapedN 5 x = true)) : PCall Tryz.prog 16 [.agg (exC x), .agg (exC y)] (bV (sameB 5 x y)) := by
  rcases g with rfl | ⟨_, hs⟩
  · have := refsame_step ex0 y (fun i => sameB 4 (ex0.kids.getD i ex0) (y.kids.getD i ex0)) (by decide) (fun n a b ha hb => by simp [ex0, Ex.kids] at ha)
    exact this
  · exact refsame_call 5 x y h.2.1.less hs
theorem sameC_iff {x y : Ex} (g : x = ex0 ∨ (x.op ≠ 0 ∧ shapedN 5 x = true)) : sameB 5 x y = true ↔ x = y := by
  rcases g with rfl | ⟨_, hs⟩
  · rw [sameB_zero, zeroB_iff, eq_comm]
  · exact sameB_iff 5 x y hs

def sameElB (e f : El) : Bool := decide (e.al = f.al) && (decide (e.ty = f.ty) && ((e.plus == f.plus) && ((e.nt == f.nt) && sameB 5 e.cond f.cond)))
theorem sameEl_iff {e f : El} (g : ElGood e) : sameElB e f = true ↔ e = f := by
  rw [sameElB, Bool.and_eq_true, Bool.and_eq_true, Bool.and_eq_true, Bool.and_eq_true, sameC_iff g.cond, beq_iff_eq, beq_iff_eq]
  constructor
  · rintro ⟨h1, h2, h3, h4, h5⟩
    have h1 := of_decide_eq_true h1
    have h2 := of_decide_eq_true h2
    obtain ⟨a, b, c, d, x⟩ := e
    obtain ⟨a', b', c', d', x'⟩ := f
    simp only at h1 h2 h3 h4 h5
    rw [h1, h2, h3, h4, h5]
  · rintro rfl
    exact ⟨decide_eq_true rfl, decide_eq_true rfl, rfl, rfl, rfl⟩

set_option maxRecDepth 100000 in
theorem sameelem_call (e f : El) (h : ElBd e) (g : ElGood e) : PCall Tryz.prog 22 [.agg (elC e), .agg (elC f)] (bV (sameElB e f)) := by
  have fs := refsameC_call e.cond f.cond h.2.2.2 g.cond
  have ft := sametexts_call e.ty f.ty (by have := h.2.1; omega)
  have ha := strEq e.al f.al
  refine scall_of (live := []) (ords := []) Tryz.func22 rfl (by kernel_rfl) (by kernel_rfl) (Nat.le_of_ble_eq_true rfl) ?_
  (conv => arg 2; whnf); refine wp_ite (fun h1 => ?_) (fun h1 => ?no1)
  case no1 =>
    have h1 : decide (e.al = f.al) = false := ha.symm.trans h1
    (repeat ((conv => arg 2; whnf); first | refine wp_ite (fun _ => ?_) (fun h => Bool.noConfusion h) | refine wp_ite (fun h => Bool.noConfusion h) (fun _ => ?_)))
    (conv => arg 2; whnf); refine w_retp rfl (Vle.eq (cBool (by rw [sameElB, h1]; rfl)))
  have h1 : decide (e.al = f.al) = true := ha.symm.trans h1
  (conv => arg 2; whnf); refine wp_pcall ft ?_
  (conv => arg 2; whnf); refine wp_ite (fun h2 => ?_) (fun h2 => ?no2)
  case no2 =>
    have h2 : decide (e.ty = f.ty) = false := h2
    (repeat ((conv => arg 2; whnf); first | refine wp_ite (fun _ => ?_) (fun h => Bool.noConfusion h) | refine wp_ite (fun h => Bool.noConfusion h) (fun _ => ?_)))
    (conv => arg 2; whnf); refine w_retp rfl (Vle.eq (cBool (by rw [sameElB, h1, h2]; rfl)))
  have h2 : decide (e.ty = f.ty) = true := h2
  (conv => arg 2; whnf); refine wp_ite (fun h3 => ?_) (fun h3 => ?no3)
  case no3 =>
    have h3 : (e.plus == f.plus) = false := h3
    (repeat ((conv => arg 2; whnf); first | refine wp_ite (fun _ => ?_) (fun h => Bool.noConfusion h) | refine wp_ite (fun h => Bool.noConfusion h) (fun _ => ?_)))
    (conv => arg 2; whnf); refine w_retp rfl (Vle.eq (cBool (by rw [sameElB, h1, h2, h3]; rfl)))
  have h3 : (e.plus == f.plus) = true := h3
  (conv => arg 2; whnf); refine wp_ite (fun h4 => ?_) (fun h4 => ?no4)
  case no4 =>
    have h4 : (e.nt == f.nt) = false := h4
    (repeat ((conv => arg 2; whnf); first | refine wp_ite (fun _ => ?_) (fun h => Bool.noConfusion h) | refine wp_ite (fun h => Bool.noConfusion h) (fun _ => ?_)))
    (conv => arg 2; whnf); refine w_retp rfl (Vle.eq (cBool (by rw [sameElB, h1, h2, h3, h4]; rfl)))
  have h4 : (e.nt == f.nt) = true := h4
  (conv => arg 2; whnf); refine wp_pcall fs ?_
  (conv => arg 2; whnf); refine w_retp rfl (Vle.eq (cBool (by rw [sameElB, h1, h2, h3, h4]; rfl)))

def samePaB (p q : Pa) : Bool := decide (p.els.length = q.els.length) && (decide (p.within = q.within) && (decide (p.by_ = q.by_) && ((p.any == q.any) && (List.range p.els.length).all fun i => sameElB (p.els.getD i el0) (q.els.getD i el0))))
theorem samePa_iff {p q : Pa} (g : ∀ e ∈ p.els, ElGood e) : samePaB p q = true ↔ p = q := by
  rw [samePaB, Bool.and_eq_true, Bool.and_eq_true, Bool.and_eq_true, Bool.and_eq_true, beq_iff_eq]
  constructor
  · rintro ⟨h1, h2, h3, h4, h5⟩
    have h1 := of_decide_eq_true h1
    have h2 := of_decide_eq_true h2
    have h3 := of_decide_eq_true h3
    have he : p.els = q.els := by
      apply List.ext_getElem h1
      intro i i1 i2
      have h6 := List.all_eq_true.1 h5 i (List.mem_range.2 i1)
      have e1 : p.els[i]? = some p.els[i] := List.getElem?_eq_getElem i1
      have e2 : q.els[i]? = some q.els[i] := List.getElem?_eq_getElem i2
      rw [getDx e1, getDx e2] at h6
      exact (sameEl_iff (g _ (List.getElem_mem i1))).1 h6
    obtain ⟨a, b, c, d⟩ := p
    obtain ⟨a', b', c', d'⟩ := q
    simp only at h2 h3 h4 he
    rw [h2, h3, h4, he]
  · rintro rfl
    refine ⟨decide_eq_true rfl, decide_eq_true rfl, decide_eq_true rfl, rfl, List.all_eq_true.2 fun i hi => ?_⟩
    have i1 := List.mem_range.1 hi
    have e1 : p.els[i]? = some p.els[i] := List.getElem?_eq_getElem i1
    rw [getDx e1]
    exact (sameEl_iff (g _ (List.getElem_mem i1))).2 rfl

set_option maxRecDepth 100000 in
theorem samepattern_call (p q : Pa) (h : PaBd p) (g : ∀ e ∈ p.els, ElGood e) : PCall Tryz.prog 9 [.agg (paC p), .agg (paC q)] (bV (samePaB p q)) := by
  obtain ⟨hl, he, _⟩ := h
  have hb := strEq p.by_ q.by_
  refine scall_of (live := []) (ords := []) Tryz.func9 rfl (by kernel_rfl) (by kernel_rfl) (Nat.le_of_ble_eq_true rfl) ?_
  (conv => arg 2; whnf); refine wp_ite (fun h1 => ?_) (fun h1 => ?_)
  · have h1 : decide (p.els.length = q.els.length) = false := decide_eq_false (fun e => by simp [e] at h1)
    (repeat ((conv => arg 2; whnf); first | refine wp_ite (fun _ => ?_) (fun h => Bool.noConfusion h) | refine wp_ite (fun h => Bool.noConfusion h) (fun _ => ?_)))
    (conv => arg 2; whnf); refine w_retp rfl (Vle.eq (cBool (by rw [samePaB, h1]; rfl)))
  have hlen : p.els.length = q.els.length := by
    simp at h1
    omega
  have h1 : decide (p.els.length = q.els.length) = true := decide_eq_true hlen
  (conv => arg 2; whnf); refine wp_ite (fun h2 => ?_) (fun h2 => ?_)
  · have h2 : decide (p.within = q.within) = false := decide_eq_false (by simpa using h2)
    (repeat ((conv => arg 2; whnf); first | refine wp_ite (fun _ => ?_) (fun h => Bool.noConfusion h) | refine wp_ite (fun h => Bool.noConfusion h) (fun _ => ?_)))
    (conv => arg 2; whnf); refine w_retp rfl (Vle.eq (cBool (by rw [samePaB, h1, h2]; rfl)))
  have h2 : decide (p.within = q.within) = true := decide_eq_true (by simpa using h2)
  (conv => arg 2; whnf); refine wp_ite (fun h3 => ?_) (fun h3 => ?_)
  · have h3 : decide (p.by_ = q.by_) = false := by rw [hb] at h3; simpa using h3
    (repeat ((conv => arg 2; whnf); first | refine wp_ite (fun _ => ?_) (fun h => Bool.noConfusion h) | refine wp_ite (fun h => Bool.noConfusion h) (fun _ => ?_)))
    (conv => arg 2; whnf); refine w_retp rfl (Vle.eq (cBool (by rw [samePaB, h1, h2, h3]; rfl)))
  have h3 : decide (p.by_ = q.by_) = true := by rw [hb] at h3; simpa using h3
  (conv => arg 2; whnf); refine wp_ite (fun h4 => ?_) (fun h4 => ?_)
  · have h4 : (p.any == q.any) = false := by cases hp : p.any <;> cases hq : q.any <;> rw [hp, hq] at h4 <;> first | rfl | cases h4
    (repeat ((conv => arg 2; whnf); first | refine wp_ite (fun _ => ?_) (fun h => Bool.noConfusion h) | refine wp_ite (fun h => Bool.noConfusion h) (fun _ => ?_)))
    (conv => arg 2; whnf); refine w_retp rfl (Vle.eq (cBool (by rw [samePaB, h1, h2, h3, h4]; rfl)))
  have h4 : (p.any == q.any) = true := by cases hp : p.any <;> cases hq : q.any <;> rw [hp, hq] at h4 <;> first | rfl | cases h4
  have hall : samePaB p q = (List.range p.els.length).all fun i => sameElB (p.els.getD i el0) (q.els.getD i el0) := by rw [samePaB, h1, h2, h3, h4]; rfl
  rw [hall]
  (conv => arg 2; whnf); refine wp_loop (fun m fr R => ∃ n : Nat, m = p.els.length - n ∧ n ≤ p.els.length ∧ R = [] ∧ ((List.range n).all fun i => sameElB (p.els.getD i el0) (q.els.getD i el0)) = true ∧ fr = frL [(2, .pt (some 4) (.agg (paC p)) 0), (3, .pt (some 4) (.agg (paC q)) 0), (5, i64V n)])
    p.els.length _ _ (.cons (.refl _) (.cons (.refl _) (.cons (.refl _) (.nil _)))) (List.Sublist.refl _) ⟨0, rfl, Nat.zero_le _, rfl, rfl, rfl⟩ ?_
  rintro m fr R ⟨n, rfl, hn, rfl, ha, rfl⟩
  (conv => arg 2; whnf); refine wp_ite (fun h5 => ?_) (fun h5 => ?_)
  · have h5 : n < p.els.length := by have := of_decide_eq_true h5; rw [List.length_map] at this; omega
    obtain ⟨e, hen⟩ : ∃ e, p.els[n]? = some e := ⟨_, List.getElem?_eq_getElem h5⟩
    obtain ⟨f, hfn⟩ : ∃ e, q.els[n]? = some e := ⟨_, List.getElem?_eq_getElem (by omega)⟩
    have hm := List.mem_of_getElem? hen
    have fc := sameelem_call e f (he e hm) (g e hm)
    (conv => arg 2; whnf); refine wp_elem n (.agg (elC e)) rfl (els_at hen) (Vle.refl _) ?_
    (conv => arg 2; whnf); refine wp_elem n (.agg (elC f)) rfl (els_at hfn) (Vle.refl _) ?_
    (conv => arg 2; whnf); refine wp_pc fc ?_
    (conv => arg 2; whnf); refine wp_ite (fun h6 => ?_) (fun h6 => ?_)
    · have h6 : sameElB e f = false := by simpa using h6
      (conv => arg 2; whnf)
      refine wp_leaf (loop_ret ?_)
      (conv => arg 2; whnf); refine w_retp rfl (Vle.eq (cBool ?_))
      symm
      rw [List.all_eq_false]; exact ⟨n, List.mem_range.2 h5, by rw [getDx hen, getDx hfn, h6]; simp⟩
    · have h6 : sameElB e f = true := by simpa using h6
      (conv => arg 2; whnf)
      refine wp_leaf (loop_next (p.els.length - (n + 1)) _ _ (by omega) (.cons (.refl _) (.cons (.refl _) (.cons (Vle.inc n rfl (by omega)) (.nil _)))) (List.Sublist.refl _) ⟨n + 1, rfl, h5, rfl, ?_, rfl⟩)
      rw [List.range_succ, List.all_append, ha]
      simp only [List.all_cons, List.all_nil]
      rw [getDx hen, getDx hfn, h6]; rfl
  · have h5 : n = p.els.length := by have := of_decide_eq_false h5; rw [List.length_map] at this; omega
    subst h5
    (conv => arg 2; whnf)
    refine wp_leaf (loop_exit ?_)
    (conv => arg 2; whnf); refine w_retp rfl (Vle.eq (cBool ha.symm))
end Go.Sv
/- The program's parser: its smaller methods. -/
namespace Go.Sv
open Go Go.Proofs

/-- The parser's cells: its text, the words left, what is wrong, how many nodes. -/
def prL (s : List UInt8) (l : List Wd) (e : Option Nat) (n : Nat) : List V := [str s, wslV l, .c (errV e), i64V n]
def failE (e : Option Nat) (k : Nat) : Option Nat := if e = none then some k else e
def isP (l : List Wd) (e : Option Nat) (kind : Nat) (t : List UInt8) : Bool := decide (e = none) && (if t = [] then hdK kind l else hdT kind t l)
theorem isP_some {l : List Wd} {k kind : Nat} {t : List UInt8} : isP l (some k) kind t = false := rfl
theorem isP_nil {e : Option Nat} {kind : Nat} {t : List UInt8} : isP [] e kind t = false := by cases e <;> (unfold isP; split <;> rfl)
theorem isP_kind {w : Wd} {l : List Wd} {e : Option Nat} {kind : Nat} {t : List UInt8} (h : w.kind ≠ kind) : isP (w :: l) e kind t = false := by
  unfold isP hdK hdT
  simp only [decide_eq_false h, Bool.false_and, ite_self, Bool.and_false]
theorem isP_any {w : Wd} {l : List Wd} {kind : Nat} (h : w.kind = kind) : isP (w :: l) none kind [] = true := by
  show (true && decide (w.kind = kind)) = true
  rw [decide_eq_true h]; rfl
theorem isP_text {w : Wd} {l : List Wd} {kind : Nat} {t : List UInt8} (h : w.kind = kind) (ht : t ≠ []) : isP (w :: l) none kind t = decide (w.text = t) := by
  unfold isP
  rw [if_neg ht]
  show (true && (decide (w.kind = kind) && decide (w.text = t))) = _
  rw [decide_eq_true h]; rfl
theorem wd_at {l : List Wd} {w : Wd} {n : Nat} (h : l[n]? = some w) : (l.map wdV)[n]? = some (wdV w) := by rw [List.getElem?_map, h]; rfl
theorem wsl_tail (l : List Wd) : V.sl (some 4) ((l.map wdV).drop 1) .no = wslV l.tail := by rw [wslV, ← List.map_drop, List.drop_one]

set_option maxRecDepth 100000 in
theorem fails_call (b : Nat) (s : List UInt8) (l : List Wd) (e : Option Nat) (n k : Nat) : SCall Tryz.prog 45 [.loc b 0, .c (errV (some k))] [.obj b (prL s l e n)] fun v R' => v = .tup [] ∧ R' = [.obj b (prL s l (failE e k) n)] := by
  refine scall_of (live := []) (ords := []) Tryz.func45 rfl (by kernel_rfl) (by kernel_rfl) (Nat.le_of_ble_eq_true rfl) ?_
  cases e with
  | none =>
    (conv => arg 2; whnf); refine wp_load (cs := prL s l none n) 0 rfl rfl ?_
    (repeat ((conv => arg 2; whnf); first | refine wp_ite (fun _ => ?_) (fun h => Bool.noConfusion h) | refine wp_ite (fun h => Bool.noConfusion h) (fun _ => ?_)))
    (conv => arg 2; whnf); refine wp_storeE (cs := prL s l none n) 0 2 [.c (errV (some k))] rfl rfl (VleL.refl _) (Nat.le_of_ble_eq_true rfl) rfl (R' := [.obj b (prL s l (some k) n)]) rfl ?_
    (conv => arg 2; whnf); refine w_norm0 rfl (List.Sublist.refl _) ⟨rfl, rfl⟩
  | some m =>
    (conv => arg 2; whnf); refine wp_load (cs := prL s l (some m) n) 0 rfl rfl ?_
    (repeat ((conv => arg 2; whnf); first | refine wp_ite (fun _ => ?_) (fun h => Bool.noConfusion h) | refine wp_ite (fun h => Bool.noConfusion h) (fun _ => ?_)))
    (conv => arg 2; whnf); refine w_norm0 rfl (List.Sublist.refl _) ⟨rfl, rfl⟩

set_option maxRecDepth 100000 in
theorem pis_call (b : Nat) (s : List UInt8) (l : List Wd) (e : Option Nat) (n kind : Nat) (t : List UInt8) : SCall Tryz.prog 59 [.loc b 0, i64V kind, str t] [.obj b (prL s l e n)] fun v R' => v = bV (isP l e kind t) ∧ R' = [.obj b (prL s l e n)] := by
  refine scall_of (live := []) (ords := []) Tryz.func59 rfl (by kernel_rfl) (by kernel_rfl) (Nat.le_of_ble_eq_true rfl) ?_
  cases e with
  | some m =>
    (conv => arg 2; whnf); refine wp_load (cs := prL s l (some m) n) 0 rfl rfl ?_
    (repeat ((conv => arg 2; whnf); first | refine wp_ite (fun _ => ?_) (fun h => Bool.noConfusion h) | refine wp_ite (fun h => Bool.noConfusion h) (fun _ => ?_)))
    (conv => arg 2; whnf); refine w_ret1 rfl (Vle.refl _) (List.Sublist.refl _) ⟨rfl, rfl⟩
  | none =>
    (conv => arg 2; whnf); refine wp_load (cs := prL s l none n) 0 rfl rfl ?_
    (repeat ((conv => arg 2; whnf); first | refine wp_ite (fun _ => ?_) (fun h => Bool.noConfusion h) | refine wp_ite (fun h => Bool.noConfusion h) (fun _ => ?_)))
    (conv => arg 2; whnf); refine wp_load (cs := prL s l none n) 0 rfl rfl ?_
    cases l with
    | nil =>
      (repeat ((conv => arg 2; whnf); first | refine wp_ite (fun _ => ?_) (fun h => Bool.noConfusion h) | refine wp_ite (fun h => Bool.noConfusion h) (fun _ => ?_)))
      (conv => arg 2; whnf); refine w_ret1 rfl (Vle.refl _) (List.Sublist.refl _) ⟨cBool isP_nil.symm, rfl⟩
    | cons w l =>
      have hpos : decide (((((w :: l).map wdV).length : Nat) : Int) > 0) = true := decide_eq_true (by rw [List.length_map, List.length_cons]; omega)
      (conv => arg 2; whnf); refine wp_ite (fun _ => ?_) (fun h => Bool.noConfusion (hpos.symm.trans h))
      (conv => arg 2; whnf); refine wp_load (cs := prL s (w :: l) none n) 0 rfl rfl ?_
      (conv => arg 2; whnf); refine wp_elem 0 (wdV w) rfl rfl (Vle.refl _) ?_
      (conv => arg 2; whnf); refine wp_ite (fun hk => ?_) (fun hk => ?_)
      · have hk : w.kind = kind := by have := eq_of_beq hk; omega
        (conv => arg 2; whnf); refine wp_ite (fun ht => ?_) (fun ht => ?_)
        · have ht : t = [] := of_decide_eq_true (nilS.symm.trans ht)
          subst ht
          (conv => arg 2; whnf); refine w_ret1 rfl (Vle.refl _) (List.Sublist.refl _) ⟨cBool (isP_any hk).symm, rfl⟩
        · have ht : t ≠ [] := of_decide_eq_false (nilS.symm.trans ht)
          (conv => arg 2; whnf); refine wp_load (cs := prL s (w :: l) none n) 0 rfl rfl ?_
          (conv => arg 2; whnf); refine wp_elem 0 (wdV w) rfl rfl (Vle.refl _) ?_
          (conv => arg 2; whnf); refine w_ret1 rfl (Vle.refl _) (List.Sublist.refl _) ⟨cBool ((strEq _ _).trans (isP_text hk ht).symm), rfl⟩
      · have hk : w.kind ≠ kind := fun e => by rw [e] at hk; simp at hk
        (repeat ((conv => arg 2; whnf); first | refine wp_ite (fun _ => ?_) (fun h => Bool.noConfusion h) | refine wp_ite (fun h => Bool.noConfusion h) (fun _ => ?_)))
        (conv => arg 2; whnf); refine w_ret1 rfl (Vle.refl _) (List.Sublist.refl _) ⟨cBool (isP_kind hk).symm, rfl⟩

theorem isP_cons {l : List Wd} {e : Option Nat} {kind : Nat} {t : List UInt8} (h : isP l e kind t = true) : ∃ w r, l = w :: r := by
  cases l with
  | nil => rw [isP_nil] at h; cases h
  | cons w r => exact ⟨w, r, rfl⟩
/-- One result, in a cell, whatever is left. -/
theorem w_ret1k {P : Program} {R : List Res} {fn : Func} {K : V → List Res → Prop} {fr : Fr} {x : Tmp} {ty : TypeId} {cs : List V} {v a : V} {sh : Option Nat} {R' : List Res} (bl off i : Nat) (h : fn.results.toList = [.cell x ty]) (hx : fr x = .loc bl off) (hsh : shapeOf P ty = some sh)
    (hR : R[i]? = some (.obj bl cs)) (hp : partOf sh cs off = some v) (ha : Vle v a) (hs : R'.Sublist R) (hK : K a R') : (Tree.leaf .ret fr).wp P R (Ends P fn K) :=
  ⟨.inr rfl, [v], a, R', by rw [h]; exact ⟨bl, off, sh, i, cs, v, _, hx, hsh, hR, hp, rfl, rfl⟩, UpdV.vle ha hs, hK⟩

set_option maxRecDepth 100000 in
theorem may_call (b : Nat) (s : List UInt8) (l : List Wd) (e : Option Nat) (n kind : Nat) (t : List UInt8) : SCall Tryz.prog 43 [.loc b 0, i64V kind, str t] [.obj b (prL s l e n)] fun v R' =>
    (isP l e kind t = true ∧ v = bV true ∧ R' = [.obj b (prL s l.tail e n)]) ∨ (isP l e kind t = false ∧ v = bV false ∧ R' = [.obj b (prL s l e n)]) := by
  refine scall_of (live := []) (ords := []) Tryz.func43 rfl (by kernel_rfl) (by kernel_rfl) (Nat.le_of_ble_eq_true rfl) ?_
  (conv => arg 2; whnf); refine wp_call (pis_call b s l e n kind t) ?_
  rintro v R1 ⟨rfl, rfl⟩
  (conv => arg 2; whnf); refine wp_ite (fun h1 => ?_) (fun h1 => ?_)
  · have h1 : isP l e kind t = false := by simpa using h1
    (conv => arg 2; whnf); refine w_ret1 rfl (Vle.refl _) (List.Sublist.refl _) (.inr ⟨h1, rfl, rfl⟩)
  · have h1 : isP l e kind t = true := by simpa using h1
    obtain ⟨w, r, rfl⟩ := isP_cons h1
    (conv => arg 2; whnf); refine wp_load (cs := prL s (w :: r) e n) 0 rfl rfl ?_
    (conv => arg 2; whnf); refine wp_need (by rw [List.length_map, List.length_cons]; omega) ?_
    (conv => arg 2; whnf); refine wp_storeE (cs := prL s (w :: r) e n) 0 1 [wslV r] rfl rfl (.cons (Vle.eq (wsl_tail (w :: r))) .nil) (Nat.le_of_ble_eq_true rfl) rfl (R' := [.obj b (prL s r e n)]) rfl ?_
    (conv => arg 2; whnf); refine w_ret1 rfl (Vle.refl _) (List.Sublist.refl _) (.inl ⟨h1, rfl, rfl⟩)

set_option maxRecDepth 100000 in
theorem must_call (b : Nat) (s : List UInt8) (l : List Wd) (e : Option Nat) (n kind : Nat) (t : List UInt8) : SCall Tryz.prog 41 [.loc b 0, i64V kind, str t] [.obj b (prL s l e n)] fun v R' => v = .tup [] ∧
    ((isP l e kind t = true ∧ R' = [.obj b (prL s l.tail e n)]) ∨ (isP l e kind t = false ∧ R' = [.obj b (prL s l (failE e 10) n)])) := by
  refine scall_of (live := []) (ords := []) Tryz.func41 rfl (by kernel_rfl) (by kernel_rfl) (Nat.le_of_ble_eq_true rfl) ?_
  (conv => arg 2; whnf); refine wp_call (may_call b s l e n kind t) ?_
  rintro v R1 (⟨h1, rfl, rfl⟩ | ⟨h1, rfl, rfl⟩)
  · (repeat ((conv => arg 2; whnf); first | refine wp_ite (fun _ => ?_) (fun h => Bool.noConfusion h) | refine wp_ite (fun h => Bool.noConfusion h) (fun _ => ?_)))
    (conv => arg 2; whnf); refine w_norm0 rfl (List.Sublist.refl _) ⟨rfl, .inl ⟨h1, rfl⟩⟩
  · (repeat ((conv => arg 2; whnf); first | refine wp_ite (fun _ => ?_) (fun h => Bool.noConfusion h) | refine wp_ite (fun h => Bool.noConfusion h) (fun _ => ?_)))
    (conv => arg 2; whnf); refine wp_call (fails_call b s l e n 10) ?_
    rintro v R1 ⟨rfl, rfl⟩
    (conv => arg 2; whnf); refine w_norm0 rfl (List.Sublist.refl _) ⟨rfl, .inr ⟨h1, rfl⟩⟩

set_option maxRecDepth 100000 in
theorem take_call (b : Nat) (s : List UInt8) (l : List Wd) (e : Option Nat) (n kind : Nat) : SCall Tryz.prog 46 [.loc b 0, i64V kind] [.obj b (prL s l e n)] fun v R' =>
    (isP l e kind [] = true ∧ v = wdV (l.headD wd0) ∧ R' = [.obj b (prL s l.tail e n)]) ∨ (isP l e kind [] = false ∧ v = wdV wd0 ∧ R' = [.obj b (prL s l (failE e 10) n)]) := by
  refine scall_of (live := []) (ords := []) Tryz.func46 rfl (by kernel_rfl) (by kernel_rfl) (Nat.le_of_ble_eq_true rfl) ?_
  (conv => arg 2; whnf); refine wp_allocE (wdL wd0) rfl fun c => ?_
  (conv => arg 2; whnf); refine wp_callF [] [.obj b (prL s l e n)] [.obj c (wdL wd0)] rfl (pis_call b s l e n kind []) ?_
  rintro v R1 ⟨rfl, rfl⟩
  (conv => arg 2; whnf); refine wp_ite (fun h1 => ?_) (fun h1 => ?_)
  · have h1 : isP l e kind [] = false := by simpa using h1
    (conv => arg 2; whnf); refine wp_callF [] [.obj b (prL s l e n)] [.obj c (wdL wd0)] rfl (fails_call b s l e n 10) ?_
    rintro v R1 ⟨rfl, rfl⟩
    (conv => arg 2; whnf); refine wp_storeE (cs := wdL wd0) 1 0 (wdL wd0) rfl rfl (VleL.refl _) (Nat.le_refl _) rfl (R' := [.obj b (prL s l (failE e 10) n), .obj c (wdL wd0)]) rfl ?_
    (conv => arg 2; whnf); refine w_ret1k (R' := [.obj b (prL s l (failE e 10) n)]) c 0 1 rfl rfl rfl rfl rfl (Vle.refl _) (by simp) (.inr ⟨h1, rfl, rfl⟩)
  · have h1 : isP l e kind [] = true := by simpa using h1
    obtain ⟨w, r, rfl⟩ := isP_cons h1
    (conv => arg 2; whnf); refine wp_load (cs := prL s (w :: r) e n) 0 rfl rfl ?_
    (conv => arg 2; whnf); refine wp_elem 0 (wdV w) rfl rfl (Vle.refl _) ?_
    (conv => arg 2; whnf); refine wp_allocE (wdL wd0) rfl fun d => ?_
    (conv => arg 2; whnf); refine wp_storeE (cs := wdL wd0) 2 0 (wdL w) rfl rfl (VleL.refl _) (Nat.le_refl _) rfl (R' := [.obj b (prL s (w :: r) e n), .obj c (wdL wd0), .obj d (wdL w)]) rfl ?_
    (conv => arg 2; whnf); refine wp_load (cs := prL s (w :: r) e n) 0 rfl rfl ?_
    (conv => arg 2; whnf); refine wp_need (by rw [List.length_map, List.length_cons]; omega) ?_
    (conv => arg 2; whnf); refine wp_storeE (cs := prL s (w :: r) e n) 0 1 [wslV r] rfl rfl (.cons (Vle.eq (wsl_tail (w :: r))) .nil) (Nat.le_of_ble_eq_true rfl) rfl (R' := [.obj b (prL s r e n), .obj c (wdL wd0), .obj d (wdL w)]) rfl ?_
    (conv => arg 2; whnf); refine wp_load (cs := wdL w) 2 rfl rfl ?_
    (conv => arg 2; whnf); refine wp_storeE (cs := wdL wd0) 1 0 (wdL w) rfl rfl (VleL.refl _) (Nat.le_refl _) rfl (R' := [.obj b (prL s r e n), .obj c (wdL w), .obj d (wdL w)]) rfl ?_
    (conv => arg 2; whnf); refine w_ret1k (R' := [.obj b (prL s r e n)]) c 0 1 rfl rfl rfl rfl rfl (Vle.refl _) (by simp) (.inl ⟨h1, rfl, rfl⟩)
end Go.Sv
/- The words of a text: how they are counted doesn't matter. -/
namespace Go.Sv
open Go

theorem itemsF_step (f at_ : Nat) (c : UInt8) (r : List UInt8) : itemsF (f + 1) at_ (c :: r) = if c = 32 then itemsF f (at_ + 1) r else
    match nextR (c :: r) with
    | .error e => [(wd0, some e)]
    | .ok x => (x.wd at_, none) :: itemsF f (at_ + x.len) ((c :: r).drop x.len) := rfl
theorem itemsF_fuel : ∀ (n f f' at_ : Nat) (l : List UInt8), l.length ≤ n → l.length ≤ f → l.length ≤ f' → itemsF f at_ l = itemsF f' at_ l
  | _, f, f', _, [], _, _, _ => by cases f <;> cases f' <;> rfl
  | 0, _, _, _, _ :: _, h, _, _ => by simp at h
  | n + 1, 0, _, _, _ :: _, _, h, _ => by simp at h
  | n + 1, _ + 1, 0, _, _ :: _, _, _, h => by simp at h
  | n + 1, f + 1, f' + 1, at_, c :: r, h, h1, h2 => by
    have h0 : r.length ≤ n := by simpa using h
    have h1 : r.length ≤ f := by simpa using h1
    have h2 : r.length ≤ f' := by simpa using h2
    rw [itemsF_step, itemsF_step]
    split
    · exact itemsF_fuel n f f' _ r h0 h1 h2
    · cases e : nextR (c :: r) with
      | error e => rfl
      | ok x =>
        have hx := nextR_len (by simp) e
        have hd : ((c :: r).drop x.len).length ≤ r.length := by rw [List.length_drop]; simp only [List.length_cons]; omega
        simp only
        rw [itemsF_fuel n f f' _ ((c :: r).drop x.len) (by omega) (by omega) (by omega)]
/-- All words of a text from a place on. -/
def items (at_ : Nat) (l : List UInt8) : List (Wd × Option Nat) := itemsF l.length at_ l
theorem items_nil (at_ : Nat) : items at_ [] = [] := rfl
theorem items_blank (at_ : Nat) (r : List UInt8) : items at_ (32 :: r) = items (at_ + 1) r := by
  show itemsF (r.length + 1) at_ (32 :: r) = _
  rw [itemsF_step, if_pos rfl]; rfl
theorem items_word {at_ : Nat} {c : UInt8} {r : List UInt8} {x : Nx} (hc : c ≠ 32) (h : nextR (c :: r) = .ok x) : items at_ (c :: r) = (x.wd at_, none) :: items (at_ + x.len) ((c :: r).drop x.len) := by
  show itemsF (r.length + 1) at_ (c :: r) = _
  have hx := nextR_len (by simp) h
  rw [itemsF_step, if_neg hc, h]
  simp only
  rw [items, itemsF_fuel r.length r.length ((c :: r).drop x.len).length _ _ (by rw [List.length_drop]; simp only [List.length_cons]; omega) (by rw [List.length_drop]; simp only [List.length_cons]; omega) (Nat.le_refl _)]
theorem items_err {at_ : Nat} {c : UInt8} {r : List UInt8} {e : Nat} (hc : c ≠ 32) (h : nextR (c :: r) = .error e) : items at_ (c :: r) = [(wd0, some e)] := by
  show itemsF (r.length + 1) at_ (c :: r) = _
  rw [itemsF_step, if_neg hc, h]
theorem items_blanks : ∀ (b at_ : Nat) (r : List UInt8), items at_ (List.replicate b 32 ++ r) = items (at_ + b) r
  | 0, _, _ => rfl
  | b + 1, at_, r => by
    rw [List.replicate_succ, List.cons_append, items_blank, items_blanks b]
    congr 1; omega
theorem cutW_items (s : List UInt8) : cutW s = collect [] (items 0 s) := rfl
theorem collect_all : ∀ (ws out : List Wd), out.length + ws.length ≤ 500 → collect out (ws.map fun w => (w, none)) = .ok (out ++ ws)
  | [], out, _ => by simp [collect]
  | w :: ws, out, h => by
    have hl : (out ++ [w]).length = out.length + 1 := by simp
    simp only [List.length_cons] at h
    rw [List.map_cons, collect, if_neg (by omega), collect_all ws _ (by omega)]
    simp
end Go.Sv
/- What the words of a text are. -/
namespace Go.Sv
open Go

/-- A word of a text of so many bytes. -/
structure NxOk (x : Nx) : Prop where
  kind : x.kind = 1 ∨ x.kind = 2 ∨ x.kind = 3 ∨ x.kind = 4 ∨ x.kind = 5
  n : -9223372036854775808 ≤ x.n ∧ x.n < 9223372036854775808
  len : x.text.length ≤ 16
  name : x.kind = 1 → isNm x.text = true
  text : x.kind = 3 → isTextB x.text = true
  great : x.kind = 4 → ∀ c ∈ x.text, isGr c = true
  sign : x.kind = 5 → ∀ c ∈ x.text, isGr c = false
structure WdOk (m : Nat) (w : Wd) : Prop where
  nx : NxOk ⟨w.kind, w.text, w.n, 0⟩
  at_ : w.at_ ≤ m

theorem take_spanOk {p : UInt8 → Bool} (l : List UInt8) : ∀ c ∈ l.take (spanN p l), p c = true := by
  induction l with
  | nil => simp
  | cons d l ih =>
    cases h : p d with
    | false => rw [spanN_stop h]; simp
    | true =>
      rw [spanN_cons h, List.take_succ_cons]
      intro c hc
      rcases List.mem_cons.1 hc with rfl | hc
      · exact h
      · exact ih c hc
theorem letR_ok {kind : Nat} {p : UInt8 → Bool} {l : List UInt8} {x : Nx} (h : letR kind p l = .ok x) : x.kind = kind ∧ x.n = 0 ∧ x.text = l.take (spanN p l) ∧ spanN p l ≤ 8 := by
  unfold letR at h
  split at h
  · cases h
  · cases h
    exact ⟨rfl, rfl, rfl, by omega⟩
theorem textR_okW : ∀ (n : Nat) (l out : List UInt8) {t : List UInt8} {k : Nat}, l.length ≤ n → out.all okCh = true → textR out l = .ok (t, k) → t.all okCh = true ∧ t.length ≤ 16
  | _, [], out, t, k, _, _, h => by simp [textR] at h
  | 0, c :: l, out, t, k, hn, _, h => by simp at hn
  | n + 1, c :: l, out, t, k, hn, ho, h => by
    have hn' : l.length ≤ n := by simpa using hn
    have step : ∀ d : UInt8, okCh d = true → (out ++ [d]).all okCh = true := fun d hd => by rw [List.all_append, ho]; simp [hd]
    rw [textR.eq_def] at h
    simp only at h
    split at h
    · split at h
      · cases h
      · cases h; exact ⟨ho, by omega⟩
    · split at h
      · cases l with
        | nil => cases h
        | cons d l' =>
          simp only at h
          split at h
          · rename_i hd
            cases e : textR (out ++ [d]) l' with
            | error x => rw [e] at h; cases h
            | ok p =>
              obtain ⟨t', k'⟩ := p
              rw [e] at h
              cases h
              exact textR_okW n l' (out ++ [d]) (by simp at hn'; omega) (step d (by rcases hd with rfl | rfl <;> decide)) e
          · cases h
      · split at h
        · rename_i hc
          cases e : textR (out ++ [c]) l with
          | error x => rw [e] at h; cases h
          | ok p =>
            obtain ⟨t', k'⟩ := p
            rw [e] at h
            cases h
            exact textR_okW n l (out ++ [c]) hn' (step c (by simp [okCh]; exact hc)) e
        · cases h
theorem numE_ok {k : Nat} {r : Lib.NumEnd Int} {x : Nx} (h : numE k r = .ok x) : ∃ v, r = .ok v ∧ x = ⟨2, [], v, k⟩ := by
  unfold numE at h
  split at h
  · rename_i v
    cases h; exact ⟨v, rfl, rfl⟩
  · cases h
theorem parse64 {l : List UInt8} {v : Int} (h : Lib.parseIntB 64 l = .ok v) : -9223372036854775808 ≤ v ∧ v < 9223372036854775808 := by
  cases l with
  | nil => cases h
  | cons c r =>
    rw [Lib.parseIntB] at h
    split at h
    · cases h
    · cases h
    · split at h
      · cases h
      · rename_i h1
        split at h
        · cases h
        · rename_i h2
          cases h
          split
          · rename_i hn
            have h3 := fun e => h2 ⟨hn, e⟩
            omega
          · rename_i hn
            have h3 := fun e => h1 ⟨hn, e⟩
            omega
theorem signs_gr : ∀ c ∈ signsL, isGr c = false := by decide
theorem ibyte_mem : ∀ {l : List UInt8} {c : UInt8}, ¬ Lib.indexByte l c < 0 → c ∈ l
  | [], c, h => by simp [Lib.indexByte] at h
  | b :: l, c, h => by
    unfold Lib.indexByte at h
    by_cases e : b = c
    · subst e; simp
    · rw [if_neg (by simpa using e)] at h
      split at h
      · simp at h
      · rename_i h1
        have h1 : ¬ Lib.indexByte l c = -1 := by simpa using h1
        refine List.mem_cons_of_mem _ (ibyte_mem fun h2 => ?_)
        have : -1 ≤ Lib.indexByte l c := Lib.indexByte_ge l c
        omega
theorem nextR_ok {l : List UInt8} {x : Nx} (hl : l ≠ []) (h : nextR l = .ok x) : NxOk x := by
  cases l with
  | nil => exact absurd rfl hl
  | cons c r =>
  rw [nextR_cons] at h
  split at h
  · rename_i hc
    obtain ⟨e1, e2, e3, e4⟩ := letR_ok h
    have hlen : x.text.length ≤ 8 := by rw [e3, List.length_take]; omega
    have hne : x.text ≠ [] := by rw [e3, spanN_cons hc, List.take_succ_cons]; exact List.cons_ne_nil _ _
    refine ⟨.inl e1, by rw [e2]; omega, by omega, fun _ => ?_, (fun h => by omega), (fun h => by omega), (fun h => by omega)⟩
    rw [isNm, decide_eq_false hne, decide_eq_true hlen, e3, List.all_eq_true.2 (take_spanOk _)]; rfl
  · split at h
    · rename_i hc
      obtain ⟨e1, e2, e3, e4⟩ := letR_ok h
      have hlen : x.text.length ≤ 8 := by rw [e3, List.length_take]; omega
      exact ⟨.inr (.inr (.inr (.inl e1))), by rw [e2]; omega, by omega, (fun h => by omega), (fun h => by omega), (fun _ => by rw [e3]; exact take_spanOk _), (fun h => by omega)⟩
    · split at h
      · obtain ⟨v, e1, rfl⟩ := numE_ok h
        exact ⟨.inr (.inl rfl), parse64 e1, by simp, (fun h => by cases h), (fun h => by cases h), (fun h => by cases h), (fun h => by cases h)⟩
      · split at h
        · unfold textN textE at h
          split at h
          · rename_i t k e
            cases h
            obtain ⟨a1, a2⟩ := textR_okW _ _ _ (Nat.le_refl _) rfl e
            exact ⟨.inr (.inr (.inl rfl)), by simp only; omega, a2, (fun h => by cases h), (fun _ => by rw [isTextB, a1, decide_eq_true a2]; rfl), (fun h => by cases h), (fun h => by cases h)⟩
          · cases h
        · unfold signR at h
          split at h
          · cases h
            exact ⟨.inr (.inr (.inr (.inr rfl))), by simp only; omega, by simp, (fun h => by cases h), (fun h => by cases h), (fun h => by cases h), fun _ => by decide⟩
          · split at h
            · cases h
              exact ⟨.inr (.inr (.inr (.inr rfl))), by simp only; omega, by simp, (fun h => by cases h), (fun h => by cases h), (fun h => by cases h), fun _ => by decide⟩
            · split at h
              · cases h
              · rename_i hi
                cases h
                have hm : c ∈ signsL := ibyte_mem (by simpa using hi)
                refine ⟨.inr (.inr (.inr (.inr rfl))), by simp only; omega, by simp, (fun h => by cases h), (fun h => by cases h), (fun h => by cases h), fun _ d hd => ?_⟩
                have : d = c := by simpa using hd
                rw [this]; exact signs_gr c hm
theorem items_ok : ∀ (f at_ m : Nat) (l : List UInt8), at_ + l.length ≤ m → ∀ p ∈ itemsF f at_ l, p.2 = none → WdOk m p.1
  | 0, _, _, _, _, p, hp, _ => by simp [itemsF] at hp
  | f + 1, _, _, [], _, p, hp, _ => by simp [itemsF] at hp
  | f + 1, at_, m, c :: r, hm, p, hp, hn => by
    rw [itemsF_step] at hp
    simp only [List.length_cons] at hm
    split at hp
    · exact items_ok f (at_ + 1) m r (by omega) p hp hn
    · cases e : nextR (c :: r) with
      | error k => rw [e] at hp; simp at hp; rw [hp] at hn; cases hn
      | ok x =>
        rw [e] at hp
        have hx := nextR_len (by simp) e
        simp only [List.length_cons] at hx
        rcases List.mem_cons.1 hp with rfl | hp
        · have h1 := nextR_ok (by simp) e
          exact ⟨⟨h1.kind, h1.n, h1.len, h1.name, h1.text, h1.great, h1.sign⟩, by simp only [Nx.wd]; omega⟩
        · exact items_ok f (at_ + x.len) m _ (by rw [List.length_drop]; simp only [List.length_cons]; omega) p hp hn
theorem collect_ok : ∀ {L : List (Wd × Option Nat)} {out l : List Wd} {m : Nat}, collect out L = .ok l → (∀ w ∈ out, WdOk m w) → (∀ p ∈ L, p.2 = none → WdOk m p.1) → ∀ w ∈ l, WdOk m w
  | [], out, l, m, h, ho, _ => by cases h; exact ho
  | (w, some e) :: L, out, l, m, h, _, _ => by cases h
  | (w, none) :: L, out, l, m, h, ho, hp => by
    have h' : (if 500 < (out ++ [w]).length then (.error 12 : Except Nat (List Wd)) else collect (out ++ [w]) L) = .ok l := h
    split at h'
    · cases h'
    · refine collect_ok h' (fun v hv => ?_) fun p hq => hp p (by simp [hq])
      rcases List.mem_append.1 hv with hv | hv
      · exact ho v hv
      · rw [List.mem_singleton.1 hv]; exact hp (w, none) (by simp) rfl
theorem collect_lenW : ∀ {L : List (Wd × Option Nat)} {out l : List Wd}, collect out L = .ok l → out.length ≤ 500 → l.length ≤ 500
  | [], out, l, h, ho => by cases h; exact ho
  | (w, some e) :: L, out, l, h, _ => by cases h
  | (w, none) :: L, out, l, h, ho => by
    have h' : (if 500 < (out ++ [w]).length then (.error 12 : Except Nat (List Wd)) else collect (out ++ [w]) L) = .ok l := h
    split at h'
    · cases h'
    · exact collect_lenW h' (by omega)
/-- The words of a text. -/
theorem cutW_ok {s : List UInt8} {l : List Wd} (h : cutW s = .ok l) : (∀ w ∈ l, WdOk s.length w) ∧ l.length ≤ 500 :=
  ⟨collect_ok h (by simp) (items_ok s.length 0 s.length s (by omega)), collect_lenW h (by simp)⟩
end Go.Sv
/- How great a condition, a pattern is: then all is bounded. -/
namespace Go.Sv
open Go Go.Proofs

def I64 (n : Int) : Prop := -9223372036854775808 ≤ n ∧ n < 9223372036854775808
mutual
def exSize : Ex → Nat
  | .mk _ v a f l => 1 + v.s.length + a.length + f.length + exsSize l
def exsSize : List Ex → Nat
  | [] => 0
  | x :: l => exSize x + exsSize l
end
mutual
def exRg : Ex → Prop
  | .mk _ v _ _ l => I64 v.n ∧ exsRg l
def exsRg : List Ex → Prop
  | [] => True
  | x :: l => exRg x ∧ exsRg l
end
theorem exsSize_sum (l : List Ex) : exsSize l = (l.map exSize).sum := by
  induction l with
  | nil => rw [exsSize]; rfl
  | cons x l ih => rw [exsSize, ih]; simp
theorem exsRg_iff (l : List Ex) : exsRg l ↔ ∀ y ∈ l, exRg y := by
  induction l with
  | nil => rw [exsRg]; simp
  | cons x l ih => rw [exsRg, ih]; simp
theorem exSize_eq (x : Ex) : exSize x = 1 + x.val.s.length + x.al.length + x.fd.length + exsSize x.kids := by
  cases x; rw [exSize]; rfl
theorem exRg_eq (x : Ex) : exRg x ↔ I64 x.val.n ∧ ∀ y ∈ x.kids, exRg y := by
  cases x; rw [exRg, exsRg_iff]; rfl
theorem exSize_pos (x : Ex) : 1 ≤ exSize x := by rw [exSize_eq]; omega
theorem exsSize_mem : ∀ {l : List Ex} {y : Ex}, y ∈ l → exSize y ≤ exsSize l
  | x :: l, y, h => by
    rw [exsSize]
    rcases List.mem_cons.1 h with rfl | h
    · omega
    · have := exsSize_mem h; omega
theorem exsSize_len : ∀ l : List Ex, l.length ≤ exsSize l
  | [] => by simp
  | x :: l => by
    rw [exsSize, List.length_cons]
    have := exsSize_len l
    have := exSize_pos x
    omega
theorem exOk_of {B : Nat} (hB : B < 2 ^ 60) : ∀ (k : Nat) (x : Ex), exSize x ≤ B → ExOk k x
  | 0, _, _ => trivial
  | k + 1, x, h => by
    rw [exSize_eq] at h
    have := exsSize_len x.kids
    exact ⟨by omega, by omega, by omega, by omega, fun y hy => exOk_of hB k y (by have := exsSize_mem hy; omega)⟩
theorem exSm_of {B : Nat} (hB : B < 2 ^ 40) : ∀ (k : Nat) (x : Ex), exSize x ≤ B → exRg x → ExSm k x
  | 0, _, _, _ => trivial
  | k + 1, x, h, hr => by
    rw [exSize_eq] at h
    rw [exRg_eq] at hr
    exact ⟨⟨by omega, hr.1.1, hr.1.2⟩, by omega, by omega, fun y hy => exSm_of hB k y (by have := exsSize_mem hy; omega) (hr.2 y hy)⟩
theorem nodes_size : ∀ (k : Nat) (x : Ex), (nodesN k x).length ≤ exSize x
  | 0, _ => by simp [nodesN]
  | k + 1, x => by
    have key : ∀ l : List Ex, (l.flatMap (nodesN k)).length ≤ exsSize l := by
      intro l
      induction l with
      | nil => simp
      | cons y l ih =>
        rw [List.flatMap_cons, List.length_append, exsSize]
        have := nodes_size k y
        omega
    have := key x.kids
    rw [nodesN, exSize_eq]
    split
    · simp
    · rw [List.length_cons]; omega
theorem exBd_of {x : Ex} (h : exSize x ≤ 2 ^ 39) (hr : exRg x) : ExBd x :=
  ⟨exOk_of (by omega) 20 x h, exOk_of (by omega) 6 x h, exSm_of (by omega) 5 x h hr, by have := nodes_size 20 x; omega⟩

def elSize (e : El) : Nat := e.al.length + (e.ty.map fun s => s.length + 1).sum + exSize e.cond
def paSize (p : Pa) : Nat := p.by_.length + (p.els.map elSize).sum
theorem sum_mem {α : Type} {f : α → Nat} : ∀ {l : List α} {y : α}, y ∈ l → f y ≤ (l.map f).sum
  | x :: l, y, h => by
    rw [List.map_cons, List.sum_cons]
    rcases List.mem_cons.1 h with rfl | h
    · omega
    · have := sum_mem (f := f) h; omega
theorem sum_len {α : Type} {f : α → Nat} (hf : ∀ a, 1 ≤ f a) : ∀ l : List α, l.length ≤ (l.map f).sum
  | [] => by simp
  | x :: l => by
    rw [List.map_cons, List.sum_cons, List.length_cons]
    have := sum_len hf l
    have := hf x
    omega
theorem elBd_of {e : El} (h : elSize e ≤ 2 ^ 39) (hr : exRg e.cond) : ElBd e := by
  unfold elSize at h
  have h1 := sum_len (f := fun s : List UInt8 => s.length + 1) (fun a => by omega) e.ty
  refine ⟨by omega, by omega, fun t ht => ?_, exBd_of (by omega) hr⟩
  have := sum_mem (f := fun s : List UInt8 => s.length + 1) ht
  omega
theorem paBd_of {p : Pa} (h : paSize p ≤ 2 ^ 39) (hr : ∀ e ∈ p.els, exRg e.cond) (hw : I64 p.within) : PaBd p := by
  unfold paSize at h
  have h1 := sum_len (f := elSize) (fun e => by have := exSize_pos e.cond; unfold elSize; omega) p.els
  refine ⟨by omega, fun e he => elBd_of ?_ (hr e he), by omega, hw⟩
  have := sum_mem (f := elSize) he
  omega
end Go.Sv
