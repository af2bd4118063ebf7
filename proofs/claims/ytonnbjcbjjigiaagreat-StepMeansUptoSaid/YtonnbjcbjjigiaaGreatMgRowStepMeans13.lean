/- Parts of the proof, one behind the other. -/
import Derived.Test.YtonnbjcbjjigiaaGreatMgRowStepMeans12
import Derived.Test.YtonnbjcbjjigiaaGreatMgRowStepMeans10
import Derived.Test.YtonnbjcbjjigiaaGreatMgRowStepMeans11
namespace Go.Sv
open Go Go.Proofs
set_option maxRecDepth 100000 in
set_option maxHeartbeats 1000000 in
theorem refpattern_call (p : Pa) (h : PaBd p) : PCall Tryz.prog 21 [.agg (paC p)] (bV (isPaB p)) := by
  obtain ⟨hl, he, hb, hw1, hw2⟩ := h
  have fb := refname_call p.by_ (by omega)
  refine scall_of (live := []) (ords := [(10, [])]) Tryz.func21 rfl (by kernel_rfl) (by kernel_rfl) (Nat.le_of_ble_eq_true rfl) ?_
  (conv=>arg 2;whnf);refine wp_ite (fun h1 => ?_) (fun h1 => ?_)
  · have h1 : p.els.length < 1 := by have := of_decide_eq_true h1; rw [List.length_map] at this; omega
    (repeat ((conv=>arg 2;whnf);first|refine wp_it rfl ?_|refine wp_if rfl ?_))
    (conv=>arg 2;whnf);refine w_retp rfl (Vle.eq (cBool (isPa_few h1).symm))
  have h1 : 1 ≤ p.els.length := by have := of_decide_eq_false h1; rw [List.length_map] at this; omega
  (conv=>arg 2;whnf);refine wp_ite (fun h2 => ?_) (fun h2 => ?_)
  · have h2 : 5 < p.els.length := by have := of_decide_eq_true h2; rw [List.length_map] at this; omega
    (repeat ((conv=>arg 2;whnf);first|refine wp_it rfl ?_|refine wp_if rfl ?_))
    (conv=>arg 2;whnf);refine w_retp rfl (Vle.eq (cBool (isPa_many h2).symm))
  have h2 : p.els.length ≤ 5 := by have := of_decide_eq_false h2; rw [List.length_map] at this; omega
  (conv=>arg 2;whnf);refine wp_ite (fun h5 => ?_) (fun h5 => ?_)
  · have h5 : p.within < 0 := of_decide_eq_true h5
    (repeat ((conv=>arg 2;whnf);first|refine wp_it rfl ?_|refine wp_if rfl ?_))
    (conv=>arg 2;whnf);refine w_retp rfl (Vle.eq (cBool (isPa_w0 h5).symm))
  have h5 : 0 ≤ p.within := by have := of_decide_eq_false h5; omega
  (conv=>arg 2;whnf);refine wp_ite (fun h6 => ?_) (fun h6 => ?_)
  · have h6 : 1000 < p.within := of_decide_eq_true h6
    (repeat ((conv=>arg 2;whnf);first|refine wp_it rfl ?_|refine wp_if rfl ?_))
    (conv=>arg 2;whnf);refine w_retp rfl (Vle.eq (cBool (isPa_w1 h6).symm))
  have h6 : p.within ≤ 1000 := by have := of_decide_eq_false h6; omega
  obtain ⟨e0, he0⟩ : ∃ e, p.els[0]? = some e := ⟨_, List.getElem?_eq_getElem (by omega)⟩
  obtain ⟨e1, he1⟩ : ∃ e, p.els[p.els.length - 1]? = some e := ⟨_, List.getElem?_eq_getElem (by omega)⟩
  have ws : IntKind.i64.wrap (((p.els.map elV).length : Int) - 1) = ((p.els.length - 1 : Nat) : Int) := by
    rw [List.length_map]; exact wsub (by omega) (by omega) (by omega)
  (conv=>arg 2;whnf);refine wp_ite (fun hq => ?_) (fun hq => ?_)
  · have hq : p.by_ ≠ [] := fun e => by
      have := (nilS_ne (l := p.by_)).symm.trans hq
      rw [e] at this; cases this
    (conv=>arg 2;whnf);refine wp_pcall fb ?_
    (conv=>arg 2;whnf);refine wp_ite (fun hr => ?_) (fun hr => ?_)
    · have hr : isNm p.by_ = false := by simpa using hr
      (repeat ((conv=>arg 2;whnf);first|refine wp_it rfl ?_|refine wp_if rfl ?_))
      (conv=>arg 2;whnf);refine w_retp rfl (Vle.eq (cBool (isPa_by hq hr).symm))
    have hr : isNm p.by_ = true := by simpa using hr
    have h7 : p.by_ = [] ∨ isNm p.by_ = true := .inr hr
    (repeat ((conv=>arg 2;whnf);first|refine wp_it rfl ?_|refine wp_if rfl ?_))
    (conv=>arg 2;whnf);refine wp_elem 0 (.agg (elC e0)) rfl (els_at he0) (Vle.refl _) ?_
    (conv=>arg 2;whnf);refine wp_ite (fun h3 => ?_) (fun h3 => ?_)
    · have h3 : ntAt p.els 0 = true := (ntAt_of he0).trans h3
      (repeat ((conv=>arg 2;whnf);first|refine wp_it rfl ?_|refine wp_if rfl ?_))
      (conv=>arg 2;whnf);refine w_retp rfl (Vle.eq (cBool (isPa_first h3).symm))
    have h3 : ntAt p.els 0 = false := (ntAt_of he0).trans h3
    (conv=>arg 2;whnf);refine wp_elem (p.els.length - 1) (.agg (elC e1)) ws (els_at he1) (Vle.refl _) ?_
    (conv=>arg 2;whnf);refine wp_ite (fun h4 => ?_) (fun h4 => ?_)
    · have h4 : ntAt p.els (p.els.length - 1) = true := (ntAt_of he1).trans h4
      (repeat ((conv=>arg 2;whnf);first|refine wp_it rfl ?_|refine wp_if rfl ?_))
      (conv=>arg 2;whnf);refine w_retp rfl (Vle.eq (cBool (isPa_last h4).symm))
    have h4 : ntAt p.els (p.els.length - 1) = false := (ntAt_of he1).trans h4
    (conv=>arg 2;whnf);refine wp_loop (fun m fr R => ∃ n : Nat, m = p.els.length - n ∧ n ≤ p.els.length ∧ R = [] ∧ ((List.range n).all fun i => okAtB p.els i (p.els.getD i el0)) = true ∧ fr = frL [(1, .pt (some 4) (.agg (paC p)) 0), (3, i64V p.els.length), (4, i64V n)])
      p.els.length _ _ (.cons (.refl _) (.cons (Vle.eq ?_) (.cons (.refl _) (.nil _)))) (List.Sublist.refl _) ⟨0, rfl, Nat.zero_le _, rfl, rfl, rfl⟩ ?_
    · show V.c (.int .i64 (p.els.map elV).length) = _
      rw [List.length_map]; rfl
    rintro m fr R ⟨n, rfl, hn, rfl, hall, rfl⟩
    (conv=>arg 2;whnf);refine wp_ite (fun h => ?_) (fun h => ?_)
    · have h : n < p.els.length := by have := of_decide_eq_true h; omega
      obtain ⟨e, hen⟩ : ∃ e, p.els[n]? = some e := ⟨_, List.getElem?_eq_getElem h⟩
      have hbd := he e (List.mem_of_getElem? hen)
      obtain ⟨ba, bl, bt, bx⟩ := hbd
      have fn := refname_call e.al (by omega)
      have fa := alias_call p.els e.al (by omega)
      have fr := refrise_call e.ty (by omega)
      have fs := refsame0_call e.cond bx.kids
      have fi := refisexpr_call e.cond bx.1 bx.2.1 bx.2.2.2
      rw [isEx_same] at fi
      (conv=>arg 2;whnf);refine wp_elem n (.agg (elC e)) rfl (els_at hen) (Vle.refl _) ?_
      (conv=>arg 2;whnf);refine wp_allocE elZ rfl fun b => ?_
      (conv=>arg 2;whnf);refine wp_storeE (cs := elZ) 0 0 (elC e) rfl rfl (VleL.refl _) (Nat.le_refl _) rfl (R' := [.obj b (elC e)]) rfl ?_
      (conv=>arg 2;whnf);refine wp_load (cs := elC e) 0 rfl rfl ?_
      (conv=>arg 2;whnf);refine wp_pcall fn ?_
      (conv=>arg 2;whnf);refine wp_ite (fun g1 => ?_) (fun g1 => ?_)
      · have g1 : isNm e.al = false := by simpa using g1
        (repeat ((conv=>arg 2;whnf);first|refine wp_it rfl ?_|refine wp_if rfl ?_))
        (conv=>arg 2;whnf)
        refine wp_leaf (loop_ret ?_)
        (conv=>arg 2;whnf);refine w_retp rfl (Vle.eq (cBool (isPa_el hen (okAt_el (isEl_name g1))).symm))
      have g1 : isNm e.al = true := by simpa using g1
      (conv=>arg 2;whnf);refine wp_load (cs := elC e) 0 rfl rfl ?_
      (conv=>arg 2;whnf);refine wp_pcall fa ?_
      (conv=>arg 2;whnf);refine wp_ite (fun g2 => ?_) (fun g2 => ?_)
      · have g2 : aliasI p.els e.al ≠ n := by simpa using g2
        have g2 : twiceB p.els n e.al = true := by
          cases ht : twiceB p.els n e.al with
          | true => rfl
          | false => exact (g2 ((aliasI_iff hen).2 ht)).elim
        (repeat ((conv=>arg 2;whnf);first|refine wp_it rfl ?_|refine wp_if rfl ?_))
        (conv=>arg 2;whnf)
        refine wp_leaf (loop_ret ?_)
        (conv=>arg 2;whnf);refine w_retp rfl (Vle.eq (cBool (isPa_el hen (okAt_twice g2)).symm))
      have g2 : aliasI p.els e.al = n := by simpa using g2
      have g2 : twiceB p.els n e.al = false := (aliasI_iff hen).1 g2
      (conv=>arg 2;whnf);refine wp_load (cs := elC e) 0 rfl rfl ?_
      (conv=>arg 2;whnf);refine wp_ite (fun g3 => ?_) (fun g3 => ?_)
      · have g3 : e.ty.length < 1 := by have := of_decide_eq_true g3; rw [List.length_map] at this; omega
        (repeat ((conv=>arg 2;whnf);first|refine wp_it rfl ?_|refine wp_if rfl ?_))
        (conv=>arg 2;whnf)
        refine wp_leaf (loop_ret ?_)
        (conv=>arg 2;whnf);refine w_retp rfl (Vle.eq (cBool (isPa_el hen (okAt_el (isEl_few g3))).symm))
      have g3 : 1 ≤ e.ty.length := by have := of_decide_eq_false g3; rw [List.length_map] at this; omega
      (conv=>arg 2;whnf);refine wp_load (cs := elC e) 0 rfl rfl ?_
      (conv=>arg 2;whnf);refine wp_ite (fun g4 => ?_) (fun g4 => ?_)
      · have g4 : 3 < e.ty.length := by have := of_decide_eq_true g4; rw [List.length_map] at this; omega
        (repeat ((conv=>arg 2;whnf);first|refine wp_it rfl ?_|refine wp_if rfl ?_))
        (conv=>arg 2;whnf)
        refine wp_leaf (loop_ret ?_)
        (conv=>arg 2;whnf);refine w_retp rfl (Vle.eq (cBool (isPa_el hen (okAt_el (isEl_many g4))).symm))
      have g4 : e.ty.length ≤ 3 := by have := of_decide_eq_false g4; rw [List.length_map] at this; omega
      (conv=>arg 2;whnf);refine wp_load (cs := elC e) 0 rfl rfl ?_
      (conv=>arg 2;whnf);refine wp_pcall fr ?_
      (conv=>arg 2;whnf);refine wp_ite (fun g5 => ?_) (fun g5 => ?_)
      · have g5 : riseB e.ty = false := by simpa using g5
        (repeat ((conv=>arg 2;whnf);first|refine wp_it rfl ?_|refine wp_if rfl ?_))
        (conv=>arg 2;whnf)
        refine wp_leaf (loop_ret ?_)
        (conv=>arg 2;whnf);refine w_retp rfl (Vle.eq (cBool (isPa_el hen (okAt_el (isEl_rise g5))).symm))
      have g5 : riseB e.ty = true := by simpa using g5
      have pf : e.plus = false → (e.plus && e.nt) = false := fun h => by rw [h, Bool.false_and]
      have nf : e.nt = false → (e.plus && e.nt) = false := fun h => by rw [h, Bool.and_false]
      have nf' : e.nt = false → (e.nt && (decide (0 < n) && ntAt p.els (n - 1))) = false := fun h => by rw [h, Bool.false_and]
      have n0f : ¬ 0 < n → (e.nt && (decide (0 < n) && ntAt p.els (n - 1))) = false := fun h => by rw [decide_eq_false h]; simp
      have pvf : ntAt p.els (n - 1) = false → (e.nt && (decide (0 < n) && ntAt p.els (n - 1))) = false := fun h => by rw [h]; simp
      have nqt : e.nt = false → e.nt = true → False := fun h h' => by rw [h] at h'; cases h'
      have i0 : decide ((n : Int) > 0) = false → ¬ 0 < n := fun h => by have := of_decide_eq_false h; omega
      have i1 : decide ((n : Int) > 0) = true → 0 < n := fun h => by have := of_decide_eq_true h; omega
      have wsn : 0 < n → IntKind.i64.wrap ((n : Int) - 1) = ((n - 1 : Nat) : Int) := fun h => wsub (by omega : ((n : Nat) : Int) - 1 = ((n - 1 : Nat) : Int)) (by omega) (by omega)
      have hy : 0 < n → p.els[n - 1]? = some (p.els.getD (n - 1) el0) := fun h0 => by
        have hx : p.els[n - 1]? = some p.els[n - 1] := List.getElem?_eq_getElem (by omega)
        rw [getDx hx]; exact hx
      apply @wp_joinT _ ((e.plus && e.nt) = false → (e.nt && (decide (0 < n) && ntAt p.els (n - 1))) = false → _)
      case h1 =>
        intro rest
        (conv=>arg 2;whnf);refine wp_load (cs := elC e) 0 rfl rfl ?_
        (conv=>arg 2;whnf);refine wp_ite (fun hp => ?_) (fun hp => ?_)
        · (conv=>arg 2;whnf);refine wp_load (cs := elC e) 0 rfl rfl ?_
          (conv=>arg 2;whnf);refine wp_ite (fun hq => ?_) (fun hq => ?_)
          · have hp : e.plus = true := hp
            have hq : e.nt = true := hq
            (repeat ((conv=>arg 2;whnf);first|refine wp_it rfl ?_|refine wp_if rfl ?_))
            (conv=>arg 2;whnf)
            refine wp_leaf (loop_ret ?_)
            (conv=>arg 2;whnf);refine w_retp rfl (Vle.eq (cBool (isPa_el hen (okAt_el (isEl_both hp hq))).symm))
          · have hq : e.nt = false := hq
            (repeat ((conv=>arg 2;whnf);first|refine wp_it rfl ?_|refine wp_if rfl ?_))
            (conv=>arg 2;whnf);refine wp_ite (fun h0 => ?_) (fun h0 => ?_)
            · (conv=>arg 2;whnf);refine wp_load (cs := elC e) 0 rfl rfl ?_
              (conv=>arg 2;whnf);refine wp_ite (fun hq' => (nqt hq hq').elim) (fun _ => ?_)
              (repeat ((conv=>arg 2;whnf);first|refine wp_it rfl ?_|refine wp_if rfl ?_))
              (conv=>arg 2;whnf)
              exact wp_cutR (frL [(1, .pt (some 4) (.agg (paC p)) 0), (3, i64V p.els.length), (4, i64V n), (5, .loc b 0)]) [.obj b (elC e)] (.cons (.refl _) (.cons (.refl _) (.cons (.refl _) (.cons (.refl _) (.nil _))))) (List.Sublist.refl _) (rest (nf hq) (nf' hq))
            · (repeat ((conv=>arg 2;whnf);first|refine wp_it rfl ?_|refine wp_if rfl ?_))
              (conv=>arg 2;whnf)
              exact wp_cutR (frL [(1, .pt (some 4) (.agg (paC p)) 0), (3, i64V p.els.length), (4, i64V n), (5, .loc b 0)]) [.obj b (elC e)] (.cons (.refl _) (.cons (.refl _) (.cons (.refl _) (.cons (.refl _) (.nil _))))) (List.Sublist.refl _) (rest (nf hq) (nf' hq))
        · have hp : e.plus = false := hp
          (repeat ((conv=>arg 2;whnf);first|refine wp_it rfl ?_|refine wp_if rfl ?_))
          (conv=>arg 2;whnf);refine wp_ite (fun h0 => ?_) (fun h0 => ?_)
          · (conv=>arg 2;whnf);refine wp_load (cs := elC e) 0 rfl rfl ?_
            (conv=>arg 2;whnf);refine wp_ite (fun hq => ?_) (fun hq => ?_)
            · have hq : e.nt = true := hq
              (conv=>arg 2;whnf);refine wp_elem (n - 1) (.agg (elC (p.els.getD (n - 1) el0))) (wsn (i1 h0)) (els_at (hy (i1 h0))) (Vle.refl _) ?_
              (conv=>arg 2;whnf);refine wp_ite (fun hz => ?_) (fun hz => ?_)
              · have hz : ntAt p.els (n - 1) = true := (ntAt_of (hy (i1 h0))).trans hz
                (repeat ((conv=>arg 2;whnf);first|refine wp_it rfl ?_|refine wp_if rfl ?_))
                (conv=>arg 2;whnf)
                refine wp_leaf (loop_ret ?_)
                (conv=>arg 2;whnf);refine w_retp rfl (Vle.eq (cBool (isPa_el hen (okAt_nt hq (i1 h0) hz)).symm))
              · have hz : ntAt p.els (n - 1) = false := (ntAt_of (hy (i1 h0))).trans hz
                (repeat ((conv=>arg 2;whnf);first|refine wp_it rfl ?_|refine wp_if rfl ?_))
                (conv=>arg 2;whnf)
                exact wp_cutR (frL [(1, .pt (some 4) (.agg (paC p)) 0), (3, i64V p.els.length), (4, i64V n), (5, .loc b 0)]) [.obj b (elC e)] (.cons (.refl _) (.cons (.refl _) (.cons (.refl _) (.cons (.refl _) (.nil _))))) (List.Sublist.refl _) (rest (pf hp) (pvf hz))
            · have hq : e.nt = false := hq
              (repeat ((conv=>arg 2;whnf);first|refine wp_it rfl ?_|refine wp_if rfl ?_))
              (conv=>arg 2;whnf)
              exact wp_cutR (frL [(1, .pt (some 4) (.agg (paC p)) 0), (3, i64V p.els.length), (4, i64V n), (5, .loc b 0)]) [.obj b (elC e)] (.cons (.refl _) (.cons (.refl _) (.cons (.refl _) (.cons (.refl _) (.nil _))))) (List.Sublist.refl _) (rest (pf hp) (nf' hq))
          · (repeat ((conv=>arg 2;whnf);first|refine wp_it rfl ?_|refine wp_if rfl ?_))
            (conv=>arg 2;whnf)
            exact wp_cutR (frL [(1, .pt (some 4) (.agg (paC p)) 0), (3, i64V p.els.length), (4, i64V n), (5, .loc b 0)]) [.obj b (elC e)] (.cons (.refl _) (.cons (.refl _) (.cons (.refl _) (.cons (.refl _) (.nil _))))) (List.Sublist.refl _) (rest (pf hp) (n0f (i0 h0)))
      case rest =>
        intro g6 g7
        (conv=>arg 2;whnf);refine wp_loop (fun m fr R => ∃ k : Nat, m = e.ty.length - k ∧ k ≤ e.ty.length ∧ R = [.obj b (elC e)] ∧ (e.ty.take k).all isNm = true ∧ fr = frL [(1, .pt (some 4) (.agg (paC p)) 0), (3, i64V p.els.length), (4, i64V n), (5, .loc b 0), (6, i64V k)])
          e.ty.length _ _ (.cons (.refl _) (.cons (.refl _) (.cons (.refl _) (.cons (.refl _) (.cons (.refl _) (.nil _)))))) (List.Sublist.refl _) ⟨0, rfl, Nat.zero_le _, rfl, rfl, rfl⟩ ?_
        rintro m fr R ⟨k, rfl, hk, rfl, hnm, rfl⟩
        (conv=>arg 2;whnf);refine wp_load (cs := elC e) 0 rfl rfl ?_
        (conv=>arg 2;whnf);refine wp_ite (fun hk1 => ?_) (fun hk1 => ?_)
        · have hk1 : k < e.ty.length := by have := of_decide_eq_true hk1; rw [List.length_map] at this; omega
          obtain ⟨t, htk⟩ : ∃ t, e.ty[k]? = some t := ⟨_, List.getElem?_eq_getElem hk1⟩
          have hm := List.mem_of_getElem? htk
          have fn := refname_call t (by have := bt t hm; omega)
          (conv=>arg 2;whnf);refine wp_load (cs := elC e) 0 rfl rfl ?_
          (conv=>arg 2;whnf);refine wp_elem k (str t) rfl (by rw [List.getElem?_map, htk]; rfl) (Vle.refl _) ?_
          (conv=>arg 2;whnf);refine wp_pcall fn ?_
          (conv=>arg 2;whnf);refine wp_ite (fun g8 => ?_) (fun g8 => ?_)
          · have g8 : isNm t = false := by simpa using g8
            (conv=>arg 2;whnf)
            refine wp_leaf (loop_ret ?_)
            (conv=>arg 2;whnf)
            refine wp_leaf (loop_ret ?_)
            (conv=>arg 2;whnf);refine w_retp rfl (Vle.eq (cBool (isPa_el hen (okAt_el (isEl_ty hm g8))).symm))
          · have g8 : isNm t = true := by simpa using g8
            (conv=>arg 2;whnf)
            refine wp_leaf (loop_next (e.ty.length - (k + 1)) _ _ (by omega) (.cons (.refl _) (.cons (.refl _) (.cons (.refl _) (.cons (.refl _) (.cons (Vle.inc k rfl (by omega)) (.nil _)))))) (List.Sublist.refl _) ⟨k + 1, rfl, hk1, rfl, ?_, rfl⟩)
            rw [List.take_add_one, htk, List.all_append, hnm]
            simp [g8]
        · have hk1 : k = e.ty.length := by have := of_decide_eq_false hk1; rw [List.length_map] at this; omega
          subst hk1
          rw [List.take_length] at hnm
          have hend := isEl_end g1 g3 g4 g5 g6 hnm
          have next : isElB e = true → ((List.range (n + 1)).all fun i => okAtB p.els i (p.els.getD i el0)) = true := fun g => by
            rw [List.range_succ, List.all_append, hall]
            simp only [List.all_cons, List.all_nil]
            rw [getDx hen, okAt_end g g2 g7]; rfl
          (conv=>arg 2;whnf)
          refine wp_leaf (loop_exit ?_)
          (conv=>arg 2;whnf);refine wp_load (cs := elC e) 0 rfl rfl ?_
          (conv=>arg 2;whnf);refine wp_pcallV (.cons (.refl _) (.cons zero_vle .nil)) fs ?_
          (conv=>arg 2;whnf);refine wp_ite (fun g9 => ?_) (fun g9 => ?_)
          · have g9 : zeroB e.cond = false := by simpa using g9
            (conv=>arg 2;whnf);refine wp_load (cs := elC e) 0 rfl rfl ?_
            (conv=>arg 2;whnf);refine wp_pcall fi ?_
            (conv=>arg 2;whnf);refine wp_ite (fun g10 => ?_) (fun g10 => ?_)
            · have g10 : isExB e.cond = false := by simpa using g10
              (conv=>arg 2;whnf)
              refine wp_leaf (loop_ret ?_)
              (conv=>arg 2;whnf);refine w_retp rfl (Vle.eq (cBool (isPa_el hen (okAt_el (by rw [hend, g9, g10]; rfl))).symm))
            · have g10 : isExB e.cond = true := by simpa using g10
              (conv=>arg 2;whnf)
              refine wp_leaf (loop_next (p.els.length - (n + 1)) _ _ (by omega) (.cons (.refl _) (.cons (.refl _) (.cons (Vle.inc n rfl (by omega)) (.nil _)))) (List.nil_sublist _) ⟨n + 1, rfl, h, rfl, next (by rw [hend, g9, g10]; rfl), rfl⟩)
          · have g9 : zeroB e.cond = true := by simpa using g9
            (repeat ((conv=>arg 2;whnf);first|refine wp_it rfl ?_|refine wp_if rfl ?_))
            (conv=>arg 2;whnf)
            refine wp_leaf (loop_next (p.els.length - (n + 1)) _ _ (by omega) (.cons (.refl _) (.cons (.refl _) (.cons (Vle.inc n rfl (by omega)) (.nil _)))) (List.nil_sublist _) ⟨n + 1, rfl, h, rfl, next (by rw [hend, g9]; rfl), rfl⟩)
    · have h : n = p.els.length := by have := of_decide_eq_false h; omega
      subst h
      (conv=>arg 2;whnf)
      refine wp_leaf (loop_exit ?_)
      (conv=>arg 2;whnf);refine w_retp rfl (Vle.eq (cBool (isPa_end h1 h2 h3 h4 h5 h6 h7 hall).symm))
  · have hq : p.by_ = [] := Classical.byContradiction fun e => by
      have := (nilS_ne (l := p.by_)).symm.trans hq
      rw [decide_eq_false e] at this; cases this
    have h7 : p.by_ = [] ∨ isNm p.by_ = true := .inl hq
    (repeat ((conv=>arg 2;whnf);first|refine wp_it rfl ?_|refine wp_if rfl ?_))
    (conv=>arg 2;whnf);refine wp_elem 0 (.agg (elC e0)) rfl (els_at he0) (Vle.refl _) ?_
    (conv=>arg 2;whnf);refine wp_ite (fun h3 => ?_) (fun h3 => ?_)
    · have h3 : ntAt p.els 0 = true := (ntAt_of he0).trans h3
      (repeat ((conv=>arg 2;whnf);first|refine wp_it rfl ?_|refine wp_if rfl ?_))
      (conv=>arg 2;whnf);refine w_retp rfl (Vle.eq (cBool (isPa_first h3).symm))
    have h3 : ntAt p.els 0 = false := (ntAt_of he0).trans h3
    (conv=>arg 2;whnf);refine wp_elem (p.els.length - 1) (.agg (elC e1)) ws (els_at he1) (Vle.refl _) ?_
    (conv=>arg 2;whnf);refine wp_ite (fun h4 => ?_) (fun h4 => ?_)
    · have h4 : ntAt p.els (p.els.length - 1) = true := (ntAt_of he1).trans h4
      (repeat ((conv=>arg 2;whnf);first|refine wp_it rfl ?_|refine wp_if rfl ?_))
      (conv=>arg 2;whnf);refine w_retp rfl (Vle.eq (cBool (isPa_last h4).symm))
    have h4 : ntAt p.els (p.els.length - 1) = false := (ntAt_of he1).trans h4
    (conv=>arg 2;whnf);refine wp_loop (fun m fr R => ∃ n : Nat, m = p.els.length - n ∧ n ≤ p.els.length ∧ R = [] ∧ ((List.range n).all fun i => okAtB p.els i (p.els.getD i el0)) = true ∧ fr = frL [(1, .pt (some 4) (.agg (paC p)) 0), (3, i64V p.els.length), (4, i64V n)])
      p.els.length _ _ (.cons (.refl _) (.cons (Vle.eq ?_) (.cons (.refl _) (.nil _)))) (List.Sublist.refl _) ⟨0, rfl, Nat.zero_le _, rfl, rfl, rfl⟩ ?_
    · show V.c (.int .i64 (p.els.map elV).length) = _
      rw [List.length_map]; rfl
    rintro m fr R ⟨n, rfl, hn, rfl, hall, rfl⟩
    (conv=>arg 2;whnf);refine wp_ite (fun h => ?_) (fun h => ?_)
    · have h : n < p.els.length := by have := of_decide_eq_true h; omega
      obtain ⟨e, hen⟩ : ∃ e, p.els[n]? = some e := ⟨_, List.getElem?_eq_getElem h⟩
      have hbd := he e (List.mem_of_getElem? hen)
      obtain ⟨ba, bl, bt, bx⟩ := hbd
      have fn := refname_call e.al (by omega)
      have fa := alias_call p.els e.al (by omega)
      have fr := refrise_call e.ty (by omega)
      have fs := refsame0_call e.cond bx.kids
      have fi := refisexpr_call e.cond bx.1 bx.2.1 bx.2.2.2
      rw [isEx_same] at fi
      (conv=>arg 2;whnf);refine wp_elem n (.agg (elC e)) rfl (els_at hen) (Vle.refl _) ?_
      (conv=>arg 2;whnf);refine wp_allocE elZ rfl fun b => ?_
      (conv=>arg 2;whnf);refine wp_storeE (cs := elZ) 0 0 (elC e) rfl rfl (VleL.refl _) (Nat.le_refl _) rfl (R' := [.obj b (elC e)]) rfl ?_
      (conv=>arg 2;whnf);refine wp_load (cs := elC e) 0 rfl rfl ?_
      (conv=>arg 2;whnf);refine wp_pcall fn ?_
      (conv=>arg 2;whnf);refine wp_ite (fun g1 => ?_) (fun g1 => ?_)
      · have g1 : isNm e.al = false := by simpa using g1
        (repeat ((conv=>arg 2;whnf);first|refine wp_it rfl ?_|refine wp_if rfl ?_))
        (conv=>arg 2;whnf)
        refine wp_leaf (loop_ret ?_)
        (conv=>arg 2;whnf);refine w_retp rfl (Vle.eq (cBool (isPa_el hen (okAt_el (isEl_name g1))).symm))
      have g1 : isNm e.al = true := by simpa using g1
      (conv=>arg 2;whnf);refine wp_load (cs := elC e) 0 rfl rfl ?_
      (conv=>arg 2;whnf);refine wp_pcall fa ?_
      (conv=>arg 2;whnf);refine wp_ite (fun g2 => ?_) (fun g2 => ?_)
      · have g2 : aliasI p.els e.al ≠ n := by simpa using g2
        have g2 : twiceB p.els n e.al = true := by
          cases ht : twiceB p.els n e.al with
          | true => rfl
          | false => exact (g2 ((aliasI_iff hen).2 ht)).elim
        (repeat ((conv=>arg 2;whnf);first|refine wp_it rfl ?_|refine wp_if rfl ?_))
        (conv=>arg 2;whnf)
        refine wp_leaf (loop_ret ?_)
        (conv=>arg 2;whnf);refine w_retp rfl (Vle.eq (cBool (isPa_el hen (okAt_twice g2)).symm))
      have g2 : aliasI p.els e.al = n := by simpa using g2
      have g2 : twiceB p.els n e.al = false := (aliasI_iff hen).1 g2
      (conv=>arg 2;whnf);refine wp_load (cs := elC e) 0 rfl rfl ?_
      (conv=>arg 2;whnf);refine wp_ite (fun g3 => ?_) (fun g3 => ?_)
      · have g3 : e.ty.length < 1 := by have := of_decide_eq_true g3; rw [List.length_map] at this; omega
        (repeat ((conv=>arg 2;whnf);first|refine wp_it rfl ?_|refine wp_if rfl ?_))
        (conv=>arg 2;whnf)
        refine wp_leaf (loop_ret ?_)
        (conv=>arg 2;whnf);refine w_retp rfl (Vle.eq (cBool (isPa_el hen (okAt_el (isEl_few g3))).symm))
      have g3 : 1 ≤ e.ty.length := by have := of_decide_eq_false g3; rw [List.length_map] at this; omega
      (conv=>arg 2;whnf);refine wp_load (cs := elC e) 0 rfl rfl ?_
      (conv=>arg 2;whnf);refine wp_ite (fun g4 => ?_) (fun g4 => ?_)
      · have g4 : 3 < e.ty.length := by have := of_decide_eq_true g4; rw [List.length_map] at this; omega
        (repeat ((conv=>arg 2;whnf);first|refine wp_it rfl ?_|refine wp_if rfl ?_))
        (conv=>arg 2;whnf)
        refine wp_leaf (loop_ret ?_)
        (conv=>arg 2;whnf);refine w_retp rfl (Vle.eq (cBool (isPa_el hen (okAt_el (isEl_many g4))).symm))
      have g4 : e.ty.length ≤ 3 := by have := of_decide_eq_false g4; rw [List.length_map] at this; omega
      (conv=>arg 2;whnf);refine wp_load (cs := elC e) 0 rfl rfl ?_
      (conv=>arg 2;whnf);refine wp_pcall fr ?_
      (conv=>arg 2;whnf);refine wp_ite (fun g5 => ?_) (fun g5 => ?_)
      · have g5 : riseB e.ty = false := by simpa using g5
        (repeat ((conv=>arg 2;whnf);first|refine wp_it rfl ?_|refine wp_if rfl ?_))
        (conv=>arg 2;whnf)
        refine wp_leaf (loop_ret ?_)
        (conv=>arg 2;whnf);refine w_retp rfl (Vle.eq (cBool (isPa_el hen (okAt_el (isEl_rise g5))).symm))
      have g5 : riseB e.ty = true := by simpa using g5
      have pf : e.plus = false → (e.plus && e.nt) = false := fun h => by rw [h, Bool.false_and]
      have nf : e.nt = false → (e.plus && e.nt) = false := fun h => by rw [h, Bool.and_false]
      have nf' : e.nt = false → (e.nt && (decide (0 < n) && ntAt p.els (n - 1))) = false := fun h => by rw [h, Bool.false_and]
      have n0f : ¬ 0 < n → (e.nt && (decide (0 < n) && ntAt p.els (n - 1))) = false := fun h => by rw [decide_eq_false h]; simp
      have pvf : ntAt p.els (n - 1) = false → (e.nt && (decide (0 < n) && ntAt p.els (n - 1))) = false := fun h => by rw [h]; simp
      have nqt : e.nt = false → e.nt = true → False := fun h h' => by rw [h] at h'; cases h'
      have i0 : decide ((n : Int) > 0) = false → ¬ 0 < n := fun h => by have := of_decide_eq_false h; omega
      have i1 : decide ((n : Int) > 0) = true → 0 < n := fun h => by have := of_decide_eq_true h; omega
      have wsn : 0 < n → IntKind.i64.wrap ((n : Int) - 1) = ((n - 1 : Nat) : Int) := fun h => wsub (by omega : ((n : Nat) : Int) - 1 = ((n - 1 : Nat) : Int)) (by omega) (by omega)
      have hy : 0 < n → p.els[n - 1]? = some (p.els.getD (n - 1) el0) := fun h0 => by
        have hx : p.els[n - 1]? = some p.els[n - 1] := List.getElem?_eq_getElem (by omega)
        rw [getDx hx]; exact hx
      apply @wp_joinT _ ((e.plus && e.nt) = false → (e.nt && (decide (0 < n) && ntAt p.els (n - 1))) = false → _)
      case h1 =>
        intro rest
        (conv=>arg 2;whnf);refine wp_load (cs := elC e) 0 rfl rfl ?_
        (conv=>arg 2;whnf);refine wp_ite (fun hp => ?_) (fun hp => ?_)
        · (conv=>arg 2;whnf);refine wp_load (cs := elC e) 0 rfl rfl ?_
          (conv=>arg 2;whnf);refine wp_ite (fun hq => ?_) (fun hq => ?_)
          · have hp : e.plus = true := hp
            have hq : e.nt = true := hq
            (repeat ((conv=>arg 2;whnf);first|refine wp_it rfl ?_|refine wp_if rfl ?_))
            (conv=>arg 2;whnf)
            refine wp_leaf (loop_ret ?_)
            (conv=>arg 2;whnf);refine w_retp rfl (Vle.eq (cBool (isPa_el hen (okAt_el (isEl_both hp hq))).symm))
          · have hq : e.nt = false := hq
            (repeat ((conv=>arg 2;whnf);first|refine wp_it rfl ?_|refine wp_if rfl ?_))
            (conv=>arg 2;whnf);refine wp_ite (fun h0 => ?_) (fun h0 => ?_)
            · (conv=>arg 2;whnf);refine wp_load (cs := elC e) 0 rfl rfl ?_
              (conv=>arg 2;whnf);refine wp_ite (fun hq' => (nqt hq hq').elim) (fun _ => ?_)
              (repeat ((conv=>arg 2;whnf);first|refine wp_it rfl ?_|refine wp_if rfl ?_))
              (conv=>arg 2;whnf)
              exact wp_cutR (frL [(1, .pt (some 4) (.agg (paC p)) 0), (3, i64V p.els.length), (4, i64V n), (5, .loc b 0)]) [.obj b (elC e)] (.cons (.refl _) (.cons (.refl _) (.cons (.refl _) (.cons (.refl _) (.nil _))))) (List.Sublist.refl _) (rest (nf hq) (nf' hq))
            · (repeat ((conv=>arg 2;whnf);first|refine wp_it rfl ?_|refine wp_if rfl ?_))
              (conv=>arg 2;whnf)
              exact wp_cutR (frL [(1, .pt (some 4) (.agg (paC p)) 0), (3, i64V p.els.length), (4, i64V n), (5, .loc b 0)]) [.obj b (elC e)] (.cons (.refl _) (.cons (.refl _) (.cons (.refl _) (.cons (.refl _) (.nil _))))) (List.Sublist.refl _) (rest (nf hq) (nf' hq))
        · have hp : e.plus = false := hp
          (repeat ((conv=>arg 2;whnf);first|refine wp_it rfl ?_|refine wp_if rfl ?_))
          (conv=>arg 2;whnf);refine wp_ite (fun h0 => ?_) (fun h0 => ?_)
          · (conv=>arg 2;whnf);refine wp_load (cs := elC e) 0 rfl rfl ?_
            (conv=>arg 2;whnf);refine wp_ite (fun hq => ?_) (fun hq => ?_)
            · have hq : e.nt = true := hq
              (conv=>arg 2;whnf);refine wp_elem (n - 1) (.agg (elC (p.els.getD (n - 1) el0))) (wsn (i1 h0)) (els_at (hy (i1 h0))) (Vle.refl _) ?_
              (conv=>arg 2;whnf);refine wp_ite (fun hz => ?_) (fun hz => ?_)
              · have hz : ntAt p.els (n - 1) = true := (ntAt_of (hy (i1 h0))).trans hz
                (repeat ((conv=>arg 2;whnf);first|refine wp_it rfl ?_|refine wp_if rfl ?_))
                (conv=>arg 2;whnf)
                refine wp_leaf (loop_ret ?_)
                (conv=>arg 2;whnf);refine w_retp rfl (Vle.eq (cBool (isPa_el hen (okAt_nt hq (i1 h0) hz)).symm))
              · have hz : ntAt p.els (n - 1) = false := (ntAt_of (hy (i1 h0))).trans hz
                (repeat ((conv=>arg 2;whnf);first|refine wp_it rfl ?_|refine wp_if rfl ?_))
                (conv=>arg 2;whnf)
                exact wp_cutR (frL [(1, .pt (some 4) (.agg (paC p)) 0), (3, i64V p.els.length), (4, i64V n), (5, .loc b 0)]) [.obj b (elC e)] (.cons (.refl _) (.cons (.refl _) (.cons (.refl _) (.cons (.refl _) (.nil _))))) (List.Sublist.refl _) (rest (pf hp) (pvf hz))
            · have hq : e.nt = false := hq
              (repeat ((conv=>arg 2;whnf);first|refine wp_it rfl ?_|refine wp_if rfl ?_))
              (conv=>arg 2;whnf)
              exact wp_cutR (frL [(1, .pt (some 4) (.agg (paC p)) 0), (3, i64V p.els.length), (4, i64V n), (5, .loc b 0)]) [.obj b (elC e)] (.cons (.refl _) (.cons (.refl _) (.cons (.refl _) (.cons (.refl _) (.nil _))))) (List.Sublist.refl _) (rest (pf hp) (nf' hq))
          · (repeat ((conv=>arg 2;whnf);first|refine wp_it rfl ?_|refine wp_if rfl ?_))
            (conv=>arg 2;whnf)
            exact wp_cutR (frL [(1, .pt (some 4) (.agg (paC p)) 0), (3, i64V p.els.length), (4, i64V n), (5, .loc b 0)]) [.obj b (elC e)] (.cons (.refl _) (.cons (.refl _) (.cons (.refl _) (.cons (.refl _) (.nil _))))) (List.Sublist.refl _) (rest (pf hp) (n0f (i0 h0)))
      case rest =>
        intro g6 g7
        (conv=>arg 2;whnf);refine wp_loop (fun m fr R => ∃ k : Nat, m = e.ty.length - k ∧ k ≤ e.ty.length ∧ R = [.obj b (elC e)] ∧ (e.ty.take k).all isNm = true ∧ fr = frL [(1, .pt (some 4) (.agg (paC p)) 0), (3, i64V p.els.length), (4, i64V n), (5, .loc b 0), (6, i64V k)])
          e.ty.length _ _ (.cons (.refl _) (.cons (.refl _) (.cons (.refl _) (.cons (.refl _) (.cons (.refl _) (.nil _)))))) (List.Sublist.refl _) ⟨0, rfl, Nat.zero_le _, rfl, rfl, rfl⟩ ?_
        rintro m fr R ⟨k, rfl, hk, rfl, hnm, rfl⟩
        (conv=>arg 2;whnf);refine wp_load (cs := elC e) 0 rfl rfl ?_
        (conv=>arg 2;whnf);refine wp_ite (fun hk1 => ?_) (fun hk1 => ?_)
        · have hk1 : k < e.ty.length := by have := of_decide_eq_true hk1; rw [List.length_map] at this; omega
          obtain ⟨t, htk⟩ : ∃ t, e.ty[k]? = some t := ⟨_, List.getElem?_eq_getElem hk1⟩
          have hm := List.mem_of_getElem? htk
          have fn := refname_call t (by have := bt t hm; omega)
          (conv=>arg 2;whnf);refine wp_load (cs := elC e) 0 rfl rfl ?_
          (conv=>arg 2;whnf);refine wp_elem k (str t) rfl (by rw [List.getElem?_map, htk]; rfl) (Vle.refl _) ?_
          (conv=>arg 2;whnf);refine wp_pcall fn ?_
          (conv=>arg 2;whnf);refine wp_ite (fun g8 => ?_) (fun g8 => ?_)
          · have g8 : isNm t = false := by simpa using g8
            (conv=>arg 2;whnf)
            refine wp_leaf (loop_ret ?_)
            (conv=>arg 2;whnf)
            refine wp_leaf (loop_ret ?_)
            (conv=>arg 2;whnf);refine w_retp rfl (Vle.eq (cBool (isPa_el hen (okAt_el (isEl_ty hm g8))).symm))
          · have g8 : isNm t = true := by simpa using g8
            (conv=>arg 2;whnf)
            refine wp_leaf (loop_next (e.ty.length - (k + 1)) _ _ (by omega) (.cons (.refl _) (.cons (.refl _) (.cons (.refl _) (.cons (.refl _) (.cons (Vle.inc k rfl (by omega)) (.nil _)))))) (List.Sublist.refl _) ⟨k + 1, rfl, hk1, rfl, ?_, rfl⟩)
            rw [List.take_add_one, htk, List.all_append, hnm]
            simp [g8]
        · have hk1 : k = e.ty.length := by have := of_decide_eq_false hk1; rw [List.length_map] at this; omega
          subst hk1
          rw [List.take_length] at hnm
          have hend := isEl_end g1 g3 g4 g5 g6 hnm
          have next : isElB e = true → ((List.range (n + 1)).all fun i => okAtB p.els i (p.els.getD i el0)) = true := fun g => by
            rw [List.range_succ, List.all_append, hall]
            simp only [List.all_cons, List.all_nil]
            rw [getDx hen, okAt_end g g2 g7]; rfl
          (conv=>arg 2;whnf)
          refine wp_leaf (loop_exit ?_)
          (conv=>arg 2;whnf);refine wp_load (cs := elC e) 0 rfl rfl ?_
          (conv=>arg 2;whnf);refine wp_pcallV (.cons (.refl _) (.cons zero_vle .nil)) fs ?_
          (conv=>arg 2;whnf);refine wp_ite (fun g9 => ?_) (fun g9 => ?_)
          · have g9 : zeroB e.cond = false := by simpa using g9
            (conv=>arg 2;whnf);refine wp_load (cs := elC e) 0 rfl rfl ?_
            (conv=>arg 2;whnf);refine wp_pcall fi ?_
            (conv=>arg 2;whnf);refine wp_ite (fun g10 => ?_) (fun g10 => ?_)
            · have g10 : isExB e.cond = false := by simpa using g10
              (conv=>arg 2;whnf)
              refine wp_leaf (loop_ret ?_)
              (conv=>arg 2;whnf);refine w_retp rfl (Vle.eq (cBool (isPa_el hen (okAt_el (by rw [hend, g9, g10]; rfl))).symm))
            · have g10 : isExB e.cond = true := by simpa using g10
              (conv=>arg 2;whnf)
              refine wp_leaf (loop_next (p.els.length - (n + 1)) _ _ (by omega) (.cons (.refl _) (.cons (.refl _) (.cons (Vle.inc n rfl (by omega)) (.nil _)))) (List.nil_sublist _) ⟨n + 1, rfl, h, rfl, next (by rw [hend, g9, g10]; rfl), rfl⟩)
          · have g9 : zeroB e.cond = true := by simpa using g9
            (repeat ((conv=>arg 2;whnf);first|refine wp_it rfl ?_|refine wp_if rfl ?_))
            (conv=>arg 2;whnf)
            refine wp_leaf (loop_next (p.els.length - (n + 1)) _ _ (by omega) (.cons (.refl _) (.cons (.refl _) (.cons (Vle.inc n rfl (by omega)) (.nil _)))) (List.nil_sublist _) ⟨n + 1, rfl, h, rfl, next (by rw [hend, g9]; rfl), rfl⟩)
    · have h : n = p.els.length := by have := of_decide_eq_false h; omega
      subst h
      (conv=>arg 2;whnf)
      refine wp_leaf (loop_exit ?_)
      (conv=>arg 2;whnf);refine w_retp rfl (Vle.eq (cBool (isPa_end h1 h2 h3 h4 h5 h6 h7 hall).symm))
end Go.Sv
namespace Go.Sv
open Go Go.Proofs
def fkOk (s : Sc) (x : El) (f : List UInt8) : Bool := x.ty.all fun t => match findT s t with
  | none => false
  | some ty => decide (0 ≤ fieldI ty f)
def fkAt (s : Sc) (f t : List UInt8) : Int := match findT s t with
  | none => 0
  | some ty => (ty.flds.getD (fieldI ty f).toNat fd0).kind
def fkSame (s : Sc) (x : El) (f : List UInt8) : Bool := (List.range x.ty.length).all fun i => decide (i = 0) || decide (fkAt s f (x.ty.getD i []) = fkAt s f (x.ty.getD (i - 1) []))
def fieldKindE (s : Sc) (x : El) (f : List UInt8) : Int × Int :=
  if fkOk s x f then (if fkSame s x f then ((if x.ty = [] then 0 else fkAt s f (x.ty.getD (x.ty.length - 1) [])), 0) else (0, 14)) else (0, 13)
def pairI (x : Int × Int) : V := .tup [i64V x.1, i64V x.2]
theorem fd_at {t : Ty} {f : List UInt8} (h : 0 ≤ fieldI t f) : ∃ fd, t.flds[(fieldI t f).toNat]? = some fd ∧ t.flds.getD (fieldI t f).toNat fd0 = fd := by
  unfold fieldI idxI at h ⊢
  split
  · rename_i ha
    obtain ⟨y, h1, _, _⟩ := idx_get ha
    exact ⟨y, by simpa using h1, getD_at (by simpa using h1)⟩
  · rename_i ha
    rw [if_neg ha] at h
    omega
set_option maxRecDepth 100000 in
set_option maxHeartbeats 2000000 in
theorem rfieldkind_call (s : Sc) (hs : ScOk s) (x : El) (hx : x.ty.length < 2 ^ 60) (f : List UInt8) : PCall Tryz.prog 25 [scV s, .agg (elC x), str f] (pairI (fieldKindE s x f)) := by
  refine scall_of (live := []) (ords := [(6, []), (9, []), (13, [])]) Tryz.func25 rfl (by kernel_rfl) (by kernel_rfl) (Nat.le_of_ble_eq_true rfl) ?_
  (conv=>arg 2;whnf);refine wp_loop (fun m fr R => ∃ n : Nat, m = x.ty.length - n ∧ n ≤ x.ty.length ∧ R = [] ∧ (x.ty.take n).all (fun t => match findT s t with | none => false | some ty => decide (0 ≤ fieldI ty f)) = true ∧ fr = frL [(2, str f), (3, .pt (some 1) (scV s) 0), (4, .pt (some 11) (.agg (elC x)) 0), (8, i64V 0), (9, i64V n)])
    x.ty.length _ _ (.cons (.refl _) (.cons (.refl _) (.cons (.refl _) (.cons (.refl _) (.cons (.refl _) (.nil _)))))) (List.Sublist.refl _) ⟨0, rfl, Nat.zero_le _, rfl, rfl, rfl⟩ ?_
  rintro m fr R ⟨n, rfl, hn, rfl, ha, rfl⟩
  (conv=>arg 2;whnf);refine wp_ite (fun h => ?_) (fun h => ?_)
  · have h : n < x.ty.length := by
      have := of_decide_eq_true h
      rw [List.length_map] at this; omega
    obtain ⟨t, ht⟩ : ∃ t, x.ty[n]? = some t := ⟨_, List.getElem?_eq_getElem h⟩
    have f1 := rfind_call s hs.1 t
    have hmiss : (match findT s t with | none => false | some ty => decide (0 ≤ fieldI ty f)) = false → fieldKindE s x f = (0, 13) := fun e => by
      rw [fieldKindE, show fkOk s x f = false from all_miss ht e]; rfl
    cases hf : findT s t with
    | none =>
      rw [hf] at f1
      have hr := hmiss (by rw [hf])
      have f2 := rfield_call ty0 (by decide) f
      rw [hr]
      (conv=>arg 2;whnf);refine wp_elem n (str t) rfl (strs_at ht) (Vle.refl _) ?_
      (conv=>arg 2;whnf);refine wp_pc f1 ?_
      (conv=>arg 2;whnf);refine wp_allocE tyZ rfl fun d => ?_
      (conv=>arg 2;whnf);refine wp_storeE (cs := tyZ) 0 0 (tyC ty0) rfl rfl (VleL.refl _) (Nat.le_refl _) rfl (R' := [.obj d (tyC ty0)]) rfl ?_
      (conv=>arg 2;whnf)
      refine wp_cutP (frL [(2, str f), (10, .pt (some 2) (tyV ty0) 0), (11, bV false)]) [] [.obj d (tyC ty0)] (.cons (.refl _) (.cons (.all (List.Mem.head _) rfl (by decide) (VleL.refl _)) (.cons (.refl _) (.nil _)))) ?_
      (conv=>arg 2;whnf);refine wp_pcall f2 ?_
      (repeat ((conv=>arg 2;whnf);first|refine wp_it rfl ?_|refine wp_if rfl ?_))
      (conv=>arg 2;whnf)
      refine wp_leaf (loop_ret ?_)
      (conv=>arg 2;whnf);refine w_ret2 rfl (Vle.refl _) (Vle.refl _) (List.nil_sublist _) rfl
    | some ty =>
      rw [hf] at f1
      have f2 := rfield_call ty (hs.2 ty (findT_mem hf)) f
      (conv=>arg 2;whnf);refine wp_elem n (str t) rfl (strs_at ht) (Vle.refl _) ?_
      (conv=>arg 2;whnf);refine wp_pc f1 ?_
      (conv=>arg 2;whnf);refine wp_allocE tyZ rfl fun d => ?_
      (conv=>arg 2;whnf);refine wp_storeE (cs := tyZ) 0 0 (tyC ty) rfl rfl (VleL.refl _) (Nat.le_refl _) rfl (R' := [.obj d (tyC ty)]) rfl ?_
      (conv=>arg 2;whnf)
      refine wp_cutP (frL [(2, str f), (3, .pt (some 1) (scV s) 0), (4, .pt (some 11) (.agg (elC x)) 0), (8, i64V 0), (9, i64V n), (10, .pt (some 2) (tyV ty) 0), (11, bV true)]) [] [.obj d (tyC ty)] (.cons (.refl _) (.cons (.refl _) (.cons (.refl _) (.cons (.refl _) (.cons (.refl _) (.cons (.all (List.Mem.head _) rfl (by decide) (VleL.refl _)) (.cons (.refl _) (.nil _)))))))) ?_
      (conv=>arg 2;whnf);refine wp_pcall f2 ?_
      (repeat ((conv=>arg 2;whnf);first|refine wp_it rfl ?_|refine wp_if rfl ?_))
      (conv=>arg 2;whnf);refine wp_ite (fun h1 => ?_) (fun h1 => ?_)
      · have h1 : decide (0 ≤ fieldI ty f) = false := decide_eq_false (by have := of_decide_eq_true h1; omega)
        have hr := hmiss (by rw [hf]; exact h1)
        rw [hr]
        (conv=>arg 2;whnf)
        refine wp_leaf (loop_ret ?_)
        (conv=>arg 2;whnf);refine w_ret2 rfl (Vle.refl _) (Vle.refl _) (List.nil_sublist _) rfl
      · have h1 : decide (0 ≤ fieldI ty f) = true := decide_eq_true (by have := of_decide_eq_false h1; omega)
        have hn' : (x.ty.take (n + 1)).all (fun t => match findT s t with | none => false | some ty => decide (0 ≤ fieldI ty f)) = true := all_next ha ht (by rw [hf]; exact h1)
        (conv=>arg 2;whnf)
        exact wp_leaf (loop_next (x.ty.length - (n + 1)) _ [] (by omega) (.cons (.refl _) (.cons (.refl _) (.cons (.refl _) (.cons (.refl _) (.cons (Vle.inc n rfl (by omega)) (.nil _)))))) (List.Sublist.refl _) ⟨n + 1, rfl, h, rfl, hn', rfl⟩)
  · have h : n = x.ty.length := by
      have := of_decide_eq_false h
      rw [List.length_map] at this; omega
    rw [h, List.take_length] at ha
    have hall : ∀ t ∈ x.ty, ∃ ty, findT s t = some ty ∧ 0 ≤ fieldI ty f := fun t ht => by
      have := List.all_eq_true.1 ha t ht
      cases hf : findT s t with
      | none => rw [hf] at this; cases this
      | some ty => rw [hf] at this; exact ⟨ty, rfl, of_decide_eq_true this⟩
    have hr : fieldKindE s x f = if fkSame s x f then ((if x.ty = [] then 0 else fkAt s f (x.ty.getD (x.ty.length - 1) [])), 0) else (0, 14) := by
      rw [fieldKindE, if_pos (show fkOk s x f = true from ha)]
    rw [hr]
    clear h hn ha hr
    (conv=>arg 2;whnf)
    refine wp_leaf (loop_exit ?_)
    refine wp_cutR (frL [(2, str f), (3, .pt (some 1) (scV s) 0), (4, .pt (some 11) (.agg (elC x)) 0), (8, i64V 0)]) [] (.cons (.refl _) (.cons (.refl _) (.cons (.refl _) (.cons (.refl _) (.nil _))))) (List.nil_sublist _) ?_
    (conv=>arg 2;whnf);refine wp_loop (fun m fr R => ∃ n : Nat, m = x.ty.length - n ∧ n ≤ x.ty.length ∧ R = [] ∧ (List.range n).all (fun i => decide (i = 0) || decide (fkAt s f (x.ty.getD i []) = fkAt s f (x.ty.getD (i - 1) []))) = true ∧ fr = frL [(2, str f), (3, .pt (some 1) (scV s) 0), (4, .pt (some 11) (.agg (elC x)) 0), (8, i64V (if n = 0 then 0 else fkAt s f (x.ty.getD (n - 1) []))), (13, i64V n)])
      x.ty.length _ _ (.cons (.refl _) (.cons (.refl _) (.cons (.refl _) (.cons (.refl _) (.cons (.refl _) (.nil _)))))) (List.Sublist.refl _) ⟨0, rfl, Nat.zero_le _, rfl, rfl, rfl⟩ ?_
    rintro m fr R ⟨n, rfl, hn, rfl, ha, rfl⟩
    (conv=>arg 2;whnf);refine wp_ite (fun h => ?_) (fun h => ?_)
    · have h : n < x.ty.length := by
        have := of_decide_eq_true h
        rw [List.length_map] at this; omega
      obtain ⟨t, ht⟩ : ∃ t, x.ty[n]? = some t := ⟨_, List.getElem?_eq_getElem h⟩
      obtain ⟨ty, hf, h0⟩ := hall t (List.mem_of_getElem? ht)
      obtain ⟨fd, hfd, hfd2⟩ := fd_at h0
      have f1 := rfind_call s hs.1 t
      have f2 := rfield_call ty (hs.2 ty (findT_mem hf)) f
      rw [hf] at f1
      have hgt : x.ty.getD n [] = t := getD_at ht
      have hk : fkAt s f (x.ty.getD n []) = fd.kind := by rw [hgt, fkAt, hf]; simp only [hfd2]
      have hidx : fieldI ty f = ((fieldI ty f).toNat : Int) := by omega
      obtain ⟨pk, hpk⟩ : ∃ pk, pk = (if n = 0 then 0 else fkAt s f (x.ty.getD (n - 1) [])) := ⟨_, rfl⟩
      have hstop : (decide (n = 0) || decide (fd.kind = pk)) = false → (if fkSame s x f then ((if x.ty = [] then 0 else fkAt s f (x.ty.getD (x.ty.length - 1) [])), 0) else (0, 14)) = ((0, 14) : Int × Int) := fun e => by
        rw [show fkSame s x f = false from rng_miss h (by
          rw [Bool.or_eq_false_iff] at e ⊢
          refine ⟨e.1, ?_⟩
          rw [hk]
          rw [hpk, if_neg (of_decide_eq_false e.1)] at e
          exact e.2)]
        rfl
      have hgo : (decide (n = 0) || decide (fd.kind = pk)) = true → (List.range (n + 1)).all (fun i => decide (i = 0) || decide (fkAt s f (x.ty.getD i []) = fkAt s f (x.ty.getD (i - 1) []))) = true := fun e => rng_next ha (by
        rw [Bool.or_eq_true] at e ⊢
        by_cases hn0 : n = 0
        · exact .inl (decide_eq_true hn0)
        · refine .inr ?_
          rw [hk]
          have := e.resolve_left (by rw [decide_eq_false hn0]; decide)
          rw [hpk, if_neg hn0] at this
          exact this)
      have hnk : fd.kind = (if n + 1 = 0 then 0 else fkAt s f (x.ty.getD (n + 1 - 1) [])) := by rw [if_neg (by omega), Nat.add_sub_cancel, hk]
      rw [← hpk]
      (conv=>arg 2;whnf);refine wp_elem n (str t) rfl (strs_at ht) (Vle.refl _) ?_
      (conv=>arg 2;whnf);refine wp_pc f1 ?_
      (conv=>arg 2;whnf);refine wp_allocE tyZ rfl fun d => ?_
      (conv=>arg 2;whnf);refine wp_storeE (cs := tyZ) 0 0 (tyC ty) rfl rfl (VleL.refl _) (Nat.le_refl _) rfl (R' := [.obj d (tyC ty)]) rfl ?_
      (conv=>arg 2;whnf)
      refine wp_cutP (frL [(2, str f), (3, .pt (some 1) (scV s) 0), (4, .pt (some 11) (.agg (elC x)) 0), (8, i64V pk), (13, i64V n), (14, .pt (some 2) (tyV ty) 0)]) [] [.obj d (tyC ty)] (.cons (.refl _) (.cons (.refl _) (.cons (.refl _) (.cons (.refl _) (.cons (.refl _) (.cons (.all (List.Mem.head _) rfl (by decide) (VleL.refl _)) (.nil _))))))) ?_
      (conv=>arg 2;whnf);refine wp_pc f2 ?_
      (conv=>arg 2;whnf);refine wp_elem (fieldI ty f).toNat (fdV fd) hidx (fds_at hfd) (Vle.refl _) ?_
      (conv=>arg 2;whnf);refine wp_ite (fun h1 => ?_) (fun h1 => ?_)
      · have h1 : n ≠ 0 := by have := of_decide_eq_true h1; omega
        (conv=>arg 2;whnf);refine wp_ite (fun h2 => ?_) (fun h2 => ?_)
        · have h2 : fd.kind ≠ pk := bne_iff_ne.1 h2
          have hr := hstop (by rw [decide_eq_false h1, decide_eq_false h2]; rfl)
          rw [hr]
          (conv=>arg 2;whnf)
          refine wp_leaf (loop_ret ?_)
          (conv=>arg 2;whnf);refine w_ret2 rfl (Vle.refl _) (Vle.refl _) (List.nil_sublist _) rfl
        · have h2 : fd.kind = pk := bne_eq_false_iff_eq.1 h2
          have hn' := hgo (by rw [decide_eq_true h2, Bool.or_true])
          (conv=>arg 2;whnf)
          exact wp_leaf (loop_next (x.ty.length - (n + 1)) _ [] (by omega) (.cons (.refl _) (.cons (.refl _) (.cons (.refl _) (.cons (Vle.of (i64V fd.kind) rfl (congrArg i64V hnk)) (.cons (Vle.inc n rfl (by omega)) (.nil _)))))) (List.Sublist.refl _) ⟨n + 1, rfl, h, rfl, hn', rfl⟩)
      · have h1 : n = 0 := by have := of_decide_eq_false h1; omega
        have hn' := hgo (by rw [decide_eq_true h1, Bool.true_or])
        (repeat ((conv=>arg 2;whnf);first|refine wp_it rfl ?_|refine wp_if rfl ?_))
        (conv=>arg 2;whnf)
        exact wp_leaf (loop_next (x.ty.length - (n + 1)) _ [] (by omega) (.cons (.refl _) (.cons (.refl _) (.cons (.refl _) (.cons (Vle.of (i64V fd.kind) rfl (congrArg i64V hnk)) (.cons (Vle.inc n rfl (by omega)) (.nil _)))))) (List.Sublist.refl _) ⟨n + 1, rfl, h, rfl, hn', rfl⟩)
    · have h : n = x.ty.length := by
        have := of_decide_eq_false h
        rw [List.length_map] at this; omega
      rw [h] at ha
      have hk : (if n = 0 then 0 else fkAt s f (x.ty.getD (n - 1) [])) = (if x.ty = [] then 0 else fkAt s f (x.ty.getD (x.ty.length - 1) [])) := by
        rw [h]
        by_cases he : x.ty = []
        · rw [if_pos he, if_pos (by rw [he]; rfl)]
        · rw [if_neg he, if_neg (fun e => he (List.eq_nil_of_length_eq_zero e))]
      rw [if_pos (show fkSame s x f = true from ha)]
      (conv=>arg 2;whnf)
      refine wp_leaf (loop_exit ?_)
      (conv=>arg 2;whnf);refine w_ret2 rfl (Vle.eq (congrArg i64V hk)) (Vle.refl _) (List.nil_sublist _) rfl
end Go.Sv
namespace Go.Sv
open Go Go.Proofs
def finK (op a b : Int) : Int × Int :=
  if op = 12 ∧ a = 3 then (3, 0) else if op = 12 ∨ a ≠ b then (0, 14) else if op ≤ 5 ∧ a = 1 then (1, 0) else if op = 6 ∨ op = 7 then (3, 0)
  else if (op = 8 ∨ op = 9) ∧ a ≠ 3 then (3, 0) else if (op = 10 ∨ op = 11) ∧ a = 3 then (3, 0) else (0, 14)
def opK (op : Int) (rs : List (Int × Int)) : Int × Int :=
  match rs.find? (fun r => decide (r.2 ≠ 0)) with
  | some r => (0, r.2)
  | none => finK op (rs.getD 0 (0, 0)).1 (rs.getD 1 (0, 0)).1
def kindE (s : Sc) (l : List El) : Nat → Ex → Int × Int
  | 0, _ => (0, 0)
  | k + 1, x => if x.op = 1 then (x.val.kind, 0) else if x.op = 2 then (if aliasI l x.al < 0 then (0, 13) else fieldKindE s (l.getD (aliasI l x.al).toNat el0) x.fd)
    else opK x.op (x.kids.map (kindE s l k))
def kindTop (s : Sc) (l : List El) (x : Ex) : Int × Int := if isExB x then kindE s l 5 x else (0, 10)
theorem alias_at {l : List El} {a : List UInt8} (h : ¬ aliasI l a < 0) : ∃ e, l[(aliasI l a).toNat]? = some e ∧ e ∈ l ∧ aliasI l a = ((aliasI l a).toNat : Int) := by
  unfold aliasI at h ⊢
  split
  · rename_i ha
    obtain ⟨y, h1, _, _⟩ := idx_get ha
    exact ⟨y, by simpa using h1, List.mem_of_getElem? h1, by omega⟩
  · rename_i ha; rw [if_neg ha] at h; omega
def cellK (rs : List (Int × Int)) (i : Nat) : List V := [i64V (if 0 < i then (rs.getD 0 (0, 0)).1 else 0), i64V (if 1 < i then (rs.getD 1 (0, 0)).1 else 0)]
theorem cellK_store {rs : List (Int × Int)} {i : Nat} (h : i < 2) {n e : Int} (hr : rs[i]? = some (n, e)) : splice (cellK rs i) i [i64V n] = cellK rs (i + 1) := by
  match i, h with
  | 0, _ => simp [cellK, splice, List.getD_eq_getElem?_getD, hr]
  | 1, _ => simp [cellK, splice, List.getD_eq_getElem?_getD, hr]
set_option maxRecDepth 100000 in
set_option maxHeartbeats 4000000 in
theorem rkind_kids (s : Sc) (l : List El) (x : Ex) (h1 : x.op ≠ 1) (h2 : x.op ≠ 2) (hk : x.kids.length ≤ 2) (g : Ex → Int × Int) (hg : ∀ y ∈ x.kids, PCall Tryz.prog 47 [scV s, elsV l, .agg (exC y)] (pairI (g y))) :
    PCall Tryz.prog 47 [scV s, elsV l, .agg (exC x)] (pairI (opK x.op (x.kids.map g))) := by
  have e1 : (x.op == 1) = false := by simpa using h1
  have e2 : (x.op == 2) = false := by simpa using h2
  refine scall_of (live := []) (ords := [(16, []), (18, []), (20, []), (22, []), (24, []), (26, []), (28, [])]) Tryz.func47 rfl (by kernel_rfl) (by kernel_rfl) (Nat.le_of_ble_eq_true rfl) ?_
  (conv=>arg 2;whnf);refine wp_if e1 ?_
  (conv=>arg 2;whnf);refine wp_if e2 ?_
  (conv=>arg 2;whnf);refine wp_allocE (cellK (x.kids.map g) 0) rfl fun c => ?_
  (conv=>arg 2;whnf);refine wp_loop (fun m fr R => ∃ n : Nat, m = x.kids.length - n ∧ n ≤ x.kids.length ∧ R = [.obj c (cellK (x.kids.map g) n)] ∧ ((x.kids.map g).take n).any (fun r => decide (r.2 ≠ 0)) = false ∧ fr = frL [(1, elsV l), (3, .pt (some 1) (scV s) 0), (5, .pt (some 7) (.agg (exC x)) 0), (9, .loc c 0), (10, i64V n)])
    x.kids.length _ _ (.cons (.refl _) (.cons (.refl _) (.cons (.refl _) (.cons (.refl _) (.cons (.refl _) (.nil _)))))) (List.Sublist.refl _) ⟨0, rfl, Nat.zero_le _, rfl, rfl, rfl⟩ ?_
  rintro m fr R ⟨n, rfl, hn, rfl, ha, rfl⟩
  (conv=>arg 2;whnf);refine wp_ite (fun h => ?_) (fun h => ?_)
  · have h : n < x.kids.length := by
      have := of_decide_eq_true h
      rw [List.length_map] at this; omega
    obtain ⟨y, hy⟩ : ∃ y, x.kids[n]? = some y := ⟨_, List.getElem?_eq_getElem h⟩
    have hyx : (x.kids.map exV)[n]? = some (.agg (exC y)) := by rw [List.getElem?_map, hy, ← exV_eq]; rfl
    have f1 := hg y (List.mem_of_getElem? hy)
    obtain ⟨n1, e1', hne⟩ : ∃ n1 e1', g y = (n1, e1') := ⟨_, _, rfl⟩
    rw [hne] at f1
    have hrs : (x.kids.map g)[n]? = some (n1, e1') := by rw [List.getElem?_map, hy, ← hne]; rfl
    have hst := cellK_store (rs := x.kids.map g) (i := n) (by omega) hrs
    (conv=>arg 2;whnf);refine wp_elem n (.agg (exC y)) rfl hyx (Vle.refl _) ?_
    (conv=>arg 2;whnf);refine wp_pc f1 ?_
    (conv=>arg 2;whnf);refine wp_ite (fun h3 => ?_) (fun h3 => ?_)
    · have h3 : decide (((n1, e1') : Int × Int).2 ≠ 0) = true := decide_eq_true (bne_iff_ne.1 h3)
      have hr : opK x.op (x.kids.map g) = (0, e1') := by rw [opK, find_hit ha hrs h3]
      rw [hr]
      (conv=>arg 2;whnf)
      refine wp_leaf (loop_ret ?_)
      (conv=>arg 2;whnf);refine w_ret2 rfl (Vle.refl _) (Vle.refl _) (List.nil_sublist _) rfl
    · have h3 : decide (((n1, e1') : Int × Int).2 ≠ 0) = false := decide_eq_false (fun e => e (bne_eq_false_iff_eq.1 h3))
      have hn' := any_next ha hrs h3
      (conv=>arg 2;whnf);refine wp_need ⟨by omega, by omega⟩ ?_
      (conv=>arg 2;whnf);refine wp_storeE (cs := cellK (x.kids.map g) n) 0 n [i64V n1] rfl (by show 0 + n * 1 = n; omega) (VleL.refl _) (by simp [cellK]; omega) rfl (R' := [.obj c (cellK (x.kids.map g) (n + 1))]) (by rw [hst]; rfl) ?_
      (conv=>arg 2;whnf)
      exact wp_leaf (loop_next (x.kids.length - (n + 1)) _ [.obj c (cellK (x.kids.map g) (n + 1))] (by omega) (.cons (.refl _) (.cons (.refl _) (.cons (.refl _) (.cons (.refl _) (.cons (Vle.inc n rfl (by omega)) (.nil _)))))) (List.Sublist.refl _) ⟨n + 1, rfl, h, rfl, hn', rfl⟩)
  · have h : n = x.kids.length := by
      have := of_decide_eq_false h
      rw [List.length_map] at this; omega
    have ha : (x.kids.map g).any (fun r => decide (r.2 ≠ 0)) = false := by
      rw [h, ← List.length_map (f := g), List.take_length] at ha; exact ha
    have hr : opK x.op (x.kids.map g) = finK x.op ((x.kids.map g).getD 0 (0, 0)).1 ((x.kids.map g).getD 1 (0, 0)).1 := by rw [opK, find_none ha]
    obtain ⟨A, hA⟩ : ∃ A, A = ((x.kids.map g).getD 0 (0, 0)).1 := ⟨_, rfl⟩
    obtain ⟨B, hB⟩ : ∃ B, B = ((x.kids.map g).getD 1 (0, 0)).1 := ⟨_, rfl⟩
    have hcell : cellK (x.kids.map g) n = [i64V A, i64V B] := by
      rw [cellK, hA, hB, h, ← List.length_map (f := g)]
      have hz : ∀ j, (if j < (x.kids.map g).length then ((x.kids.map g).getD j (0, 0)).1 else 0) = ((x.kids.map g).getD j (0, 0)).1 := fun j => by
        split
        · rfl
        · rename_i hj
          rw [List.getD_eq_getElem?_getD, List.getElem?_eq_none (by omega)]; rfl
      rw [hz 0, hz 1]
    rw [← hA, ← hB] at hr
    rw [hr, hcell]
    clear hr hcell hA hB ha h hn hg hk
    obtain ⟨op, hop⟩ : ∃ op, op = x.op := ⟨_, rfl⟩
    rw [← hop]
    (conv=>arg 2;whnf)
    refine wp_leaf (loop_exit ?_)
    refine wp_cutR (frL [(5, .pt (some 7) (.agg (exC x)) 0), (9, .loc c 0)]) [.obj c [i64V A, i64V B]] (.cons (.refl _) (.cons (.refl _) (.nil _))) (List.Sublist.refl _) ?_
    by_cases c1 : op = 12 ∧ A = 3
    · have e3 : (x.op == 12) = true := by rw [← hop]; simpa using c1.1
      have e4 : (A == 3) = true := by simpa using c1.2
      rw [finK, if_pos c1]
      (conv=>arg 2;whnf);refine wp_it e3 ?_
      (conv=>arg 2;whnf);refine wp_need (by decide) ?_
      (conv=>arg 2;whnf);refine wp_load (cs := [i64V A, i64V B]) 0 rfl rfl ?_
      (conv=>arg 2;whnf);refine wp_it e4 ?_
      (conv=>arg 2;whnf);refine w_ret2 rfl (Vle.refl _) (Vle.refl _) (List.nil_sublist _) rfl
    rw [finK, if_neg c1]
    apply wp_joinT
    case h1 =>
      intro rest
      (conv=>arg 2;whnf);refine wp_ite (fun h3 => ?_) (fun h3 => ?_)
      · have e4 : (A == 3) = false := by
          have h3 : op = 12 := by rw [hop]; simpa using h3
          have : A ≠ 3 := fun e => c1 ⟨h3, e⟩
          simpa using this
        (conv=>arg 2;whnf);refine wp_need (by decide) ?_
        (conv=>arg 2;whnf);refine wp_load (cs := [i64V A, i64V B]) 0 rfl rfl ?_
        (conv=>arg 2;whnf);refine wp_if e4 ?_
        (conv=>arg 2;whnf)
        exact wp_cutR (frL [(5, .pt (some 7) (.agg (exC x)) 0), (9, .loc c 0)]) [.obj c [i64V A, i64V B]] (.cons (.refl _) (.cons (.refl _) (.nil _))) (List.Sublist.refl _) rest
      · (repeat ((conv=>arg 2;whnf);first|refine wp_it rfl ?_|refine wp_if rfl ?_))
        exact wp_cutR (frL [(5, .pt (some 7) (.agg (exC x)) 0), (9, .loc c 0)]) [.obj c [i64V A, i64V B]] (.cons (.refl _) (.cons (.refl _) (.nil _))) (List.Sublist.refl _) rest
    case rest =>
      by_cases c2 : op = 12 ∨ A ≠ B
      · rw [if_pos c2]
        (conv=>arg 2;whnf);refine wp_ite (fun h3 => ?_) (fun h3 => ?_)
        · (repeat ((conv=>arg 2;whnf);first|refine wp_it rfl ?_|refine wp_if rfl ?_))
          (conv=>arg 2;whnf);refine w_ret2 rfl (Vle.refl _) (Vle.refl _) (List.nil_sublist _) rfl
        · have e4 : (A != B) = true := by
            have h3 : op ≠ 12 := by rw [hop]; simpa using h3
            have := c2.resolve_left h3
            simpa using this
          (conv=>arg 2;whnf);refine wp_need (by decide) ?_
          (conv=>arg 2;whnf);refine wp_load (cs := [i64V A, i64V B]) 0 rfl rfl ?_
          (conv=>arg 2;whnf);refine wp_need (by decide) ?_
          (conv=>arg 2;whnf);refine wp_load (cs := [i64V A, i64V B]) 0 rfl rfl ?_
          (conv=>arg 2;whnf);refine wp_it e4 ?_
          (conv=>arg 2;whnf);refine w_ret2 rfl (Vle.refl _) (Vle.refl _) (List.nil_sublist _) rfl
      rw [if_neg c2]
      have e3 : (x.op == 12) = false := by rw [← hop]; have := fun e => c2 (.inl e); simpa using this
      have e4 : (A != B) = false := by have := fun e => c2 (.inr e); simpa using this
      (conv=>arg 2;whnf);refine wp_if e3 ?_
      (conv=>arg 2;whnf);refine wp_need (by decide) ?_
      (conv=>arg 2;whnf);refine wp_load (cs := [i64V A, i64V B]) 0 rfl rfl ?_
      (conv=>arg 2;whnf);refine wp_need (by decide) ?_
      (conv=>arg 2;whnf);refine wp_load (cs := [i64V A, i64V B]) 0 rfl rfl ?_
      (conv=>arg 2;whnf);refine wp_if e4 ?_
      (conv=>arg 2;whnf)
      refine wp_cutR (frL [(5, .pt (some 7) (.agg (exC x)) 0), (9, .loc c 0)]) [.obj c [i64V A, i64V B]] (.cons (.refl _) (.cons (.refl _) (.nil _))) (List.Sublist.refl _) ?_
      by_cases c3 : op ≤ 5 ∧ A = 1
      · have e3 : decide (x.op ≤ 5) = true := by rw [← hop]; exact decide_eq_true c3.1
        have e4 : (A == 1) = true := by simpa using c3.2
        rw [if_pos c3]
        (conv=>arg 2;whnf);refine wp_it e3 ?_
        (conv=>arg 2;whnf);refine wp_need (by decide) ?_
        (conv=>arg 2;whnf);refine wp_load (cs := [i64V A, i64V B]) 0 rfl rfl ?_
        (conv=>arg 2;whnf);refine wp_it e4 ?_
        (conv=>arg 2;whnf);refine w_ret2 rfl (Vle.refl _) (Vle.refl _) (List.nil_sublist _) rfl
      rw [if_neg c3]
      apply wp_joinT
      case h1 =>
        intro rest
        (conv=>arg 2;whnf);refine wp_ite (fun h3 => ?_) (fun h3 => ?_)
        · have e4 : (A == 1) = false := by
            have h3 : op ≤ 5 := by rw [hop]; exact of_decide_eq_true h3
            have : A ≠ 1 := fun e => c3 ⟨h3, e⟩
            simpa using this
          (conv=>arg 2;whnf);refine wp_need (by decide) ?_
          (conv=>arg 2;whnf);refine wp_load (cs := [i64V A, i64V B]) 0 rfl rfl ?_
          (conv=>arg 2;whnf);refine wp_if e4 ?_
          (conv=>arg 2;whnf)
          exact wp_cutR (frL [(5, .pt (some 7) (.agg (exC x)) 0), (9, .loc c 0)]) [.obj c [i64V A, i64V B]] (.cons (.refl _) (.cons (.refl _) (.nil _))) (List.Sublist.refl _) rest
        · (repeat ((conv=>arg 2;whnf);first|refine wp_it rfl ?_|refine wp_if rfl ?_))
          exact wp_cutR (frL [(5, .pt (some 7) (.agg (exC x)) 0), (9, .loc c 0)]) [.obj c [i64V A, i64V B]] (.cons (.refl _) (.cons (.refl _) (.nil _))) (List.Sublist.refl _) rest
      case rest =>
        by_cases c4 : op = 6 ∨ op = 7
        · rw [if_pos c4]
          (conv=>arg 2;whnf);refine wp_ite (fun h3 => ?_) (fun h3 => ?_)
          · (repeat ((conv=>arg 2;whnf);first|refine wp_it rfl ?_|refine wp_if rfl ?_))
            (conv=>arg 2;whnf);refine w_ret2 rfl (Vle.refl _) (Vle.refl _) (List.nil_sublist _) rfl
          · have e4 : (x.op == 7) = true := by
              have h3 : op ≠ 6 := by rw [hop]; simpa using h3
              have := c4.resolve_left h3
              rw [← hop]; simpa using this
            (conv=>arg 2;whnf);refine wp_it e4 ?_
            (conv=>arg 2;whnf);refine w_ret2 rfl (Vle.refl _) (Vle.refl _) (List.nil_sublist _) rfl
        rw [if_neg c4]
        have e3 : (x.op == 6) = false := by rw [← hop]; have := fun e => c4 (.inl e); simpa using this
        have e4 : (x.op == 7) = false := by rw [← hop]; have := fun e => c4 (.inr e); simpa using this
        (conv=>arg 2;whnf);refine wp_if e3 ?_
        (conv=>arg 2;whnf);refine wp_if e4 ?_
        (conv=>arg 2;whnf)
        refine wp_cutR (frL [(5, .pt (some 7) (.agg (exC x)) 0), (9, .loc c 0)]) [.obj c [i64V A, i64V B]] (.cons (.refl _) (.cons (.refl _) (.nil _))) (List.Sublist.refl _) ?_
        by_cases c5 : (op = 8 ∨ op = 9) ∧ A ≠ 3
        · rw [if_pos c5]
          have e5 : (A != 3) = true := by simpa using c5.2
          (conv=>arg 2;whnf);refine wp_ite (fun h3 => ?_) (fun h3 => ?_)
          · (repeat ((conv=>arg 2;whnf);first|refine wp_it rfl ?_|refine wp_if rfl ?_))
            (conv=>arg 2;whnf);refine wp_need (by decide) ?_
            (conv=>arg 2;whnf);refine wp_load (cs := [i64V A, i64V B]) 0 rfl rfl ?_
            (conv=>arg 2;whnf);refine wp_it e5 ?_
            (conv=>arg 2;whnf);refine w_ret2 rfl (Vle.refl _) (Vle.refl _) (List.nil_sublist _) rfl
          · have e4 : (x.op == 9) = true := by
              have h3 : op ≠ 8 := by rw [hop]; simpa using h3
              have := c5.1.resolve_left h3
              rw [← hop]; simpa using this
            (conv=>arg 2;whnf);refine wp_it e4 ?_
            (conv=>arg 2;whnf);refine wp_need (by decide) ?_
            (conv=>arg 2;whnf);refine wp_load (cs := [i64V A, i64V B]) 0 rfl rfl ?_
            (conv=>arg 2;whnf);refine wp_it e5 ?_
            (conv=>arg 2;whnf);refine w_ret2 rfl (Vle.refl _) (Vle.refl _) (List.nil_sublist _) rfl
        rw [if_neg c5]
        apply wp_joinT
        case h1 =>
          intro rest
          have e5 : op = 8 ∨ op = 9 → (A != 3) = false := fun h => by
            have : ¬ A ≠ 3 := fun e => c5 ⟨h, e⟩
            simpa using this
          (conv=>arg 2;whnf);refine wp_ite (fun h3 => ?_) (fun h3 => ?_)
          · have h3 : op = 8 := by rw [hop]; simpa using h3
            have e5 := e5 (.inl h3)
            (repeat ((conv=>arg 2;whnf);first|refine wp_it rfl ?_|refine wp_if rfl ?_))
            (conv=>arg 2;whnf);refine wp_need (by decide) ?_
            (conv=>arg 2;whnf);refine wp_load (cs := [i64V A, i64V B]) 0 rfl rfl ?_
            (conv=>arg 2;whnf);refine wp_if e5 ?_
            (conv=>arg 2;whnf)
            exact wp_cutR (frL [(5, .pt (some 7) (.agg (exC x)) 0), (9, .loc c 0)]) [.obj c [i64V A, i64V B]] (.cons (.refl _) (.cons (.refl _) (.nil _))) (List.Sublist.refl _) rest
          · (conv=>arg 2;whnf);refine wp_ite (fun h4 => ?_) (fun h4 => ?_)
            · have h4 : op = 9 := by rw [hop]; simpa using h4
              have e5 := e5 (.inr h4)
              (conv=>arg 2;whnf);refine wp_need (by decide) ?_
              (conv=>arg 2;whnf);refine wp_load (cs := [i64V A, i64V B]) 0 rfl rfl ?_
              (conv=>arg 2;whnf);refine wp_if e5 ?_
              (conv=>arg 2;whnf)
              exact wp_cutR (frL [(5, .pt (some 7) (.agg (exC x)) 0), (9, .loc c 0)]) [.obj c [i64V A, i64V B]] (.cons (.refl _) (.cons (.refl _) (.nil _))) (List.Sublist.refl _) rest
            · (repeat ((conv=>arg 2;whnf);first|refine wp_it rfl ?_|refine wp_if rfl ?_))
              exact wp_cutR (frL [(5, .pt (some 7) (.agg (exC x)) 0), (9, .loc c 0)]) [.obj c [i64V A, i64V B]] (.cons (.refl _) (.cons (.refl _) (.nil _))) (List.Sublist.refl _) rest
        case rest =>
          by_cases c6 : (op = 10 ∨ op = 11) ∧ A = 3
          · rw [if_pos c6]
            have e5 : (A == 3) = true := by simpa using c6.2
            (conv=>arg 2;whnf);refine wp_ite (fun h3 => ?_) (fun h3 => ?_)
            · (repeat ((conv=>arg 2;whnf);first|refine wp_it rfl ?_|refine wp_if rfl ?_))
              (conv=>arg 2;whnf);refine wp_need (by decide) ?_
              (conv=>arg 2;whnf);refine wp_load (cs := [i64V A, i64V B]) 0 rfl rfl ?_
              (conv=>arg 2;whnf);refine wp_it e5 ?_
              (conv=>arg 2;whnf);refine w_ret2 rfl (Vle.refl _) (Vle.refl _) (List.nil_sublist _) rfl
            · have e4 : (x.op == 11) = true := by
                have h3 : op ≠ 10 := by rw [hop]; simpa using h3
                have := c6.1.resolve_left h3
                rw [← hop]; simpa using this
              (conv=>arg 2;whnf);refine wp_it e4 ?_
              (conv=>arg 2;whnf);refine wp_need (by decide) ?_
              (conv=>arg 2;whnf);refine wp_load (cs := [i64V A, i64V B]) 0 rfl rfl ?_
              (conv=>arg 2;whnf);refine wp_it e5 ?_
              (conv=>arg 2;whnf);refine w_ret2 rfl (Vle.refl _) (Vle.refl _) (List.nil_sublist _) rfl
          rw [if_neg c6]
          apply wp_joinT
          case h1 =>
            intro rest
            have e5 : op = 10 ∨ op = 11 → (A == 3) = false := fun h => by
              have : ¬ A = 3 := fun e => c6 ⟨h, e⟩
              simpa using this
            (conv=>arg 2;whnf);refine wp_ite (fun h3 => ?_) (fun h3 => ?_)
            · have h3 : op = 10 := by rw [hop]; simpa using h3
              have e5 := e5 (.inl h3)
              (repeat ((conv=>arg 2;whnf);first|refine wp_it rfl ?_|refine wp_if rfl ?_))
              (conv=>arg 2;whnf);refine wp_need (by decide) ?_
              (conv=>arg 2;whnf);refine wp_load (cs := [i64V A, i64V B]) 0 rfl rfl ?_
              (conv=>arg 2;whnf);refine wp_if e5 ?_
              (conv=>arg 2;whnf)
              exact wp_cutR (frL []) [] (.nil _) (List.nil_sublist _) rest
            · (conv=>arg 2;whnf);refine wp_ite (fun h4 => ?_) (fun h4 => ?_)
              · have h4 : op = 11 := by rw [hop]; simpa using h4
                have e5 := e5 (.inr h4)
                (conv=>arg 2;whnf);refine wp_need (by decide) ?_
                (conv=>arg 2;whnf);refine wp_load (cs := [i64V A, i64V B]) 0 rfl rfl ?_
                (conv=>arg 2;whnf);refine wp_if e5 ?_
                (conv=>arg 2;whnf)
                exact wp_cutR (frL []) [] (.nil _) (List.nil_sublist _) rest
              · (repeat ((conv=>arg 2;whnf);first|refine wp_it rfl ?_|refine wp_if rfl ?_))
                exact wp_cutR (frL []) [] (.nil _) (List.nil_sublist _) rest
          case rest =>
            (conv=>arg 2;whnf);refine w_ret2 rfl (Vle.refl _) (Vle.refl _) (List.nil_sublist _) rfl
set_option maxRecDepth 100000 in
set_option maxHeartbeats 2000000 in
theorem rkind_call (s : Sc) (hs : ScOk s) (l : List El) (hl : l.length < 2 ^ 60) (hty : ∀ e ∈ l, e.ty.length < 2 ^ 60) : ∀ (k : Nat) (x : Ex), shapedN k x = true → PCall Tryz.prog 47 [scV s, elsV l, .agg (exC x)] (pairI (kindE s l k x))
  | 0, _, h => by cases h
  | k + 1, .mk o xv xa xf ks, hsh => by
    by_cases h1 : o = 1
    · subst h1
      refine scall_of (live := []) (ords := []) Tryz.func47 rfl (by kernel_rfl) (by kernel_rfl) (Nat.le_of_ble_eq_true rfl) ?_
      (repeat ((conv=>arg 2;whnf);first|refine wp_it rfl ?_|refine wp_if rfl ?_))
      (conv=>arg 2;whnf);refine w_ret2 rfl (Vle.refl _) (Vle.refl _) (List.nil_sublist _) rfl
    by_cases h2 : o = 2
    · subst h2
      have fa := alias_call l xa hl
      have hr : kindE s l (k + 1) (.mk 2 xv xa xf ks) = (if aliasI l xa < 0 then (0, 13) else fieldKindE s (l.getD (aliasI l xa).toNat el0) xf) := by
        rw [kindE, if_neg (show ¬ Ex.op (.mk 2 xv xa xf ks) = 1 from (by decide : ¬ (2 : Int) = 1)), if_pos (show Ex.op _ = 2 from rfl)]; rfl
      rw [hr]
      refine scall_of (live := []) (ords := []) Tryz.func47 rfl (by kernel_rfl) (by kernel_rfl) (Nat.le_of_ble_eq_true rfl) ?_
      (repeat ((conv=>arg 2;whnf);first|refine wp_it rfl ?_|refine wp_if rfl ?_))
      (conv=>arg 2;whnf);refine wp_pcall fa ?_
      (conv=>arg 2;whnf);refine wp_ite (fun h3 => ?_) (fun h3 => ?_)
      · have h3 : aliasI l xa < 0 := of_decide_eq_true h3
        rw [if_pos h3]
        (conv=>arg 2;whnf);refine w_ret2 rfl (Vle.refl _) (Vle.refl _) (List.nil_sublist _) rfl
      · have h3 : ¬ aliasI l xa < 0 := of_decide_eq_false h3
        obtain ⟨e, he, hel, hn⟩ := alias_at h3
        have ff := rfieldkind_call s hs e (hty e hel) xf
        rw [if_neg h3, getD_at he]
        (conv=>arg 2;whnf);refine wp_elem (aliasI l xa).toNat (elV e) hn (els_at2 he) (Vle.refl _) ?_
        (conv=>arg 2;whnf);refine wp_pc ff ?_
        (conv=>arg 2;whnf);refine w_ret2 rfl (Vle.refl _) (Vle.refl _) (List.nil_sublist _) rfl
    · have hk2 : ks.length ≤ 2 ∧ ∀ y ∈ ks, shapedN k y = true := by
        rcases shape_cases hsh with h | h | ⟨_, a, rfl, ha⟩ | ⟨_, _, a, b, rfl, ha, hb⟩
        · exact absurd h h1
        · exact absurd h h2
        · exact ⟨by simp, fun y hy => by rw [List.mem_singleton.1 hy]; exact ha⟩
        · refine ⟨by simp, fun y hy => ?_⟩
          have : y = a ∨ y = b := by simpa using hy
          rcases this with rfl | rfl
          · exact ha
          · exact hb
      have := rkind_kids s l (.mk o xv xa xf ks) h1 h2 hk2.1 (kindE s l k) (fun y hy => rkind_call s hs l hl hty k y (hk2.2 y hy))
      have hr : kindE s l (k + 1) (.mk o xv xa xf ks) = opK o (ks.map (kindE s l k)) := by
        rw [kindE, if_neg (show ¬ Ex.op (.mk o xv xa xf ks) = 1 from h1), if_neg (show ¬ Ex.op (.mk o xv xa xf ks) = 2 from h2)]; rfl
      rw [hr]; exact this
set_option maxRecDepth 100000 in
theorem rkindtop_call (s : Sc) (hs : ScOk s) (l : List El) (hl : l.length < 2 ^ 60) (hty : ∀ e ∈ l, e.ty.length < 2 ^ 60) (x : Ex) (hx : ExBd x) : PCall Tryz.prog 23 [scV s, elsV l, .agg (exC x)] (pairI (kindTop s l x)) := by
  have f1 := refisexpr_call x hx.1 hx.2.1 hx.2.2.2
  rw [isEx_same] at f1
  refine scall_of (live := []) (ords := []) Tryz.func23 rfl (by kernel_rfl) (by kernel_rfl) (Nat.le_of_ble_eq_true rfl) ?_
  cases hi : isExB x with
  | false =>
    rw [hi] at f1
    rw [show kindTop s l x = (0, 10) by rw [kindTop, hi]; rfl]
    (conv=>arg 2;whnf);refine wp_pcall f1 ?_
    (repeat ((conv=>arg 2;whnf);first|refine wp_it rfl ?_|refine wp_if rfl ?_))
    (conv=>arg 2;whnf);refine w_ret2 rfl (Vle.refl _) (Vle.refl _) (List.nil_sublist _) rfl
  | true =>
    rw [hi] at f1
    have hsh : shapedN 5 x = true := by
      rw [← isEx_same, isExR, Bool.and_eq_true] at hi
      exact hi.1
    have f2 := rkind_call s hs l hl hty 5 x hsh
    rw [show kindTop s l x = kindE s l 5 x by rw [kindTop, if_pos hi]]
    (conv=>arg 2;whnf);refine wp_pcall f1 ?_
    (repeat ((conv=>arg 2;whnf);first|refine wp_it rfl ?_|refine wp_if rfl ?_))
    (conv=>arg 2;whnf);refine wp_pcall f2 ?_
    (conv=>arg 2;whnf);refine w_ret2 rfl (Vle.refl _) (Vle.refl _) (List.nil_sublist _) rfl
end Go.Sv
namespace Go.Sv
open Go Go.Proofs
def chkEl (s : Sc) (seen : List El) (x : El) : Int :=
  if x.ty.all (fun t => (findT s t).isSome) then
    (if x.cond.op ≠ 0 then (if (kindTop s (seen ++ [x]) x.cond).2 ≠ 0 then (kindTop s (seen ++ [x]) x.cond).2 else if (kindTop s (seen ++ [x]) x.cond).1 ≠ 3 then 14 else 0) else 0)
  else 13
def seenE (l : List El) (i : Nat) : List El := (l.take i).filter fun e => !e.nt
def chkAt (s : Sc) (l : List El) (i : Nat) : Int := chkEl s (seenE l i) (l.getD i el0)
def chkEls (s : Sc) (l : List El) : Int := (((List.range l.length).map (chkAt s l)).find? fun e => decide (e ≠ 0)).getD 0
def by1 (s : Sc) (p : Pa) : Bool := p.els.all fun x => x.ty.all fun t => decide (0 ≤ fieldI ((findT s t).getD ty0) p.by_)
def by2 (s : Sc) (p : Pa) : Bool := (List.range p.els.length).all fun i => decide ((fieldKindE s (elAt p i) p.by_).2 = 0) && (decide (i = 0) || decide ((fieldKindE s (elAt p i) p.by_).1 = (fieldKindE s (elAt p (i - 1)) p.by_).1))
def chkE (s : Sc) (p : Pa) : Int :=
  if isPaB p = false then 10 else if chkEls s p.els ≠ 0 then chkEls s p.els else if p.by_ = [] then 0 else if by1 s p = false then 13 else if by2 s p = false then 14 else 0
theorem chk_hit {s : Sc} {l : List El} {n : Nat} {v : Int} (h : (List.range n).all (fun i => decide (chkAt s l i = 0)) = true) (hn : n < l.length) (hv : chkAt s l n = v) (h0 : v ≠ 0) : chkEls s l = v := by
  unfold chkEls
  have h1 : ((List.range l.length).map (chkAt s l))[n]? = some v := by rw [List.getElem?_map, List.getElem?_range hn]; simp [hv]
  rw [find_hit (n := n) (y := v) ?_ h1 (decide_eq_true h0)]
  · rfl
  · rw [List.any_eq_false]
    intro e he
    rw [← List.map_take, List.mem_map] at he
    obtain ⟨i, hi, rfl⟩ := he
    have hi' : i < n := by
      rw [List.take_range, List.mem_range] at hi; omega
    have := List.all_eq_true.1 h i (List.mem_range.2 hi')
    have := of_decide_eq_true this
    simp [this]
theorem chk_none {s : Sc} {l : List El} (h : (List.range l.length).all (fun i => decide (chkAt s l i = 0)) = true) : chkEls s l = 0 := by
  unfold chkEls
  rw [find_none]
  · rfl
  · rw [List.any_eq_false]
    intro e he
    rw [List.mem_map] at he
    obtain ⟨i, hi, rfl⟩ := he
    have := of_decide_eq_true (List.all_eq_true.1 h i hi)
    simp [this]
theorem okE_el (l : List El) : ∀ y ∈ l.map elV, okE (some 11) y := by
  intro y hy
  obtain ⟨b, _, rfl⟩ := List.mem_map.1 hy
  refine ⟨_, rfl, rfl, fun c hc => ?_⟩
  have : c = str b.al ∨ c = .sl none (b.ty.map str) .no ∨ c = bV b.plus ∨ c = bV b.nt ∨ c = i64V b.cond.op ∨ c = i64V b.cond.val.kind ∨ c = i64V b.cond.val.n ∨ c = str b.cond.val.s ∨ c = str b.cond.al ∨ c = str b.cond.fd ∨ c = exsV b.cond.kids := by
    simpa [elC, exC] using hc
  rcases this with h | h | h | h | h | h | h | h | h | h | h <;> subst h <;> rfl
theorem els_app (xs : List El) (y : El) (t : Nat) : Vle (.sl (some 11) (xs.map elV ++ [elV y]) (.t t)) (elsV (xs ++ [y])) := by
  rw [elsV, List.map_append]; exact Vle.sl _ _ _
theorem seen_next {l : List El} {n : Nat} {x : El} (h : l[n]? = some x) : seenE l (n + 1) = if x.nt then seenE l n else seenE l n ++ [x] := by
  rw [seenE, List.take_add_one, h, List.filter_append]
  cases hx : x.nt <;> simp [hx, seenE]
theorem seen_len (l : List El) (n : Nat) : (seenE l n).length ≤ l.length := Nat.le_trans (List.length_filter_le _ _) (by rw [List.length_take]; omega)
theorem seen_mem {l : List El} {n : Nat} {e : El} (h : e ∈ seenE l n) : e ∈ l := List.mem_of_mem_take (List.mem_filter.1 h).1
theorem findD_call (s : Sc) (hs : s.length < 2 ^ 60) (t : List UInt8) : ∃ ok, PCall Tryz.prog 22 [scV s, str t] (.tup [tyV ((findT s t).getD ty0), bV ok]) := by
  have fa := rfind_call s hs t
  cases h : findT s t with
  | none => rw [h] at fa; exact ⟨false, fa⟩
  | some e => rw [h] at fa; exact ⟨true, fa⟩
set_option maxRecDepth 100000 in
set_option maxHeartbeats 8000000 in
theorem rcheck_call (s : Sc) (hs : ScOk s) (p : Pa) (hp : PaBd p) : PCall Tryz.prog 9 [scV s, .agg (paC p)] (i64V (chkE s p)) := by
  have f0 := refpattern_call p hp
  have hpl : p.els.length < 2 ^ 40 := hp.1
  have htl : ∀ e ∈ p.els, e.ty.length < 2 ^ 60 := fun e he => by have := (hp.2.1 e he).2.1; omega
  refine scall_of (live := []) (ords := [(3, []), (8, []), (14, [0, 2, 3, 1, 4, 5]), (15, []), (21, []), (23, []), (33, []), (35, [])]) Tryz.func9 rfl (by kernel_rfl) (by kernel_rfl) (Nat.le_of_ble_eq_true rfl) ?_
  cases hip : isPaB p with
  | false =>
    rw [hip] at f0
    rw [show chkE s p = 10 by rw [chkE, if_pos hip]]
    (conv=>arg 2;whnf);refine wp_pcall f0 ?_
    (repeat ((conv=>arg 2;whnf);first|refine wp_it rfl ?_|refine wp_if rfl ?_))
    (conv=>arg 2;whnf);refine w_retp rfl (Vle.refl _)
  | true =>
    have h5 : p.els.length ≤ 5 := by
      have hip2 := hip
      rw [isPaB, Bool.and_eq_true, Bool.and_eq_true] at hip2
      exact of_decide_eq_true hip2.2.1
    rw [hip] at f0
    have hr0 : chkE s p = if chkEls s p.els ≠ 0 then chkEls s p.els else if p.by_ = [] then 0 else if by1 s p = false then 13 else if by2 s p = false then 14 else 0 := by rw [chkE, if_neg (by rw [hip]; decide)]
    (conv=>arg 2;whnf);refine wp_pcall f0 ?_
    (repeat ((conv=>arg 2;whnf);first|refine wp_it rfl ?_|refine wp_if rfl ?_))
    refine wp_cutR (frL [(2, .pt (some 1) (scV s) 0), (3, .pt (some 4) (.agg (paC p)) 0)]) [] (.cons (.refl _) (.cons (.refl _) (.nil _))) (List.nil_sublist _) ?_
    (conv=>arg 2;whnf);refine wp_loop (fun m fr R => ∃ n : Nat, m = p.els.length - n ∧ n ≤ p.els.length ∧ R = [] ∧ (List.range n).all (fun i => decide (chkAt s p.els i = 0)) = true ∧ fr = frL [(2, .pt (some 1) (scV s) 0), (3, .pt (some 4) (.agg (paC p)) 0), (5, elsV (seenE p.els n)), (6, i64V n)])
      p.els.length _ _ (.cons (.refl _) (.cons (.refl _) (.cons (Vle.gotL (b := elsV (seenE p.els 0)) (Vle.nil none (some 11) .zero) rfl) (.cons (.refl _) (.nil _))))) (List.Sublist.refl _) ⟨0, rfl, Nat.zero_le _, rfl, rfl, rfl⟩ ?_
    rintro m fr R ⟨n, rfl, hn, rfl, ha, rfl⟩
    (conv=>arg 2;whnf);refine wp_ite (fun h => ?_) (fun h => ?_)
    · have h : n < p.els.length := by
        have := of_decide_eq_true h
        rw [List.length_map] at this; omega
      obtain ⟨x, hx⟩ : ∃ x, p.els[n]? = some x := ⟨_, List.getElem?_eq_getElem h⟩
      have hxm := List.mem_of_getElem? hx
      have hxt := htl x hxm
      have hsl := seen_len p.els n
      have hck : chkAt s p.els n = chkEl s (seenE p.els n) x := by rw [chkAt, getD_at hx]
      have hstop : ∀ v, chkAt s p.els n = v → v ≠ 0 → i64V v = i64V (chkE s p) := fun v e h0 => by
        have := chk_hit ha h e h0
        rw [hr0, if_pos (by rw [this]; exact h0), this]
      have hnext : chkAt s p.els n = 0 → (List.range (n + 1)).all (fun i => decide (chkAt s p.els i = 0)) = true := fun e => rng_next ha (decide_eq_true e)
      have hsn := seen_next hx
      obtain ⟨sn, hsnE⟩ : ∃ sn, sn = seenE p.els n := ⟨_, rfl⟩
      rw [← hsnE] at hck hsn hsl ⊢
      (conv=>arg 2;whnf);refine wp_elem n (elV x) rfl (els_at2 hx) (Vle.refl _) ?_
      (conv=>arg 2;whnf);refine wp_allocE elZ rfl fun q => ?_
      (conv=>arg 2;whnf);refine wp_storeE (cs := elZ) 0 0 (elC x) rfl rfl (VleL.refl _) (Nat.le_refl _) rfl (R' := [.obj q (elC x)]) rfl ?_
      (conv=>arg 2;whnf)
      refine wp_cutP (frL [(2, .pt (some 1) (scV s) 0), (3, .pt (some 4) (.agg (paC p)) 0), (5, elsV sn), (6, i64V n), (7, .pt (some 11) (elV x) 0)]) [] [.obj q (elC x)] (.cons (.refl _) (.cons (.refl _) (.cons (.refl _) (.cons (.refl _) (.cons (.all (List.Mem.head _) rfl (by decide) (VleL.refl _)) (.nil _)))))) ?_
      (conv=>arg 2;whnf);refine wp_loop (fun m fr R => ∃ k : Nat, m = x.ty.length - k ∧ k ≤ x.ty.length ∧ R = [] ∧ (x.ty.take k).all (fun t => (findT s t).isSome) = true ∧ fr = frL [(2, .pt (some 1) (scV s) 0), (3, .pt (some 4) (.agg (paC p)) 0), (5, elsV sn), (6, i64V n), (7, .pt (some 11) (elV x) 0), (8, i64V k)])
        x.ty.length _ _ (.cons (.refl _) (.cons (.refl _) (.cons (.refl _) (.cons (.refl _) (.cons (.refl _) (.cons (.refl _) (.nil _))))))) (List.Sublist.refl _) ⟨0, rfl, Nat.zero_le _, rfl, rfl, rfl⟩ ?_
      rintro m fr R ⟨k, rfl, hk, rfl, hak, rfl⟩
      (conv=>arg 2;whnf);refine wp_ite (fun h1 => ?_) (fun h1 => ?_)
      · have h1 : k < x.ty.length := by
          have := of_decide_eq_true h1
          rw [List.length_map] at this; omega
        obtain ⟨t, ht⟩ : ∃ t, x.ty[k]? = some t := ⟨_, List.getElem?_eq_getElem h1⟩
        have f1 := rfind_call s hs.1 t
        cases hf : findT s t with
        | none =>
          rw [hf] at f1
          have h13 := hstop 13 (by rw [hck, chkEl, show (x.ty.all fun t => (findT s t).isSome) = false from all_miss ht (by rw [hf]; rfl)]; rfl) (by decide)
          (conv=>arg 2;whnf);refine wp_elem k (str t) rfl (strs_at ht) (Vle.refl _) ?_
          (conv=>arg 2;whnf);refine wp_pc f1 ?_
          (conv=>arg 2;whnf);refine wp_allocE tyZ rfl fun d => ?_
          (conv=>arg 2;whnf);refine wp_storeE (cs := tyZ) 0 0 (tyC ty0) rfl rfl (VleL.refl _) (Nat.le_refl _) rfl (R' := [.obj d (tyC ty0)]) rfl ?_
          (repeat ((conv=>arg 2;whnf);first|refine wp_it rfl ?_|refine wp_if rfl ?_))
          (conv=>arg 2;whnf)
          refine wp_leaf (loop_ret (loop_ret ?_))
          (conv=>arg 2;whnf);refine w_retp rfl (Vle.eq h13)
        | some ty =>
          rw [hf] at f1
          have hn' : (x.ty.take (k + 1)).all (fun t => (findT s t).isSome) = true := all_next hak ht (by rw [hf]; rfl)
          (conv=>arg 2;whnf);refine wp_elem k (str t) rfl (strs_at ht) (Vle.refl _) ?_
          (conv=>arg 2;whnf);refine wp_pc f1 ?_
          (conv=>arg 2;whnf);refine wp_allocE tyZ rfl fun d => ?_
          (conv=>arg 2;whnf);refine wp_storeE (cs := tyZ) 0 0 (tyC ty) rfl rfl (VleL.refl _) (Nat.le_refl _) rfl (R' := [.obj d (tyC ty)]) rfl ?_
          (repeat ((conv=>arg 2;whnf);first|refine wp_it rfl ?_|refine wp_if rfl ?_))
          (conv=>arg 2;whnf)
          exact wp_leaf (loop_next (x.ty.length - (k + 1)) _ [] (by omega) (.cons (.refl _) (.cons (.refl _) (.cons (.refl _) (.cons (.refl _) (.cons (.refl _) (.cons (Vle.inc k rfl (by omega)) (.nil _))))))) (List.nil_sublist _) ⟨k + 1, rfl, h1, rfl, hn', rfl⟩)
      · have h1 : k = x.ty.length := by
          have := of_decide_eq_false h1
          rw [List.length_map] at this; omega
        rw [h1, List.take_length] at hak
        have hck : chkAt s p.els n = (if x.cond.op ≠ 0 then (if (kindTop s (sn ++ [x]) x.cond).2 ≠ 0 then (kindTop s (sn ++ [x]) x.cond).2 else if (kindTop s (sn ++ [x]) x.cond).1 ≠ 3 then 14 else 0) else 0) := by rw [hck, chkEl, if_pos hak]
        have fk := rkindtop_call s hs (sn ++ [x]) (by rw [List.length_append, List.length_singleton]; omega) (fun e he => by
          rcases List.mem_append.1 he with he | he
          · rw [hsnE] at he; exact htl e (seen_mem he)
          · rw [List.mem_singleton.1 he]; exact hxt) x.cond (hp.2.1 x hxm).2.2.2
        obtain ⟨a, b, hab⟩ : ∃ a b, kindTop s (sn ++ [x]) x.cond = (a, b) := ⟨_, _, rfl⟩
        rw [hab] at fk hck
        have hlt : p.els.length - (n + 1) < p.els.length - n := by omega
        have hn62 : n < 2 ^ 62 := by omega
        clear hab hak h1 hk
        (conv=>arg 2;whnf)
        refine wp_leaf (loop_exit ?_)
        refine wp_cutR (frL [(2, .pt (some 1) (scV s) 0), (3, .pt (some 4) (.agg (paC p)) 0), (5, elsV sn), (6, i64V n), (7, .pt (some 11) (elV x) 0)]) [] (.cons (.refl _) (.cons (.refl _) (.cons (.refl _) (.cons (.refl _) (.cons (.refl _) (.nil _)))))) (List.nil_sublist _) ?_
        (conv=>arg 2;whnf);refine wp_append_nil (okE_el sn) (show List.length (sn.map elV) * 144 ≤ _ by rw [List.length_map]; omega) fun t1 => ?_
        (conv=>arg 2;whnf);refine wp_append_tok 0 rfl (okE_el [x]) (show (List.length (sn.map elV) + 1) * 144 ≤ _ by rw [List.length_map]; omega) fun t2 => ?_
        (conv=>arg 2;whnf)
        refine wp_cutR (frL [(2, .pt (some 1) (scV s) 0), (3, .pt (some 4) (.agg (paC p)) 0), (5, elsV sn), (6, i64V n), (7, .pt (some 11) (elV x) 0), (11, elsV (sn ++ [x]))]) [] (.cons (.refl _) (.cons (.refl _) (.cons (.refl _) (.cons (.refl _) (.cons (.refl _) (.cons (Vle.gotL (els_app sn x t2) rfl) (.nil _))))))) (List.nil_sublist _) ?_
        apply @wp_joinT _ (chkAt s p.els n = 0 → _)
        case h1 =>
          intro rest
          (conv=>arg 2;whnf);refine wp_ite (fun h2 => ?_) (fun h2 => ?_)
          · have h2 : x.cond.op ≠ 0 := bne_iff_ne.1 h2
            rw [if_pos h2] at hck
            (conv=>arg 2;whnf);refine wp_pcall fk ?_
            (conv=>arg 2;whnf);refine wp_ite (fun h3 => ?_) (fun h3 => ?_)
            · have h3 : b ≠ 0 := bne_iff_ne.1 h3
              have hv := hstop b (hck.trans (if_pos h3)) h3
              (conv=>arg 2;whnf)
              refine wp_leaf (loop_ret ?_)
              (conv=>arg 2;whnf);refine w_retp rfl (Vle.eq hv)
            · have h3 : ¬ b ≠ 0 := fun e => e (bne_eq_false_iff_eq.1 h3)
              (conv=>arg 2;whnf);refine wp_ite (fun h4 => ?_) (fun h4 => ?_)
              · have h4 : a ≠ 3 := bne_iff_ne.1 h4
                have hv := hstop 14 (hck.trans ((if_neg h3).trans (if_pos h4))) (by decide)
                (conv=>arg 2;whnf)
                refine wp_leaf (loop_ret ?_)
                (conv=>arg 2;whnf);refine w_retp rfl (Vle.eq hv)
              · have h4 : ¬ a ≠ 3 := fun e => e (bne_eq_false_iff_eq.1 h4)
                (conv=>arg 2;whnf)
                exact wp_cutR (frL [(2, .pt (some 1) (scV s) 0), (3, .pt (some 4) (.agg (paC p)) 0), (5, elsV sn), (6, i64V n), (7, .pt (some 11) (elV x) 0), (11, elsV (sn ++ [x]))]) [] (.cons (.refl _) (.cons (.refl _) (.cons (.refl _) (.cons (.refl _) (.cons (.refl _) (.cons (.refl _) (.nil _))))))) (List.nil_sublist _) (rest (hck.trans ((if_neg h3).trans (if_neg h4))))
          · have h2 : ¬ x.cond.op ≠ 0 := fun e => e (bne_eq_false_iff_eq.1 h2)
            (conv=>arg 2;whnf)
            exact wp_cutR (frL [(2, .pt (some 1) (scV s) 0), (3, .pt (some 4) (.agg (paC p)) 0), (5, elsV sn), (6, i64V n), (7, .pt (some 11) (elV x) 0), (11, elsV (sn ++ [x]))]) [] (.cons (.refl _) (.cons (.refl _) (.cons (.refl _) (.cons (.refl _) (.cons (.refl _) (.cons (.refl _) (.nil _))))))) (List.nil_sublist _) (rest (hck.trans (if_neg h2)))
        case rest =>
          intro h0
          have hn' := hnext h0
          (conv=>arg 2;whnf);refine wp_ite (fun h5 => ?_) (fun h5 => ?_)
          · have h5 : x.nt = false := by simpa using h5
            rw [h5, if_neg (by decide)] at hsn
            (conv=>arg 2;whnf)
            exact wp_leaf (loop_next (p.els.length - (n + 1)) _ [] hlt (.cons (.refl _) (.cons (.refl _) (.cons (Vle.of (elsV (sn ++ [x])) rfl (congrArg elsV hsn.symm)) (.cons (Vle.inc n rfl hn62) (.nil _))))) (List.nil_sublist _) ⟨n + 1, rfl, h, rfl, hn', rfl⟩)
          · have h5 : x.nt = true := by simpa using h5
            rw [h5, if_pos rfl] at hsn
            (conv=>arg 2;whnf)
            exact wp_leaf (loop_next (p.els.length - (n + 1)) _ [] hlt (.cons (.refl _) (.cons (.refl _) (.cons (Vle.of (elsV sn) rfl (congrArg elsV hsn.symm)) (.cons (Vle.inc n rfl hn62) (.nil _))))) (List.nil_sublist _) ⟨n + 1, rfl, h, rfl, hn', rfl⟩)
    · have h : n = p.els.length := by
        have := of_decide_eq_false h
        rw [List.length_map] at this; omega
      rw [h] at ha
      rw [if_neg (by rw [chk_none ha]; decide)] at hr0
      clear h hn ha
      (conv=>arg 2;whnf)
      refine wp_leaf (loop_exit ?_)
      refine wp_cutR (frL [(2, .pt (some 1) (scV s) 0), (3, .pt (some 4) (.agg (paC p)) 0)]) [] (.cons (.refl _) (.cons (.refl _) (.nil _))) (List.nil_sublist _) ?_
      (conv=>arg 2;whnf);refine wp_ite (fun hby => ?_) (fun hby => ?_)
      · have hby : ((S p.by_).toList == (S []).toList) = true := hby
        rw [strEq] at hby
        rw [if_pos (of_decide_eq_true hby)] at hr0
        (conv=>arg 2;whnf);refine w_retp rfl (Vle.eq (congrArg i64V hr0.symm))
      have hby : ((S p.by_).toList == (S []).toList) = false := hby
      rw [strEq] at hby
      rw [if_neg (of_decide_eq_false hby)] at hr0
      clear hby
      (conv=>arg 2;whnf);refine wp_loop (fun m fr R => ∃ n : Nat, m = p.els.length - n ∧ n ≤ p.els.length ∧ R = [] ∧ (p.els.take n).all (fun x => x.ty.all fun t => decide (0 ≤ fieldI ((findT s t).getD ty0) p.by_)) = true ∧ fr = frL [(2, .pt (some 1) (scV s) 0), (3, .pt (some 4) (.agg (paC p)) 0), (14, i64V 0), (15, i64V n)])
        p.els.length _ _ (.cons (.refl _) (.cons (.refl _) (.cons (.refl _) (.cons (.refl _) (.nil _))))) (List.Sublist.refl _) ⟨0, rfl, Nat.zero_le _, rfl, rfl, rfl⟩ ?_
      rintro m fr R ⟨n, rfl, hn, rfl, ha, rfl⟩
      (conv=>arg 2;whnf);refine wp_ite (fun h => ?_) (fun h => ?_)
      · have h : n < p.els.length := by
          have := of_decide_eq_true h
          rw [List.length_map] at this; omega
        obtain ⟨x, hx⟩ : ∃ x, p.els[n]? = some x := ⟨_, List.getElem?_eq_getElem h⟩
        have hxt := htl x (List.mem_of_getElem? hx)
        have hmiss : (x.ty.all fun t => decide (0 ≤ fieldI ((findT s t).getD ty0) p.by_)) = false → i64V 13 = i64V (chkE s p) := fun e => by
          rw [hr0, if_pos (show by1 s p = false from all_miss hx e)]
        (conv=>arg 2;whnf);refine wp_loop (fun m fr R => ∃ k : Nat, m = x.ty.length - k ∧ k ≤ x.ty.length ∧ R = [] ∧ (x.ty.take k).all (fun t => decide (0 ≤ fieldI ((findT s t).getD ty0) p.by_)) = true ∧ fr = frL [(2, .pt (some 1) (scV s) 0), (3, .pt (some 4) (.agg (paC p)) 0), (14, i64V 0), (15, i64V n), (16, i64V k)])
          x.ty.length _ _ (.cons (.refl _) (.cons (.refl _) (.cons (.refl _) (.cons (.refl _) (.cons (.refl _) (.nil _)))))) (List.Sublist.refl _) ⟨0, rfl, Nat.zero_le _, rfl, rfl, rfl⟩ ?_
        rintro m fr R ⟨k, rfl, hk, rfl, hak, rfl⟩
        (conv=>arg 2;whnf);refine wp_elem n (elV x) rfl (els_at2 hx) (Vle.refl _) ?_
        (conv=>arg 2;whnf);refine wp_ite (fun h1 => ?_) (fun h1 => ?_)
        · have h1 : k < x.ty.length := by
            have := of_decide_eq_true h1
            rw [List.length_map] at this; omega
          obtain ⟨t, ht⟩ : ∃ t, x.ty[k]? = some t := ⟨_, List.getElem?_eq_getElem h1⟩
          obtain ⟨okf, f1⟩ := findD_call s hs.1 t
          have hfl : ((findT s t).getD ty0).flds.length < 2 ^ 60 := by
            cases hf : findT s t with
            | none => exact (by decide)
            | some ty => exact hs.2 ty (findT_mem hf)
          have f2 := rfield_call ((findT s t).getD ty0) hfl p.by_
          obtain ⟨ty, hty⟩ : ∃ ty, ty = (findT s t).getD ty0 := ⟨_, rfl⟩
          rw [← hty] at f1 f2
          (conv=>arg 2;whnf);refine wp_elem n (elV x) rfl (els_at2 hx) (Vle.refl _) ?_
          (conv=>arg 2;whnf);refine wp_elem k (str t) rfl (strs_at ht) (Vle.refl _) ?_
          (conv=>arg 2;whnf);refine wp_pc f1 ?_
          (conv=>arg 2;whnf);refine wp_allocE tyZ rfl fun d => ?_
          (conv=>arg 2;whnf);refine wp_storeE (cs := tyZ) 0 0 (tyC ty) rfl rfl (VleL.refl _) (Nat.le_refl _) rfl (R' := [.obj d (tyC ty)]) rfl ?_
          (conv=>arg 2;whnf)
          refine wp_cutP (frL [(2, .pt (some 1) (scV s) 0), (3, .pt (some 4) (.agg (paC p)) 0), (14, i64V 0), (15, i64V n), (16, i64V k), (17, .pt (some 2) (tyV ty) 0)]) [] [.obj d (tyC ty)] (.cons (.refl _) (.cons (.refl _) (.cons (.refl _) (.cons (.refl _) (.cons (.refl _) (.cons (.all (List.Mem.head _) rfl (by decide) (VleL.refl _)) (.nil _))))))) ?_
          (conv=>arg 2;whnf);refine wp_pcall f2 ?_
          (conv=>arg 2;whnf);refine wp_ite (fun h2 => ?_) (fun h2 => ?_)
          · have h2 : decide (0 ≤ fieldI ((findT s t).getD ty0) p.by_) = false := decide_eq_false (by rw [← hty]; have := of_decide_eq_true h2; omega)
            have hv := hmiss (all_miss ht h2)
            (conv=>arg 2;whnf)
            refine wp_leaf (loop_ret (loop_ret ?_))
            (conv=>arg 2;whnf);refine w_retp rfl (Vle.eq hv)
          · have h2 : decide (0 ≤ fieldI ((findT s t).getD ty0) p.by_) = true := decide_eq_true (by rw [← hty]; have := of_decide_eq_false h2; omega)
            have hn' : (x.ty.take (k + 1)).all (fun t => decide (0 ≤ fieldI ((findT s t).getD ty0) p.by_)) = true := all_next hak ht h2
            (conv=>arg 2;whnf)
            exact wp_leaf (loop_next (x.ty.length - (k + 1)) _ [] (by omega) (.cons (.refl _) (.cons (.refl _) (.cons (.refl _) (.cons (.refl _) (.cons (Vle.inc k rfl (by omega)) (.nil _)))))) (List.nil_sublist _) ⟨k + 1, rfl, h1, rfl, hn', rfl⟩)
        · have h1 : k = x.ty.length := by
            have := of_decide_eq_false h1
            rw [List.length_map] at this; omega
          rw [h1, List.take_length] at hak
          have hn' : (p.els.take (n + 1)).all (fun x => x.ty.all fun t => decide (0 ≤ fieldI ((findT s t).getD ty0) p.by_)) = true := all_next ha hx hak
          (conv=>arg 2;whnf)
          refine wp_leaf (loop_exit ?_)
          (conv=>arg 2;whnf)
          exact wp_leaf (loop_next (p.els.length - (n + 1)) _ [] (by omega) (.cons (.refl _) (.cons (.refl _) (.cons (.refl _) (.cons (Vle.inc n rfl (by omega)) (.nil _))))) (List.nil_sublist _) ⟨n + 1, rfl, h, rfl, hn', rfl⟩)
      · have h : n = p.els.length := by
          have := of_decide_eq_false h
          rw [List.length_map] at this; omega
        rw [h, List.take_length] at ha
        rw [if_neg (by rw [show by1 s p = true from ha]; decide)] at hr0
        clear h hn ha
        (conv=>arg 2;whnf)
        refine wp_leaf (loop_exit ?_)
        refine wp_cutR (frL [(2, .pt (some 1) (scV s) 0), (3, .pt (some 4) (.agg (paC p)) 0), (14, i64V 0)]) [] (.cons (.refl _) (.cons (.refl _) (.cons (.refl _) (.nil _)))) (List.nil_sublist _) ?_
        (conv=>arg 2;whnf);refine wp_loop (fun m fr R => ∃ n : Nat, m = p.els.length - n ∧ n ≤ p.els.length ∧ R = [] ∧ (List.range n).all (fun i => decide ((fieldKindE s (elAt p i) p.by_).2 = 0) && (decide (i = 0) || decide ((fieldKindE s (elAt p i) p.by_).1 = (fieldKindE s (elAt p (i - 1)) p.by_).1))) = true ∧ fr = frL [(2, .pt (some 1) (scV s) 0), (3, .pt (some 4) (.agg (paC p)) 0), (14, i64V (if n = 0 then 0 else (fieldKindE s (elAt p (n - 1)) p.by_).1)), (19, i64V n)])
          p.els.length _ _ (.cons (.refl _) (.cons (.refl _) (.cons (.refl _) (.cons (.refl _) (.nil _))))) (List.Sublist.refl _) ⟨0, rfl, Nat.zero_le _, rfl, rfl, rfl⟩ ?_
        rintro m fr R ⟨n, rfl, hn, rfl, ha, rfl⟩
        (conv=>arg 2;whnf);refine wp_ite (fun h => ?_) (fun h => ?_)
        · have h : n < p.els.length := by
            have := of_decide_eq_true h
            rw [List.length_map] at this; omega
          obtain ⟨x, hx⟩ : ∃ x, p.els[n]? = some x := ⟨_, List.getElem?_eq_getElem h⟩
          have hxe : elAt p n = x := by rw [elAt, getD_at hx]
          have fk := rfieldkind_call s hs x (htl x (List.mem_of_getElem? hx)) p.by_
          obtain ⟨a, b, hab⟩ : ∃ a b, fieldKindE s x p.by_ = (a, b) := ⟨_, _, rfl⟩
          rw [hab] at fk
          obtain ⟨pk, hpk⟩ : ∃ pk, pk = (if n = 0 then 0 else (fieldKindE s (elAt p (n - 1)) p.by_).1) := ⟨_, rfl⟩
          have hq : (decide ((fieldKindE s (elAt p n) p.by_).2 = 0) && (decide (n = 0) || decide ((fieldKindE s (elAt p n) p.by_).1 = (fieldKindE s (elAt p (n - 1)) p.by_).1))) = (decide (b = 0) && (decide (n = 0) || decide (a = pk))) := by
            rw [hxe, hab]
            by_cases hn0 : n = 0
            · simp [hn0]
            · rw [hpk, if_neg hn0]
          have hmiss : (decide (b = 0) && (decide (n = 0) || decide (a = pk))) = false → i64V 14 = i64V (chkE s p) := fun e => by
            rw [hr0, if_pos (show by2 s p = false from rng_miss h (hq.trans e))]
          have hgo : (decide (b = 0) && (decide (n = 0) || decide (a = pk))) = true → _ := fun e => rng_next ha (hq.trans e)
          have hak : a = (if n + 1 = 0 then 0 else (fieldKindE s (elAt p (n + 1 - 1)) p.by_).1) := by rw [if_neg (by omega), Nat.add_sub_cancel, hxe, hab]
          rw [← hpk]
          clear hpk hq hab
          (conv=>arg 2;whnf);refine wp_elem n (elV x) rfl (els_at2 hx) (Vle.refl _) ?_
          (conv=>arg 2;whnf);refine wp_pc fk ?_
          (conv=>arg 2;whnf);refine wp_ite (fun h2 => ?_) (fun h2 => ?_)
          · have h2 : decide (b = 0) = false := decide_eq_false (bne_iff_ne.1 h2)
            have hv := hmiss (by rw [h2]; rfl)
            (repeat ((conv=>arg 2;whnf);first|refine wp_it rfl ?_|refine wp_if rfl ?_))
            (conv=>arg 2;whnf)
            refine wp_leaf (loop_ret ?_)
            (conv=>arg 2;whnf);refine w_retp rfl (Vle.eq hv)
          · have h2 : decide (b = 0) = true := decide_eq_true (bne_eq_false_iff_eq.1 h2)
            rw [h2, Bool.true_and] at hmiss hgo
            (conv=>arg 2;whnf);refine wp_ite (fun h3 => ?_) (fun h3 => ?_)
            · have h3 : decide (n = 0) = false := decide_eq_false (by have := of_decide_eq_true h3; omega)
              rw [h3, Bool.false_or] at hmiss hgo
              (conv=>arg 2;whnf);refine wp_ite (fun h4 => ?_) (fun h4 => ?_)
              · have hv := hmiss (decide_eq_false (bne_iff_ne.1 h4))
                (conv=>arg 2;whnf)
                refine wp_leaf (loop_ret ?_)
                (conv=>arg 2;whnf);refine w_retp rfl (Vle.eq hv)
              · have hn' := hgo (decide_eq_true (bne_eq_false_iff_eq.1 h4))
                (conv=>arg 2;whnf)
                exact wp_leaf (loop_next (p.els.length - (n + 1)) _ [] (by omega) (.cons (.refl _) (.cons (.refl _) (.cons (Vle.of (i64V a) rfl (congrArg i64V hak)) (.cons (Vle.inc n rfl (by omega)) (.nil _))))) (List.nil_sublist _) ⟨n + 1, rfl, h, rfl, hn', rfl⟩)
            · have h3 : decide (n = 0) = true := decide_eq_true (by have := of_decide_eq_false h3; omega)
              rw [h3, Bool.true_or] at hgo
              have hn' := hgo rfl
              (repeat ((conv=>arg 2;whnf);first|refine wp_it rfl ?_|refine wp_if rfl ?_))
              (conv=>arg 2;whnf)
              exact wp_leaf (loop_next (p.els.length - (n + 1)) _ [] (by omega) (.cons (.refl _) (.cons (.refl _) (.cons (Vle.of (i64V a) rfl (congrArg i64V hak)) (.cons (Vle.inc n rfl (by omega)) (.nil _))))) (List.nil_sublist _) ⟨n + 1, rfl, h, rfl, hn', rfl⟩)
        · have h : n = p.els.length := by
            have := of_decide_eq_false h
            rw [List.length_map] at this; omega
          rw [h] at ha
          rw [if_neg (by rw [show by2 s p = true from ha]; decide)] at hr0
          (conv=>arg 2;whnf)
          refine wp_leaf (loop_exit ?_)
          (conv=>arg 2;whnf);refine w_retp rfl (Vle.eq (congrArg i64V hr0.symm))
end Go.Sv
namespace Go.Sv
open Go
theorem chk_pf {s : Sc} {p : Pa} (h : chkE s p = 0) : isPaB p = true ∧ PfOk s p := by
  unfold chkE at h
  split at h
  · cases h
  · rename_i h1
    have hpa : isPaB p = true := by simpa using h1
    split at h
    · rename_i h2; exact absurd h h2
    · rename_i h2
      have hcz : chkEls s p.els = 0 := Classical.byContradiction h2
      have hat : ∀ i, i < p.els.length → chkAt s p.els i = 0 := by
        intro i hi
        refine Classical.byContradiction fun hne => ?_
        have hany : ((List.range p.els.length).map (chkAt s p.els)).any (fun e => decide (e ≠ 0)) = true := List.any_eq_true.2 ⟨_, List.mem_map.2 ⟨i, List.mem_range.2 hi, rfl⟩, decide_eq_true hne⟩
        obtain ⟨y, _, h3, _⟩ := idx_get hany
        unfold chkEls at hcz
        rw [h3] at hcz
        have := List.find?_some h3
        exact of_decide_eq_true this hcz
      have hfound : ∀ k, k < p.els.length → ∀ t ∈ (elAt p k).ty, (findT s t).isSome = true := by
        intro k hk t ht
        have := hat k hk
        rw [chkAt, chkEl] at this
        split at this
        · rename_i h3; exact List.all_eq_true.1 h3 t ht
        · cases this
      have hpa2 := hpa
      rw [isPaB, Bool.and_eq_true, Bool.and_eq_true, Bool.and_eq_true, Bool.and_eq_true, Bool.and_eq_true, Bool.and_eq_true, Bool.and_eq_true] at hpa2
      obtain ⟨g1, g2, g3, g4, g5, g6, g7, g8⟩ := hpa2
      have g1 := of_decide_eq_true g1
      have hok : ∀ i, i < p.els.length → okAtB p.els i (elAt p i) = true := fun i hi => List.all_eq_true.1 g8 i (List.mem_range.2 hi)
      refine ⟨hpa, ⟨by omega, by simpa using g3, by simpa using g4, fun i hi => ?_, fun i j hi hj e => ?_, fun hb k hk t ht => ?_, of_decide_eq_true g5⟩⟩
      · by_cases hlt : i + 1 < p.els.length
        · have := hok (i + 1) hlt
          rw [okAtB, Bool.and_eq_true, Bool.and_eq_true] at this
          obtain ⟨e, he, hnt, hee⟩ := nt_at p hlt
          have h3 := this.2.2
          rw [hee, hnt, hi, decide_eq_true (by omega), Nat.add_sub_cancel] at h3
          simpa using h3
        · rw [ntAt, List.getD_eq_getElem?_getD, List.getElem?_eq_none (by rw [List.length_map]; omega)] at hi
          cases hi
      · refine Classical.byContradiction fun hne => ?_
        have key : ∀ a b, a < b → b < p.els.length → (elAt p a).al = (elAt p b).al → False := fun a b hab hb e => by
          have := hok b hb
          rw [okAtB, Bool.and_eq_true, Bool.and_eq_true] at this
          have h3 := this.2.1
          rw [Bool.not_eq_true', twiceB, List.any_eq_false] at h3
          obtain ⟨ea, hea, _, hea2⟩ := nt_at p (n := a) (by omega)
          have hm : ea ∈ p.els.take b := List.mem_of_getElem? (i := a) (by rw [List.getElem?_take, if_pos hab]; exact hea)
          refine h3 ea hm (decide_eq_true ?_)
          rw [← hea2]; exact e
        rcases Nat.lt_or_gt_of_ne hne with h | h
        · exact key i j h hj e
        · exact key j i h hi e.symm
      · split at h
        · rename_i h3; exact absurd h3 hb
        · split at h
          · cases h
          · rename_i h3
            have h3 : by1 s p = true := by simpa using h3
            obtain ⟨e, he, _, hee⟩ := nt_at p hk
            have h4 := List.all_eq_true.1 h3 e (List.mem_of_getElem? he)
            have h5 := List.all_eq_true.1 h4 t (by rw [← hee]; exact ht)
            obtain ⟨ty, hty⟩ := Option.isSome_iff_exists.1 (hfound k hk t ht)
            rw [hty] at h5
            exact ⟨ty, hty, of_decide_eq_true h5⟩
structure Evx (l l' : List Kp) (t : Int) : Prop where
  ex : ∃ z, l' = l ++ z ∧ ∀ k ∈ z, t < k.at_
theorem ext_at {l l' : List Kp} {t i : Int} (h : Evx l l' t) (hi : i ≤ t) : atE l' i = atE l i := by
  obtain ⟨z, rfl, hz⟩ := h.ex
  unfold atE
  rw [List.find?_append]
  have : z.find? (fun k => decide (k.at_ = i)) = none := by
    rw [List.find?_eq_none]
    intro k hk e
    have := hz k hk
    have := of_decide_eq_true e
    omega
  rw [this]
  cases l.find? (fun k => decide (k.at_ = i)) <;> rfl
theorem ext_betw {l l' : List Kp} {t i j : Int} (h : Evx l l' t) (hj : j ≤ t + 1) : betw l' i j = betw l i j := by
  obtain ⟨z, rfl, hz⟩ := h.ex
  unfold betw
  rw [List.filter_append]
  have : z.filter (fun k => decide (i < k.at_) && decide (k.at_ < j)) = [] := by
    rw [List.filter_eq_nil_iff]
    intro k hk e
    rw [Bool.and_eq_true] at e
    have := hz k hk
    have := of_decide_eq_true e.2
    omega
  rw [this, List.append_nil]
theorem ext_bound {p : Pa} {l l' : List Kp} {t : Int} (h : Evx l l' t) {b : List Bd} (hb : ∀ y ∈ b, y.at_ ≤ t) (k : Nat) : boundE p l' b k = boundE p l b k := by
  unfold boundE
  induction b with
  | nil => rfl
  | cons y b ih =>
    rw [List.filterMap_cons, List.filterMap_cons, ext_at h (hb y (by simp)), ih fun z hz => hb z (by simp [hz])]
theorem ext_takes {s : Sc} {p : Pa} {l l' : List Kp} {t : Int} (h : Evx l l' t) {b : List Bd} (hb : ∀ y ∈ b, y.at_ ≤ t) (k : Nat) (e : Ev) : takesE s p l' b k e = takesE s p l b k e := by
  unfold takesE; rw [ext_bound h hb]
theorem ext_first {l l' : List Kp} {t : Int} (h : Evx l l' t) {b : List Bd} (h0 : b ≠ []) (hb : ∀ y ∈ b, y.at_ ≤ t) : firstEv l' b = firstEv l b := by
  cases b with
  | nil => exact absurd rfl h0
  | cons y b => unfold firstEv; rw [ext_at h (hb _ (by simp))]
theorem ext_goes {s : Sc} {p : Pa} {l l' : List Kp} {t : Int} (h : Evx l l' t) {b : List Bd} (hb : ∀ y ∈ b, y.at_ ≤ t) {x : Bd} (hx : x.at_ ≤ t) : goesE s p l' b x = goesE s p l b x := by
  unfold goesE
  rw [ext_at h hx]
  cases atE l x.at_ with
  | none => rfl
  | some e =>
    simp only
    by_cases h0 : b = []
    · subst h0
      rw [ext_takes h (fun y hy => by cases hy)]; rfl
    · rw [if_neg h0, if_neg h0, ext_first h h0 hb, ext_takes h hb]
      have : guardE s p l' b x = guardE s p l b x := by
        unfold guardE
        rw [ext_betw h (by omega), ext_first h h0 hb]
        simp only [ext_takes h hb]
      rw [this]
def SkipE (s : Sc) (p : Pa) (l : List Kp) (b : List Bd) (t : Int) : Prop :=
  ∃ y ∈ l, (lastBd b).at_ < y.at_ ∧ y.at_ < t ∧ ∃ k ∈ elemsE p (lastBd b).elem, goesE s p l b ⟨k, y.at_⟩ = true
theorem rise_at {l : List Kp} (h : RiseK l) {x : Kp} (hx : x ∈ l) : atE l x.at_ = some x.e := by
  obtain ⟨n, hn⟩ := List.mem_iff_getElem?.1 hx
  exact at_hit h hn
theorem goes_elem {s : Sc} {p : Pa} (hp : PfOk s p) {l : List Kp} {b : List Bd} (hb : Pre0 s p l b) {x : Bd} (h : goesE s p l b x = true) : x.elem < p.els.length ∧ ntAt p.els x.elem = false := by
  have h1 := bound0 hp (b ++ [x]) (.inr (pre0_snoc.2 ⟨hb, h⟩))
  have h2 := h1.nt (by simp)
  have h3 := h1.len
  rw [lastBd_snoc] at h2 h3
  exact ⟨h3, h2⟩
theorem fit_snoc {s : Sc} {p : Pa} {l : List Kp} {b : List Bd} {x : Bd} {i : Nat} (h : i < b.length) : fitR s p l (b ++ [x]) i = fitR s p l b i ∧ skipR s p l (b ++ [x]) i = skipR s p l b i := by
  have h1 : (b ++ [x]).getD i bd0 = b.getD i bd0 := by rw [List.getD_eq_getElem?_getD, List.getD_eq_getElem?_getD, List.getElem?_append_left h]
  have h2 : (b ++ [x]).getD (i - 1) bd0 = b.getD (i - 1) bd0 := by rw [List.getD_eq_getElem?_getD, List.getD_eq_getElem?_getD, List.getElem?_append_left (by omega)]
  have h3 : (b ++ [x]).take i = b.take i := List.take_append_of_le_length (by omega)
  refine ⟨by unfold fitR; rw [h1, h3], ?_⟩
  unfold skipR skip1
  rw [h1, h2, h3]
theorem preR_snoc0 {s : Sc} {p : Pa} {l : List Kp} {b : List Bd} {x : Bd} : preR s p l (b ++ [x]) = true ↔ (b = [] ∨ preR s p l b = true) ∧ fitR s p l (b ++ [x]) b.length = true ∧ (b = [] ∨ p.any = true ∨ skipR s p l (b ++ [x]) b.length = false) := by
  unfold preR
  rw [List.length_append, List.length_singleton, List.range_succ, List.all_append]
  have e : ((List.range b.length).all fun i => fitR s p l (b ++ [x]) i && (decide (i = 0) || p.any || !skipR s p l (b ++ [x]) i)) = (List.range b.length).all fun i => fitR s p l b i && (decide (i = 0) || p.any || !skipR s p l b i) := by
    rw [Bool.eq_iff_iff, List.all_eq_true, List.all_eq_true]
    constructor
    · intro h i hi
      have := h i hi
      obtain ⟨e1, e2⟩ := fit_snoc (s := s) (p := p) (l := l) (x := x) (List.mem_range.1 hi)
      rwa [e1, e2] at this
    · intro h i hi
      obtain ⟨e1, e2⟩ := fit_snoc (s := s) (p := p) (l := l) (x := x) (List.mem_range.1 hi)
      rw [e1, e2]; exact h i hi
  rw [e]
  have e2 : ([b.length].all fun i => fitR s p l (b ++ [x]) i && (decide (i = 0) || p.any || !skipR s p l (b ++ [x]) i)) = (fitR s p l (b ++ [x]) b.length && (decide (b.length = 0) || p.any || !skipR s p l (b ++ [x]) b.length)) := by simp
  rw [e2]
  have e3 : decide (b ++ [x] ≠ []) = true := decide_eq_true (by simp)
  rw [e3]
  clear e e2 e3
  simp only [Bool.true_and, Bool.and_eq_true, Bool.or_eq_true, decide_eq_true_iff, Bool.not_eq_true', List.length_eq_zero_iff]
  constructor
  · rintro ⟨h2, h3, h4⟩
    refine ⟨?_, h3, ?_⟩
    · by_cases hb : b = []
      · exact .inl hb
      · exact .inr ⟨hb, h2⟩
    · rcases h4 with (h4 | h4) | h4
      · exact .inl h4
      · exact .inr (.inl h4)
      · exact .inr (.inr h4)
  · rintro ⟨h1, h3, h4⟩
    refine ⟨?_, h3, ?_⟩
    · rcases h1 with rfl | h1
      · rfl
      · exact h1.2
    · rcases h4 with h4 | h4 | h4
      · exact .inl (.inl h4)
      · exact .inl (.inr h4)
      · exact .inr h4
theorem preR_snoc {s : Sc} {p : Pa} (hp : PfOk s p) {l : List Kp} (hl : EvsOk s l) (hr : RiseK l) {b : List Bd} (hb : b = [] ∨ prefE s p l b = true) {x : Bd} : preR s p l (b ++ [x]) = true ↔ (b = [] ∨ preR s p l b = true) ∧ goesE s p l b x = true ∧ (b = [] ∨ p.any = true ∨ ¬ SkipE s p l b x.at_) := by
  rw [preR_snoc0]
  refine and_congr Iff.rfl ?_
  have gx : (b ++ [x]).getD b.length bd0 = x := by simp [List.getD_eq_getElem?_getD]
  have gt : (b ++ [x]).take b.length = b := by simp
  have hfit : fitR s p l (b ++ [x]) b.length = true ↔ goesE s p l b x = true := by
    unfold fitR
    rw [gx, gt]
    constructor
    · intro h
      cases he : atE l x.at_ with
      | none => rw [he] at h; cases h
      | some e =>
        rw [he] at h
        rw [Bool.and_eq_true, Bool.and_eq_true, decide_eq_true_iff] at h
        obtain ⟨k, hk, hke, hka⟩ := at_mem he
        have : (⟨x.at_, e⟩ : Kp) = k := by cases k; simp at hke hka; simp [hke, hka]
        have h3 := h.2.2
        rw [goes_same hp hl hb h.1 (x := ⟨x.at_, e⟩) (by rw [this]; exact hk) he] at h3
        exact h3
    · intro h
      obtain ⟨e, he, hlen, _⟩ := goesE_some h
      obtain ⟨k, hk, hke, hka⟩ := at_mem he
      have : (⟨x.at_, e⟩ : Kp) = k := by cases k; simp at hke hka; simp [hke, hka]
      rw [he]
      simp only
      rw [Bool.and_eq_true, Bool.and_eq_true, decide_eq_true_iff, goes_same hp hl hb hlen (x := ⟨x.at_, e⟩) (by rw [this]; exact hk) he]
      exact ⟨hlen, by rw [(goes_elem hp hb h).2]; rfl, h⟩
  rw [hfit]
  refine and_congr Iff.rfl ?_
  by_cases h0 : b = []
  · simp [h0]
  · refine or_congr Iff.rfl (or_congr Iff.rfl ?_)
    have hlb := List.length_pos_iff.2 h0
    have gz : (b ++ [x]).getD (b.length - 1) bd0 = lastBd b := by
      rw [List.getD_eq_getElem?_getD, List.getElem?_append_left (by omega), last_at h0]; rfl
    have hb0 := bound0 hp b hb
    rw [← Bool.not_eq_true]
    refine not_congr ?_
    unfold skipR
    rw [List.any_eq_true]
    refine exists_congr fun y => ?_
    constructor
    · rintro ⟨hy, h⟩
      unfold skip1 at h
      rw [gz, gx, gt, Bool.and_eq_true, Bool.and_eq_true, Bool.or_eq_true, decide_eq_true_iff, decide_eq_true_iff] at h
      refine ⟨hy, h.1.1, h.1.2, ?_⟩
      rcases h.2 with h2 | h2
      · rw [goes_same hp hl hb hb0.len hy (rise_at hr hy)] at h2
        exact ⟨_, by simp [elemsE], h2⟩
      · unfold goesI at h2
        split at h2
        · cases h2
        · rename_i hn
          cases hne : nextE p (lastBd b).elem with
          | none => rw [nextI, hne] at hn; exact absurd (by decide : (-1 : Int) < 0) hn
          | some n =>
            have e : nextI p (lastBd b).elem = n := by rw [nextI, hne]
            rw [e, Int.toNat_natCast, goes_same hp hl hb (nextE_some hne).2.1 hy (rise_at hr hy)] at h2
            exact ⟨n, by simp [elemsE, hne], h2⟩
    · rintro ⟨hy, h1, h2, k, hk, h3⟩
      refine ⟨hy, ?_⟩
      unfold skip1
      rw [gz, gx, gt, Bool.and_eq_true, Bool.and_eq_true, Bool.or_eq_true, decide_eq_true_iff, decide_eq_true_iff]
      refine ⟨⟨h1, h2⟩, ?_⟩
      rw [elemsE, List.mem_cons] at hk
      rcases hk with rfl | hk
      · left
        rw [goes_same hp hl hb hb0.len hy (rise_at hr hy)]; exact h3
      · right
        have hne : nextE p (lastBd b).elem = some k := by
          cases h : nextE p (lastBd b).elem with
          | none => rw [h] at hk; cases hk
          | some n => rw [h] at hk; simp at hk; rw [hk]
        unfold goesI
        have e : nextI p (lastBd b).elem = k := by rw [nextI, hne]
        rw [e, if_neg (by omega), Int.toNat_natCast, goes_same hp hl hb (nextE_some hne).2.1 hy (rise_at hr hy)]
        exact h3
theorem preR_pref {s : Sc} {p : Pa} (hp : PfOk s p) {l : List Kp} (hl : EvsOk s l) (hr : RiseK l) (b : List Bd) : preR s p l b = true → prefE s p l b = true := by
  induction b using snoc_ind with
  | h0 => intro h; cases h
  | h1 b x ih =>
    intro h
    have hb : b = [] ∨ prefE s p l b = true := (preR_snoc0.1 h).1.imp id ih
    have := (preR_snoc hp hl hr hb).1 h
    exact pre0_snoc.2 ⟨hb, this.2.1⟩
theorem pre_ats {s : Sc} {p : Pa} (hp : PfOk s p) {l : List Kp} (hl : EvsOk s l) (hr : RiseK l) {b : List Bd} (h : preR s p l b = true) : Bound0 s p l b ∧ b ≠ [] := ⟨bound0 hp b (.inr (preR_pref hp hl hr b h)), fun e => by rw [e] at h; cases h⟩
theorem Evx.sub {l l' : List Kp} {t : Int} (h : Evx l l' t) {y : Kp} (hy : y ∈ l) : y ∈ l' := by
  obtain ⟨z, rfl, _⟩ := h.ex; exact List.mem_append_left _ hy
theorem Evx.back {l l' : List Kp} {t : Int} (h : Evx l l' t) {y : Kp} (hy : y ∈ l') (ht : y.at_ ≤ t) : y ∈ l := by
  obtain ⟨z, rfl, hz⟩ := h.ex
  rcases List.mem_append.1 hy with h | h
  · exact h
  · have := hz y h; omega
theorem ext_skip {s : Sc} {p : Pa} {l l' : List Kp} {t u : Int} (h : Evx l l' t) {b : List Bd} (hb : ∀ y ∈ b, y.at_ ≤ t) (hu : u ≤ t + 1) : SkipE s p l' b u ↔ SkipE s p l b u := by
  constructor
  · rintro ⟨y, hy, h1, h2, k, hk, h3⟩
    refine ⟨y, h.back hy (by omega), h1, h2, k, hk, ?_⟩
    rw [ext_goes h hb (show (⟨k, y.at_⟩ : Bd).at_ ≤ t by show y.at_ ≤ t; omega)] at h3; exact h3
  · rintro ⟨y, hy, h1, h2, k, hk, h3⟩
    refine ⟨y, h.sub hy, h1, h2, k, hk, ?_⟩
    rw [ext_goes h hb (show (⟨k, y.at_⟩ : Bd).at_ ≤ t by show y.at_ ≤ t; omega)]; exact h3
theorem ext_pre {s : Sc} {p : Pa} (hp : PfOk s p) {l l' : List Kp} {t : Int} (h : Evx l l' t) (hl : EvsOk s l') (hr : RiseK l') (b : List Bd) (hb : ∀ y ∈ b, y.at_ ≤ t) : preR s p l' b = true ↔ preR s p l b = true := by
  have hl0 : EvsOk s l := fun k hk => hl k (h.sub hk)
  have hr0 : RiseK l := by obtain ⟨z, rfl, _⟩ := h.ex; exact (List.pairwise_append.1 hr).1
  induction b using snoc_ind with
  | h0 => exact Iff.rfl
  | h1 b x ih =>
    have ih : preR s p l' b = true ↔ preR s p l b = true := ih fun y hy => hb y (List.mem_append_left _ hy)
    have hbb : ∀ y ∈ b, y.at_ ≤ t := fun y hy => hb y (List.mem_append_left _ hy)
    have hx : x.at_ ≤ t := hb x (by simp)
    by_cases hpre : b = [] ∨ preR s p l b = true
    · have hb1 : b = [] ∨ prefE s p l b = true := hpre.imp id (preR_pref hp hl0 hr0 b)
      have hb2 : b = [] ∨ prefE s p l' b = true := hpre.imp id fun h => preR_pref hp hl hr b (ih.2 h)
      rw [preR_snoc hp hl hr hb2, preR_snoc hp hl0 hr0 hb1, ih, ext_goes h hbb hx, ext_skip h hbb (by omega)]
    · constructor
      · intro h1
        exact absurd ((preR_snoc0.1 h1).1.imp id ih.1) hpre
      · intro h1
        exact absurd (preR_snoc0.1 h1).1 hpre
end Go.Sv
