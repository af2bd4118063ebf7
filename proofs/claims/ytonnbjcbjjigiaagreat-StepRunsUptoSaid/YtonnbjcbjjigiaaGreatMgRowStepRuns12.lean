/- Parts of the proof, one behind the other. -/
import Derived.Test.YtonnbjcbjjigiaaGreatMgRowStepRuns11
import Derived.Test.YtonnbjcbjjigiaaGreatMgRowStepRuns7
import Derived.Test.YtonnbjcbjjigiaaGreatMgRowStepRuns8
import Derived.Test.YtonnbjcbjjigiaaGreatMgRowStepRuns10
namespace Go.Sv
open Go Go.Proofs
theorem goesR_none {s : Sc} {p : Pa} {l : List Kp} {b : List Bd} {k : Nat} {x : Kp} (hb : b ≠ []) (h : atE l (b.headD bd0).at_ = none) : goesR s p l b k x = false := by
  rw [goesR, if_neg hb, h]
theorem goesR_some {s : Sc} {p : Pa} {l : List Kp} {b : List Bd} {k : Nat} {x : Kp} {f : Ev} (hb : b ≠ []) (h : atE l (b.headD bd0).at_ = some f) : goesR s p l b k x = (if x.at_ ≤ (lastBd b).at_ then false
      else if sameR p b k = false ∧ nextI p (lastBd b).elem ≠ k then false
      else if x.e.ts - f.ts > p.within then false
      else takesR s p l b k x.e && (sameR p b k || freeR s p l b k (lastBd b).at_ x.at_)) := by
  rw [goesR, if_neg hb, h]
theorem sameR_eq {p : Pa} {b : List Bd} {k : Nat} {y : El} (hy : p.els[k]? = some y) : sameR p b k = (((k : Int) == ((lastBd b).elem : Int)) && y.plus) := by
  have e : elAt p k = y := by rw [elAt, getD_at hy]
  rw [sameR, e, beq_dec]
  congr 1
  rw [Bool.eq_iff_iff, decide_eq_true_iff, decide_eq_true_iff]; omega
set_option maxRecDepth 100000 in
set_option maxHeartbeats 2000000 in
theorem rgoes_nil (s : Sc) (hs : ScOk s) (p : Pa) (hp : RfOkP p) (l : List Kp) (hl : RfOkL l) (bv : V) (hbv : bv = .sl (some 2) [] .no ∨ bv = .sl none [] .zero) (k : Nat) (hk : 0 < p.els.length) (x : Kp) (hx : EvIs x.e) :
    PCall Tryz.prog 39 [scV s, .agg (paC p), kpsV l, bv, i64V k, kpV x] (bV (goesR s p l [] k x)) := by
  have ft := rtakes_call s hs p hp l hl [] (by decide) (fun y hy => by cases hy) (.sl none [] .zero) (Vle.nil _ _ _) 0 hk x.e hx
  have hr : goesR s p l [] k x = (decide (k = 0) && takesR s p l [] 0 x.e) := rfl
  rw [hr]
  rcases hbv with rfl | rfl
  all_goals
    refine scall_of (live := []) (ords := []) Tryz.func39 rfl (by kernel_rfl) (by kernel_rfl) (Nat.le_of_ble_eq_true rfl) ?_
    (repeat ((conv=>arg 2;whnf);first|refine wp_it rfl ?_|refine wp_if rfl ?_))
    (conv=>arg 2;whnf);refine wp_ite (fun h1 => ?_) (fun h1 => ?_)
    · have h1 : decide (k = 0) = true := by rw [decide_eq_true_iff]; have := beq_iff_eq.1 h1; omega
      rw [h1, Bool.true_and]
      (conv=>arg 2;whnf);refine wp_pcall ft ?_
      (conv=>arg 2;whnf);refine w_ret1 rfl (Vle.refl _) (List.nil_sublist _) rfl
    · have h1 : decide (k = 0) = false := by rw [decide_eq_false_iff_not]; have := beq_eq_false_iff_ne.1 h1; omega
      rw [h1, Bool.false_and]
      (repeat ((conv=>arg 2;whnf);first|refine wp_it rfl ?_|refine wp_if rfl ?_))
      (conv=>arg 2;whnf);refine w_ret1 rfl (Vle.refl _) (List.nil_sublist _) rfl
set_option maxRecDepth 100000 in
set_option maxHeartbeats 4000000 in
theorem rgoes_cons (s : Sc) (hs : ScOk s) (p : Pa) (hp : RfOkP p) (l : List Kp) (hl : RfOkL l) (b : List Bd) (hb : b.length < 2 ^ 29) (hbe : ∀ y ∈ b, y.elem < p.els.length) (hb0 : b ≠ []) (k : Nat) (hk : k < p.els.length) (x : Kp) (hx : EvIs x.e) :
    PCall Tryz.prog 39 [scV s, .agg (paC p), kpsV l, bdsV b, i64V k, kpV x] (bV (goesR s p l b k x)) := by
  have hpn := hp.n
  have hlast : (lastBd b).elem < p.els.length := hbe _ (List.mem_of_getElem? (last_at hb0))
  have hbl := List.length_pos_iff.2 hb0
  have e0 : (((b.map bdV).length : Int) == 0) = false := len_ne hb0
  have hw : IntKind.i64.wrap (((b.map bdV).length : Int) - 1) = ((b.length - 1 : Nat) : Int) := len_pred hb0 (by omega)
  have fa := rat_call l (b.headD bd0).at_ hl.n
  have fn := rnext_call p (lastBd b).elem hpn (by omega)
  have ft := rtakes_call s hs p hp l hl b hb hbe (bdsV b) (Vle.refl _) k hk x.e hx
  have ff := rfree_call s hs p hp l hl b hb hbe k hk (lastBd b).at_ x.at_
  obtain ⟨y, hy, _, hey⟩ := nt_at p hk
  have hsm := sameR_eq (b := b) hy
  refine scall_of (live := []) (ords := [(6, []), (8, [])]) Tryz.func39 rfl (by kernel_rfl) (by kernel_rfl) (Nat.le_of_ble_eq_true rfl) ?_
  (conv=>arg 2;whnf);refine wp_if e0 ?_
  (conv=>arg 2;whnf);refine wp_elem (b.length - 1) (bdV (lastBd b)) hw (bds_at (last_at hb0)) (Vle.refl _) ?_
  (conv=>arg 2;whnf);refine wp_allocE bdZ rfl fun q => ?_
  (conv=>arg 2;whnf);refine wp_storeE (cs := bdZ) 0 0 (bdC (lastBd b)) rfl rfl (VleL.refl _) (Nat.le_refl _) rfl (R' := [.obj q (bdC (lastBd b))]) rfl ?_
  (conv=>arg 2;whnf);refine wp_elem 0 (bdV (b.headD bd0)) rfl (bds_at (head_at hb0)) (Vle.refl _) ?_
  cases ha : atE l (b.headD bd0).at_ with
  | none =>
    rw [ha] at fa
    have hr := goesR_none (s := s) (p := p) (k := k) (x := x) hb0 ha
    rw [hr]
    (conv=>arg 2;whnf);refine wp_pcall fa ?_
    (conv=>arg 2;whnf);refine wp_allocE evZ rfl fun u => ?_
    (conv=>arg 2;whnf);refine wp_storeE (cs := evZ) 1 0 (evC ev0) rfl rfl (VleL.refl _) (Nat.le_refl _) rfl (R' := [.obj q (bdC (lastBd b)), .obj u (evC ev0)]) rfl ?_
    (conv=>arg 2;whnf);refine wp_load (cs := bdC (lastBd b)) 0 rfl rfl ?_
    apply wp_joinT
    case h1 =>
      intro rest
      (conv=>arg 2;whnf);refine wp_ite (fun h1 => ?_) (fun h1 => ?_)
      · (conv=>arg 2;whnf);refine wp_elem k (elV y) rfl (els_at2 hy) (Vle.refl _) ?_
        (conv=>arg 2;whnf)
        exact wp_cutR (frL [(15, bV false)]) [] (.cons (.refl _) (.nil _)) (List.nil_sublist _) rest
      · (repeat ((conv=>arg 2;whnf);first|refine wp_it rfl ?_|refine wp_if rfl ?_))
        exact wp_cutR (frL [(15, bV false)]) [] (.cons (.refl _) (.nil _)) (List.nil_sublist _) rest
    case rest =>
      (repeat ((conv=>arg 2;whnf);first|refine wp_it rfl ?_|refine wp_if rfl ?_))
      (conv=>arg 2;whnf);refine w_ret1 rfl (Vle.refl _) (List.nil_sublist _) rfl
  | some f =>
    rw [ha] at fa
    have hr := goesR_some (s := s) (p := p) (k := k) (x := x) hb0 ha
    (conv=>arg 2;whnf);refine wp_pcall fa ?_
    (conv=>arg 2;whnf);refine wp_allocE evZ rfl fun u => ?_
    (conv=>arg 2;whnf);refine wp_storeE (cs := evZ) 1 0 (evC f) rfl rfl (VleL.refl _) (Nat.le_refl _) rfl (R' := [.obj q (bdC (lastBd b)), .obj u (evC f)]) rfl ?_
    (conv=>arg 2;whnf);refine wp_load (cs := bdC (lastBd b)) 0 rfl rfl ?_
    apply wp_joinT
    case h1 =>
      intro rest
      (conv=>arg 2;whnf);refine wp_ite (fun h1 => ?_) (fun h1 => ?_)
      · have hs2 : y.plus = sameR p b k := by rw [hsm, h1]; rfl
        (conv=>arg 2;whnf);refine wp_elem k (elV y) rfl (els_at2 hy) (Vle.refl _) ?_
        (conv=>arg 2;whnf)
        exact wp_cutP (frL [(2, kpsV l), (3, bdsV b), (4, i64V k), (6, .pt (some 1) (scV s) 0), (7, .pt (some 4) (.agg (paC p)) 0), (11, .pt (some 4) (kpV x) 0), (13, .pt (some 2) (bdV (lastBd b)) 0), (14, .pt (some 3) (evV f) 0), (15, bV true), (16, bV (sameR p b k))]) [] [.obj q (bdC (lastBd b)), .obj u (evC f)] (.cons (.refl _) (.cons (.refl _) (.cons (.refl _) (.cons (.refl _) (.cons (.refl _) (.cons (.refl _) (.cons (.all (List.Mem.head _) rfl (by decide) (VleL.refl _)) (.cons (.all (List.Mem.tail _ (List.Mem.head _)) rfl (by decide) (VleL.refl _)) (.cons (.refl _) (.cons (.vle (Vle.eq (cBool hs2))) (.nil _))))))))))) rest
      · have hs2 : false = sameR p b k := by rw [hsm, h1]; rfl
        (repeat ((conv=>arg 2;whnf);first|refine wp_it rfl ?_|refine wp_if rfl ?_))
        exact wp_cutP (frL [(2, kpsV l), (3, bdsV b), (4, i64V k), (6, .pt (some 1) (scV s) 0), (7, .pt (some 4) (.agg (paC p)) 0), (11, .pt (some 4) (kpV x) 0), (13, .pt (some 2) (bdV (lastBd b)) 0), (14, .pt (some 3) (evV f) 0), (15, bV true), (16, bV (sameR p b k))]) [] [.obj q (bdC (lastBd b)), .obj u (evC f)] (.cons (.refl _) (.cons (.refl _) (.cons (.refl _) (.cons (.refl _) (.cons (.refl _) (.cons (.refl _) (.cons (.all (List.Mem.head _) rfl (by decide) (VleL.refl _)) (.cons (.all (List.Mem.tail _ (List.Mem.head _)) rfl (by decide) (VleL.refl _)) (.cons (.refl _) (.cons (.vle (Vle.eq (cBool hs2))) (.nil _))))))))))) rest
    case rest =>
      obtain ⟨sm, hsmE⟩ : ∃ sm, sm = sameR p b k := ⟨_, rfl⟩
      rw [← hsmE] at hr ⊢
      have hts : ∀ {c : Bool}, goesR s p l b k x = (if x.e.ts - f.ts > p.within then false else c) → ¬ x.e.ts - f.ts > p.within → goesR s p l b k x = c := fun h h1 => by rw [h, if_neg h1]
      (repeat ((conv=>arg 2;whnf);first|refine wp_it rfl ?_|refine wp_if rfl ?_))
      (conv=>arg 2;whnf);refine wp_ite (fun h1 => ?_) (fun h1 => ?_)
      · have h1 : x.at_ ≤ (lastBd b).at_ := of_decide_eq_true h1
        rw [hr, if_pos h1]
        (repeat ((conv=>arg 2;whnf);first|refine wp_it rfl ?_|refine wp_if rfl ?_))
        (conv=>arg 2;whnf);refine w_ret1 rfl (Vle.refl _) (List.nil_sublist _) rfl
      · have h1 : ¬ x.at_ ≤ (lastBd b).at_ := of_decide_eq_false h1
        rw [if_neg h1] at hr
        have e4 : decide ((k : Int) < 0) = false := decide_eq_false (by omega)
        have hin : InR x.e.ts ∧ -1073741825 ≤ x.e.ts ∧ x.e.ts ≤ 1073741825 := ⟨by have := hx.1.2; unfold InR; omega, hx.1.2⟩
        have hfin := (hl.at_ ha).1.2
        have hsub : IntKind.i64.wrap (x.e.ts - f.ts) = x.e.ts - f.ts := w_i64_small (by omega) (by omega)
        clear fa ha
        cases sm with
        | true =>
          rw [if_neg (fun h => Bool.noConfusion h.1)] at hr
          (repeat ((conv=>arg 2;whnf);first|refine wp_it rfl ?_|refine wp_if rfl ?_))
          (conv=>arg 2;whnf);refine wp_ite (fun h5 => ?_) (fun h5 => ?_)
          · have h5 : IntKind.i64.wrap (x.e.ts - f.ts) > p.within := of_decide_eq_true h5
            rw [hsub] at h5
            rw [hr, if_pos h5]
            (conv=>arg 2;whnf);refine w_ret1 rfl (Vle.refl _) (List.nil_sublist _) rfl
          · have h5 : ¬ IntKind.i64.wrap (x.e.ts - f.ts) > p.within := of_decide_eq_false h5
            rw [hsub] at h5
            rw [if_neg h5, Bool.true_or, Bool.and_true] at hr
            (conv=>arg 2;whnf)
            refine wp_cutR (frL [(2, kpsV l), (3, bdsV b), (4, i64V k), (6, .pt (some 1) (scV s) 0), (7, .pt (some 4) (.agg (paC p)) 0), (11, .pt (some 4) (kpV x) 0), (16, bV true)]) [] (.cons (.refl _) (.cons (.refl _) (.cons (.refl _) (.cons (.refl _) (.cons (.refl _) (.cons (.refl _) (.cons (.refl _) (.nil _)))))))) (List.nil_sublist _) ?_
            (conv=>arg 2;whnf);refine wp_pcall ft ?_
            cases ht : takesR s p l b k x.e with
            | true =>
              (repeat ((conv=>arg 2;whnf);first|refine wp_it rfl ?_|refine wp_if rfl ?_))
              (conv=>arg 2;whnf);refine w_ret1 rfl (Vle.eq (cBool (by rw [hr, ht]))) (List.nil_sublist _) rfl
            | false =>
              (repeat ((conv=>arg 2;whnf);first|refine wp_it rfl ?_|refine wp_if rfl ?_))
              (conv=>arg 2;whnf);refine w_ret1 rfl (Vle.eq (cBool (by rw [hr, ht]))) (List.nil_sublist _) rfl
        | false =>
          (repeat ((conv=>arg 2;whnf);first|refine wp_it rfl ?_|refine wp_if rfl ?_))
          (conv=>arg 2;whnf);refine wp_pcall fn ?_
          (conv=>arg 2;whnf);refine wp_ite (fun h3 => ?_) (fun h3 => ?_)
          · have h3 : nextI p (lastBd b).elem ≠ k := by have := bne_iff_ne.1 h3; exact fun e => this e.symm
            rw [if_pos ⟨rfl, h3⟩] at hr
            rw [hr]
            (repeat ((conv=>arg 2;whnf);first|refine wp_it rfl ?_|refine wp_if rfl ?_))
            (conv=>arg 2;whnf);refine w_ret1 rfl (Vle.refl _) (List.nil_sublist _) rfl
          · have h3 : ¬ nextI p (lastBd b).elem ≠ k := by
              have := bne_eq_false_iff_eq.1 h3
              exact fun hc => hc this.symm
            rw [if_neg (fun h => h3 h.2)] at hr
            (conv=>arg 2;whnf);refine wp_if e4 ?_
            (conv=>arg 2;whnf);refine wp_ite (fun h5 => ?_) (fun h5 => ?_)
            · have h5 : IntKind.i64.wrap (x.e.ts - f.ts) > p.within := of_decide_eq_true h5
              rw [hsub] at h5
              rw [hr, if_pos h5]
              (conv=>arg 2;whnf);refine w_ret1 rfl (Vle.refl _) (List.nil_sublist _) rfl
            · have h5 : ¬ IntKind.i64.wrap (x.e.ts - f.ts) > p.within := of_decide_eq_false h5
              rw [hsub] at h5
              rw [if_neg h5, Bool.false_or] at hr
              (conv=>arg 2;whnf)
              refine wp_cutR (frL [(2, kpsV l), (3, bdsV b), (4, i64V k), (6, .pt (some 1) (scV s) 0), (7, .pt (some 4) (.agg (paC p)) 0), (11, .pt (some 4) (kpV x) 0), (13, .pt (some 2) (bdV (lastBd b)) 0), (16, bV false)]) [] (.cons (.refl _) (.cons (.refl _) (.cons (.refl _) (.cons (.refl _) (.cons (.refl _) (.cons (.refl _) (.cons (.refl _) (.cons (.refl _) (.nil _))))))))) (List.nil_sublist _) ?_
              (conv=>arg 2;whnf);refine wp_pcall ft ?_
              cases ht : takesR s p l b k x.e with
              | true =>
                (repeat ((conv=>arg 2;whnf);first|refine wp_it rfl ?_|refine wp_if rfl ?_))
                (conv=>arg 2;whnf);refine wp_pcall ff ?_
                (conv=>arg 2;whnf);refine w_ret1 rfl (Vle.eq (cBool (by rw [hr, ht]; rfl))) (List.nil_sublist _) rfl
              | false =>
                (repeat ((conv=>arg 2;whnf);first|refine wp_it rfl ?_|refine wp_if rfl ?_))
                (conv=>arg 2;whnf);refine w_ret1 rfl (Vle.eq (cBool (by rw [hr, ht]; rfl))) (List.nil_sublist _) rfl
set_option maxRecDepth 100000 in
set_option maxHeartbeats 4000000 in
theorem rgoes_neg (s : Sc) (p : Pa) (hpn : p.els.length < 2 ^ 60) (l : List Kp) (hl : l.length < 2 ^ 60) (b : List Bd) (hb : b.length < 2 ^ 29) (hbe : ∀ y ∈ b, y.elem < p.els.length) (hb0 : b ≠ []) (x : Kp) :
    PCall Tryz.prog 39 [scV s, .agg (paC p), kpsV l, bdsV b, i64V (-1), kpV x] (bV false) := by
  have hlast : (lastBd b).elem < p.els.length := hbe _ (List.mem_of_getElem? (last_at hb0))
  have e0 : (((b.map bdV).length : Int) == 0) = false := len_ne hb0
  have hw : IntKind.i64.wrap (((b.map bdV).length : Int) - 1) = ((b.length - 1 : Nat) : Int) := len_pred hb0 (by omega)
  obtain ⟨ok, fa⟩ := firstR_call l hl b
  have fn := rnext_call p (lastBd b).elem hpn (by omega)
  have e1 : ((-1 : Int) == ((lastBd b).elem : Int)) = false := by rw [beq_eq_false_iff_ne]; omega
  refine scall_of (live := []) (ords := [(6, [])]) Tryz.func39 rfl (by kernel_rfl) (by kernel_rfl) (Nat.le_of_ble_eq_true rfl) ?_
  (conv=>arg 2;whnf);refine wp_if e0 ?_
  (conv=>arg 2;whnf);refine wp_elem (b.length - 1) (bdV (lastBd b)) hw (bds_at (last_at hb0)) (Vle.refl _) ?_
  (conv=>arg 2;whnf);refine wp_allocE bdZ rfl fun q => ?_
  (conv=>arg 2;whnf);refine wp_storeE (cs := bdZ) 0 0 (bdC (lastBd b)) rfl rfl (VleL.refl _) (Nat.le_refl _) rfl (R' := [.obj q (bdC (lastBd b))]) rfl ?_
  (conv=>arg 2;whnf);refine wp_elem 0 (bdV (b.headD bd0)) rfl (bds_at (head_at hb0)) (Vle.refl _) ?_
  (conv=>arg 2;whnf);refine wp_pcall fa ?_
  (conv=>arg 2;whnf);refine wp_allocE evZ rfl fun u => ?_
  (conv=>arg 2;whnf);refine wp_storeE (cs := evZ) 1 0 (evC (firstEv l b)) rfl rfl (VleL.refl _) (Nat.le_refl _) rfl (R' := [.obj q (bdC (lastBd b)), .obj u (evC (firstEv l b))]) rfl ?_
  (conv=>arg 2;whnf);refine wp_load (cs := bdC (lastBd b)) 0 rfl rfl ?_
  (conv=>arg 2;whnf);refine wp_if e1 ?_
  (conv=>arg 2;whnf)
  refine wp_cutP (frL [(4, i64V (-1)), (7, .pt (some 4) (.agg (paC p)) 0), (11, .pt (some 4) (kpV x) 0), (13, .pt (some 2) (bdV (lastBd b)) 0), (15, bV ok), (16, bV false)]) [] [.obj q (bdC (lastBd b)), .obj u (evC (firstEv l b))] (.cons (.refl _) (.cons (.refl _) (.cons (.refl _) (.cons (.all (List.Mem.head _) rfl (by decide) (VleL.refl _)) (.cons (.refl _) (.cons (.refl _) (.nil _))))))) ?_
  cases ok with
  | false =>
    (repeat ((conv=>arg 2;whnf);first|refine wp_it rfl ?_|refine wp_if rfl ?_))
    (conv=>arg 2;whnf);refine w_ret1 rfl (Vle.refl _) (List.nil_sublist _) rfl
  | true =>
    (repeat ((conv=>arg 2;whnf);first|refine wp_it rfl ?_|refine wp_if rfl ?_))
    (conv=>arg 2;whnf);refine wp_ite (fun h1 => ?_) (fun h1 => ?_)
    · (repeat ((conv=>arg 2;whnf);first|refine wp_it rfl ?_|refine wp_if rfl ?_))
      (conv=>arg 2;whnf);refine w_ret1 rfl (Vle.refl _) (List.nil_sublist _) rfl
    · (repeat ((conv=>arg 2;whnf);first|refine wp_it rfl ?_|refine wp_if rfl ?_))
      (conv=>arg 2;whnf);refine wp_pcall fn ?_
      (conv=>arg 2;whnf);refine wp_ite (fun h3 => ?_) (fun h3 => ?_)
      · (repeat ((conv=>arg 2;whnf);first|refine wp_it rfl ?_|refine wp_if rfl ?_))
        (conv=>arg 2;whnf);refine w_ret1 rfl (Vle.refl _) (List.nil_sublist _) rfl
      · (repeat ((conv=>arg 2;whnf);first|refine wp_it rfl ?_|refine wp_if rfl ?_))
        (conv=>arg 2;whnf);refine w_ret1 rfl (Vle.refl _) (List.nil_sublist _) rfl
end Go.Sv
namespace Go.Sv
open Go Go.Proofs
def fitR (s : Sc) (p : Pa) (l : List Kp) (b : List Bd) (i : Nat) : Bool :=
  match atE l (b.getD i bd0).at_ with
  | none => false
  | some e => decide ((b.getD i bd0).elem < p.els.length) && (!ntAt p.els (b.getD i bd0).elem && goesR s p l (b.take i) (b.getD i bd0).elem ⟨(b.getD i bd0).at_, e⟩)
def goesI (s : Sc) (p : Pa) (l : List Kp) (b : List Bd) (k : Int) (x : Kp) : Bool := if k < 0 then false else goesR s p l b k.toNat x
def skip1 (s : Sc) (p : Pa) (l : List Kp) (b : List Bd) (i : Nat) (y : Kp) : Bool :=
  (decide ((b.getD (i - 1) bd0).at_ < y.at_) && decide (y.at_ < (b.getD i bd0).at_)) && (goesR s p l (b.take i) (b.getD (i - 1) bd0).elem y || goesI s p l (b.take i) (nextI p (b.getD (i - 1) bd0).elem) y)
def skipR (s : Sc) (p : Pa) (l : List Kp) (b : List Bd) (i : Nat) : Bool := l.any (skip1 s p l b i)
def preR (s : Sc) (p : Pa) (l : List Kp) (b : List Bd) : Bool :=
  decide (b ≠ []) && (List.range b.length).all fun i => fitR s p l b i && (decide (i = 0) || p.any || !skipR s p l b i)
theorem rgoes_call (s : Sc) (hs : ScOk s) (p : Pa) (hp : RfOkP p) (l : List Kp) (hl : RfOkL l) (b : List Bd) (hb : b.length < 2 ^ 29) (hbe : ∀ y ∈ b, y.elem < p.els.length) (k : Nat) (hk : k < p.els.length) (x : Kp) (hx : EvIs x.e) :
    PCall Tryz.prog 39 [scV s, .agg (paC p), kpsV l, bdsV b, i64V k, kpV x] (bV (goesR s p l b k x)) := by
  by_cases h : b = []
  · subst h; exact rgoes_nil s hs p hp l hl _ (.inl rfl) k (by omega) x hx
  · exact rgoes_cons s hs p hp l hl b hb hbe h k hk x hx
theorem rgoesI_call (s : Sc) (hs : ScOk s) (p : Pa) (hp : RfOkP p) (l : List Kp) (hl : RfOkL l) (b : List Bd) (hb : b.length < 2 ^ 29) (hbe : ∀ y ∈ b, y.elem < p.els.length) (h0 : b ≠ []) (k : Nat) (x : Kp) (hx : EvIs x.e) :
    PCall Tryz.prog 39 [scV s, .agg (paC p), kpsV l, bdsV b, i64V (nextI p k), kpV x] (bV (goesI s p l b (nextI p k) x)) := by
  unfold nextI
  cases h : nextE p k with
  | none => exact rgoes_neg s p hp.n l hl.n b hb hbe h0 x
  | some n =>
    have hn := (nextE_some h).2.1
    have e : goesI s p l b (n : Int) x = goesR s p l b n x := by rw [goesI, if_neg (by omega)]; rfl
    simp only [e]
    exact rgoes_call s hs p hp l hl b hb hbe n hn x hx
set_option maxRecDepth 100000 in
set_option maxHeartbeats 4000000 in
theorem rprefix_call (s : Sc) (hs : ScOk s) (p : Pa) (hp : RfOkP p) (l : List Kp) (hl : RfOkL l) (b : List Bd) (hb : b.length < 2 ^ 29) (hbe : ∀ y ∈ b, y.elem < 2 ^ 60) :
    PCall Tryz.prog 15 [scV s, .agg (paC p), kpsV l, bdsV b] (bV (preR s p l b)) := by
  have hpn := hp.n
  have hln := hl.n
  refine scall_of (live := []) (ords := [(7, []), (9, []), (13, [])]) Tryz.func15 rfl (by kernel_rfl) (by kernel_rfl) (Nat.le_of_ble_eq_true rfl) ?_
  by_cases hb0 : b = []
  · subst hb0
    (repeat ((conv=>arg 2;whnf);first|refine wp_it rfl ?_|refine wp_if rfl ?_))
    (conv=>arg 2;whnf);refine w_ret1 rfl (Vle.refl _) (List.nil_sublist _) rfl
  have e0 : (((b.map bdV).length : Int) == 0) = false := len_ne hb0
  have hpr : preR s p l b = (List.range b.length).all fun i => fitR s p l b i && (decide (i = 0) || p.any || !skipR s p l b i) := by rw [preR, decide_eq_true hb0, Bool.true_and]
  (conv=>arg 2;whnf);refine wp_if e0 ?_
  (conv=>arg 2;whnf);refine wp_loop (fun m fr R => ∃ n : Nat, m = b.length - n ∧ n ≤ b.length ∧ R = [] ∧ (List.range n).all (fun i => fitR s p l b i && (decide (i = 0) || p.any || !skipR s p l b i)) = true ∧ fr = frL [(2, kpsV l), (3, bdsV b), (4, .pt (some 1) (scV s) 0), (5, .pt (some 4) (.agg (paC p)) 0), (9, i64V n)])
    b.length _ _ (.cons (.refl _) (.cons (.refl _) (.cons (.refl _) (.cons (.refl _) (.cons (.refl _) (.nil _)))))) (List.Sublist.refl _) ⟨0, rfl, Nat.zero_le _, rfl, rfl, rfl⟩ ?_
  rintro m fr R ⟨n, rfl, hn, rfl, ha, rfl⟩
  (conv=>arg 2;whnf);refine wp_ite (fun h => ?_) (fun h => ?_)
  · have h : n < b.length := by
      have := of_decide_eq_true h
      rw [List.length_map] at this; omega
    obtain ⟨x, hx⟩ : ∃ x, b[n]? = some x := ⟨_, List.getElem?_eq_getElem h⟩
    have hxe := hbe x (List.mem_of_getElem? hx)
    have hgx : b.getD n bd0 = x := getD_at hx
    have fa := rat_call l x.at_ hl.n
    have htk : ∀ y ∈ b.take n, y.elem < p.els.length := by
      intro y hy
      obtain ⟨i, hi⟩ := List.mem_iff_getElem?.1 hy
      have hin : i < n := by have := (List.getElem?_eq_some_iff.1 hi).1; rw [List.length_take] at this; omega
      have hbi : b[i]? = some y := by rw [List.getElem?_take] at hi; rw [if_pos hin] at hi; exact hi
      have := List.all_eq_true.1 ha i (List.mem_range.2 hin)
      rw [Bool.and_eq_true] at this
      have h1 := this.1
      unfold fitR at h1
      split at h1
      · cases h1
      · rw [Bool.and_eq_true, decide_eq_true_iff, getD_at hbi] at h1
        exact h1.1
    have hmiss : (fitR s p l b n && (decide (n = 0) || p.any || !skipR s p l b n)) = false → false = preR s p l b := fun e => by rw [hpr]; exact (rng_miss h e).symm
    have hnext : (fitR s p l b n && (decide (n = 0) || p.any || !skipR s p l b n)) = true → (List.range (n + 1)).all (fun i => fitR s p l b i && (decide (i = 0) || p.any || !skipR s p l b i)) = true := fun e => rng_next ha e
    have hneed : (0 : Int) ≤ n ∧ (n : Int) ≤ (b.map bdV).length := by rw [List.length_map]; omega
    obtain ⟨r, hrE⟩ : ∃ r, r = fitR s p l b n := ⟨_, rfl⟩
    rw [← hrE] at hmiss hnext
    (conv=>arg 2;whnf);refine wp_elem n (bdV x) rfl (bds_at hx) (Vle.refl _) ?_
    cases hat : atE l x.at_ with
    | none =>
      rw [hat] at fa
      have hok : r = false := by rw [hrE, fitR, hgx, hat]
      (conv=>arg 2;whnf);refine wp_pcall fa ?_
      (conv=>arg 2;whnf);refine wp_allocE evZ rfl fun u => ?_
      (conv=>arg 2;whnf);refine wp_storeE (cs := evZ) 0 0 (evC ev0) rfl rfl (VleL.refl _) (Nat.le_refl _) rfl (R' := [.obj u (evC ev0)]) rfl ?_
      (conv=>arg 2;whnf)
      refine wp_cutR (frL [(11, bV false)]) [] (.cons (.refl _) (.nil _)) (List.nil_sublist _) ?_
      (repeat ((conv=>arg 2;whnf);first|refine wp_it rfl ?_|refine wp_if rfl ?_))
      (conv=>arg 2;whnf)
      refine wp_leaf (loop_ret ?_)
      (conv=>arg 2;whnf);refine w_ret1 rfl (Vle.eq (cBool (hmiss (by rw [hok]; rfl)))) (List.nil_sublist _) rfl
    | some e =>
      rw [hat] at fa
      have hev := hl.at_ hat
      have hok : r = (decide (x.elem < p.els.length) && (!ntAt p.els x.elem && goesR s p l (b.take n) x.elem ⟨x.at_, e⟩)) := by rw [hrE, fitR, hgx, hat]
      clear hrE
      (conv=>arg 2;whnf);refine wp_pcall fa ?_
      (conv=>arg 2;whnf);refine wp_allocE evZ rfl fun u => ?_
      (conv=>arg 2;whnf);refine wp_storeE (cs := evZ) 0 0 (evC e) rfl rfl (VleL.refl _) (Nat.le_refl _) rfl (R' := [.obj u (evC e)]) rfl ?_
      (conv=>arg 2;whnf)
      refine wp_cutP (frL [(2, kpsV l), (3, bdsV b), (4, .pt (some 1) (scV s) 0), (5, .pt (some 4) (.agg (paC p)) 0), (9, i64V n), (10, .pt (some 3) (evV e) 0), (11, bV true)]) [] [.obj u (evC e)] (.cons (.refl _) (.cons (.refl _) (.cons (.refl _) (.cons (.refl _) (.cons (.refl _) (.cons (.all (List.Mem.head _) rfl (by decide) (VleL.refl _)) (.cons (.refl _) (.nil _)))))))) ?_
      clear fa
      (repeat ((conv=>arg 2;whnf);first|refine wp_it rfl ?_|refine wp_if rfl ?_))
      (conv=>arg 2;whnf);refine wp_elem n (bdV x) rfl (bds_at hx) (Vle.refl _) ?_
      (conv=>arg 2;whnf);refine wp_ite (fun h => absurd (of_decide_eq_true h) (by omega)) (fun _ => ?_)
      (conv=>arg 2;whnf);refine wp_elem n (bdV x) rfl (bds_at hx) (Vle.refl _) ?_
      (conv=>arg 2;whnf);refine wp_ite (fun h2 => ?_) (fun h2 => ?_)
      · have h2 : decide (x.elem < p.els.length) = false := decide_eq_false (by have := of_decide_eq_true h2; rw [List.length_map] at this; omega)
        rw [h2] at hok
        (repeat ((conv=>arg 2;whnf);first|refine wp_it rfl ?_|refine wp_if rfl ?_))
        (conv=>arg 2;whnf)
        refine wp_leaf (loop_ret ?_)
        (conv=>arg 2;whnf);refine w_ret1 rfl (Vle.eq (cBool (hmiss (by rw [hok]; rfl)))) (List.nil_sublist _) rfl
      · have h2 : x.elem < p.els.length := by have := of_decide_eq_false h2; rw [List.length_map] at this; omega
        obtain ⟨y, hy, hnt, _⟩ := nt_at p h2
        rw [decide_eq_true h2, Bool.true_and] at hok
        (conv=>arg 2;whnf);refine wp_elem n (bdV x) rfl (bds_at hx) (Vle.refl _) ?_
        (conv=>arg 2;whnf);refine wp_elem x.elem (elV y) rfl (els_at2 hy) (Vle.refl _) ?_
        (conv=>arg 2;whnf);refine wp_ite (fun h3 => ?_) (fun h3 => ?_)
        · have h3 : ntAt p.els x.elem = true := hnt ▸ h3
          rw [h3] at hok
          (repeat ((conv=>arg 2;whnf);first|refine wp_it rfl ?_|refine wp_if rfl ?_))
          (conv=>arg 2;whnf)
          refine wp_leaf (loop_ret ?_)
          (conv=>arg 2;whnf);refine w_ret1 rfl (Vle.eq (cBool (hmiss (by rw [hok]; rfl)))) (List.nil_sublist _) rfl
        · have h3 : ntAt p.els x.elem = false := hnt ▸ h3
          rw [h3] at hok
          have hok : r = goesR s p l (b.take n) x.elem ⟨x.at_, e⟩ := hok
          have hbl : (b.take n).length < 2 ^ 29 := by rw [List.length_take]; omega
          have fg := rgoes_call s hs p hp l hl (b.take n) hbl htk x.elem h2 ⟨x.at_, e⟩ hev
          rw [← hok] at fg
          (conv=>arg 2;whnf);refine wp_need hneed ?_
          (conv=>arg 2;whnf);refine wp_elem n (bdV x) rfl (bds_at hx) (Vle.refl _) ?_
          (conv=>arg 2;whnf);refine wp_elem n (bdV x) rfl (bds_at hx) (Vle.refl _) ?_
          (conv=>arg 2;whnf);refine wp_pcV (.cons (.refl _) (.cons (.refl _) (.cons (.refl _) (.cons (bds_take b n) (.cons (.refl _) (.cons (.refl _) .nil)))))) fg ?_
          clear hok fg
          cases r with
          | false =>
            (repeat ((conv=>arg 2;whnf);first|refine wp_it rfl ?_|refine wp_if rfl ?_))
            (conv=>arg 2;whnf)
            refine wp_leaf (loop_ret ?_)
            (conv=>arg 2;whnf);refine w_ret1 rfl (Vle.eq (cBool (hmiss rfl))) (List.nil_sublist _) rfl
          | true =>
            rw [Bool.true_and] at hmiss hnext
            (repeat ((conv=>arg 2;whnf);first|refine wp_it rfl ?_|refine wp_if rfl ?_))
            refine wp_cutR (frL [(2, kpsV l), (3, bdsV b), (4, .pt (some 1) (scV s) 0), (5, .pt (some 4) (.agg (paC p)) 0), (9, i64V n)]) [] (.cons (.refl _) (.cons (.refl _) (.cons (.refl _) (.cons (.refl _) (.cons (.refl _) (.nil _)))))) (List.nil_sublist _) ?_
            (conv=>arg 2;whnf);refine wp_ite (fun h4 => ?_) (fun h4 => ?_)
            · have h4 : n = 0 := by have := beq_iff_eq.1 h4; omega
              (repeat ((conv=>arg 2;whnf);first|refine wp_it rfl ?_|refine wp_if rfl ?_))
              (conv=>arg 2;whnf)
              exact wp_leaf (loop_next (b.length - (n + 1)) _ [] (by omega) (.cons (.refl _) (.cons (.refl _) (.cons (.refl _) (.cons (.refl _) (.cons (Vle.inc n rfl (by omega)) (.nil _)))))) (List.Sublist.refl _) ⟨n + 1, rfl, h, rfl, hnext (by rw [decide_eq_true h4]; rfl), rfl⟩)
            · have h4 : n ≠ 0 := by have := beq_eq_false_iff_ne.1 h4; omega
              (conv=>arg 2;whnf);refine wp_ite (fun h5 => ?_) (fun h5 => ?_)
              · have h5 : p.any = true := h5
                (conv=>arg 2;whnf)
                exact wp_leaf (loop_next (b.length - (n + 1)) _ [] (by omega) (.cons (.refl _) (.cons (.refl _) (.cons (.refl _) (.cons (.refl _) (.cons (Vle.inc n rfl (by omega)) (.nil _)))))) (List.Sublist.refl _) ⟨n + 1, rfl, h, rfl, hnext (by rw [h5]; simp), rfl⟩)
              · have h5 : p.any = false := h5
                have hnext : (!skipR s p l b n) = true → _ := fun e => hnext (by rw [h5, decide_eq_false h4, Bool.false_or, Bool.false_or]; exact e)
                rw [h5, decide_eq_false h4, Bool.false_or, Bool.false_or] at hmiss
                obtain ⟨z, hz⟩ : ∃ z, b[n - 1]? = some z := ⟨_, List.getElem?_eq_getElem (by omega)⟩
                have hze : z.elem < p.els.length := htk z (List.mem_of_getElem? (i := n - 1) (by rw [List.getElem?_take, if_pos (by omega)]; exact hz))
                have hgz : b.getD (n - 1) bd0 = z := getD_at hz
                have hne0 : b.take n ≠ [] := fun e => by
                  have := congrArg List.length e
                  rw [List.length_take] at this
                  simp only [List.length_nil] at this; omega
                have hw : IntKind.i64.wrap ((n : Int) - 1) = ((n - 1 : Nat) : Int) := by rw [w_i64_small (by omega) (by omega)]; omega
                have hsk : ∀ y, skip1 s p l b n y = ((decide (z.at_ < y.at_) && decide (y.at_ < x.at_)) && (goesR s p l (b.take n) z.elem y || goesI s p l (b.take n) (nextI p z.elem) y)) := fun y => by rw [skip1, hgx, hgz]
                have fn := rnext_call p z.elem hpn (by omega)
                (conv=>arg 2;whnf);refine wp_loop (fun m' fr R => ∃ k : Nat, m' = l.length - k ∧ k ≤ l.length ∧ R = [] ∧ (l.take k).any (skip1 s p l b n) = false ∧ fr = frL [(2, kpsV l), (3, bdsV b), (4, .pt (some 1) (scV s) 0), (5, .pt (some 4) (.agg (paC p)) 0), (9, i64V n), (12, i64V k)])
                  l.length _ _ (.cons (.refl _) (.cons (.refl _) (.cons (.refl _) (.cons (.refl _) (.cons (.refl _) (.cons (.refl _) (.nil _))))))) (List.Sublist.refl _) ⟨0, rfl, Nat.zero_le _, rfl, rfl, rfl⟩ ?_
                rintro m' fr R ⟨k, rfl, hk, rfl, hak, rfl⟩
                (conv=>arg 2;whnf);refine wp_ite (fun h6 => ?_) (fun h6 => ?_)
                · have h6 : k < l.length := by
                    have := of_decide_eq_true h6
                    rw [List.length_map] at this; omega
                  obtain ⟨y, hy2⟩ : ∃ y, l[k]? = some y := ⟨_, List.getElem?_eq_getElem h6⟩
                  have hyi := hl.ev (List.mem_of_getElem? hy2)
                  have fg1 := rgoes_call s hs p hp l hl (b.take n) hbl htk z.elem hze y hyi
                  have fg2 := rgoesI_call s hs p hp l hl (b.take n) hbl htk hne0 z.elem y hyi
                  have hsy := hsk y
                  obtain ⟨r1, hr1⟩ : ∃ r1, r1 = goesR s p l (b.take n) z.elem y := ⟨_, rfl⟩
                  obtain ⟨r2, hr2⟩ : ∃ r2, r2 = goesI s p l (b.take n) (nextI p z.elem) y := ⟨_, rfl⟩
                  rw [← hr1] at fg1 hsy
                  rw [← hr2] at fg2 hsy
                  clear hr1 hr2
                  have hgo : skip1 s p l b n y = false → (l.take (k + 1)).any (skip1 s p l b n) = false := fun e => any_next hak hy2 e
                  have hstop : skip1 s p l b n y = true → false = preR s p l b := fun e => hmiss (by
                    have : skipR s p l b n = true := List.any_eq_true.2 ⟨y, List.mem_of_getElem? hy2, e⟩
                    rw [this]; rfl)
                  (conv=>arg 2;whnf)
                  refine wp_cutR (frL [(2, kpsV l), (3, bdsV b), (4, .pt (some 1) (scV s) 0), (5, .pt (some 4) (.agg (paC p)) 0), (9, i64V n), (12, i64V k)]) [] (.cons (.refl _) (.cons (.refl _) (.cons (.refl _) (.cons (.refl _) (.cons (.refl _) (.cons (.refl _) (.nil _))))))) (List.nil_sublist _) ?_
                  (conv=>arg 2;whnf);refine wp_elem k (kpV y) rfl (kps_at hy2) (Vle.refl _) ?_
                  (conv=>arg 2;whnf);refine wp_elem (n - 1) (bdV z) hw (bds_at hz) (Vle.refl _) ?_
                  (conv=>arg 2;whnf);refine wp_ite (fun h7 => ?_) (fun h7 => ?_)
                  · have h7 : decide (z.at_ < y.at_) = true := h7
                    (conv=>arg 2;whnf);refine wp_elem k (kpV y) rfl (kps_at hy2) (Vle.refl _) ?_
                    (conv=>arg 2;whnf);refine wp_elem n (bdV x) rfl (bds_at hx) (Vle.refl _) ?_
                    (conv=>arg 2;whnf);refine wp_ite (fun h8 => ?_) (fun h8 => ?_)
                    · have h8 : decide (y.at_ < x.at_) = true := h8
                      rw [h7, h8, Bool.and_self, Bool.true_and] at hsy
                      (conv=>arg 2;whnf);refine wp_need hneed ?_
                      (conv=>arg 2;whnf);refine wp_elem (n - 1) (bdV z) hw (bds_at hz) (Vle.refl _) ?_
                      (conv=>arg 2;whnf);refine wp_elem k (kpV y) rfl (kps_at hy2) (Vle.refl _) ?_
                      (conv=>arg 2;whnf);refine wp_pcV (.cons (.refl _) (.cons (.refl _) (.cons (.refl _) (.cons (bds_take b n) (.cons (.refl _) (.cons (.refl _) .nil)))))) fg1 ?_
                      clear fg1
                      cases r1 with
                      | true =>
                        rw [Bool.true_or] at hsy
                        (repeat ((conv=>arg 2;whnf);first|refine wp_it rfl ?_|refine wp_if rfl ?_))
                        (conv=>arg 2;whnf)
                        refine wp_leaf (loop_ret (loop_ret ?_))
                        (conv=>arg 2;whnf);refine w_ret1 rfl (Vle.eq (cBool (hstop hsy))) (List.nil_sublist _) rfl
                      | false =>
                        rw [Bool.false_or] at hsy
                        (repeat ((conv=>arg 2;whnf);first|refine wp_it rfl ?_|refine wp_if rfl ?_))
                        (conv=>arg 2;whnf);refine wp_need hneed ?_
                        (conv=>arg 2;whnf);refine wp_elem (n - 1) (bdV z) hw (bds_at hz) (Vle.refl _) ?_
                        (conv=>arg 2;whnf);refine wp_pc fn ?_
                        (conv=>arg 2;whnf);refine wp_elem k (kpV y) rfl (kps_at hy2) (Vle.refl _) ?_
                        (conv=>arg 2;whnf);refine wp_pcV (.cons (.refl _) (.cons (.refl _) (.cons (.refl _) (.cons (bds_take b n) (.cons (.refl _) (.cons (.refl _) .nil)))))) fg2 ?_
                        clear fg2
                        cases r2 with
                        | true =>
                          (repeat ((conv=>arg 2;whnf);first|refine wp_it rfl ?_|refine wp_if rfl ?_))
                          (conv=>arg 2;whnf)
                          refine wp_leaf (loop_ret (loop_ret ?_))
                          (conv=>arg 2;whnf);refine w_ret1 rfl (Vle.eq (cBool (hstop hsy))) (List.nil_sublist _) rfl
                        | false =>
                          (repeat ((conv=>arg 2;whnf);first|refine wp_it rfl ?_|refine wp_if rfl ?_))
                          (conv=>arg 2;whnf)
                          exact wp_leaf (loop_next (l.length - (k + 1)) _ [] (by omega) (.cons (.refl _) (.cons (.refl _) (.cons (.refl _) (.cons (.refl _) (.cons (.refl _) (.cons (Vle.inc k rfl (by omega)) (.nil _))))))) (List.Sublist.refl _) ⟨k + 1, rfl, h6, rfl, hgo hsy, rfl⟩)
                    · have h8 : decide (y.at_ < x.at_) = false := h8
                      rw [h8, Bool.and_false, Bool.false_and] at hsy
                      (repeat ((conv=>arg 2;whnf);first|refine wp_it rfl ?_|refine wp_if rfl ?_))
                      (conv=>arg 2;whnf)
                      exact wp_leaf (loop_next (l.length - (k + 1)) _ [] (by omega) (.cons (.refl _) (.cons (.refl _) (.cons (.refl _) (.cons (.refl _) (.cons (.refl _) (.cons (Vle.inc k rfl (by omega)) (.nil _))))))) (List.Sublist.refl _) ⟨k + 1, rfl, h6, rfl, hgo hsy, rfl⟩)
                  · have h7 : decide (z.at_ < y.at_) = false := h7
                    rw [h7, Bool.false_and, Bool.false_and] at hsy
                    (repeat ((conv=>arg 2;whnf);first|refine wp_it rfl ?_|refine wp_if rfl ?_))
                    (conv=>arg 2;whnf)
                    exact wp_leaf (loop_next (l.length - (k + 1)) _ [] (by omega) (.cons (.refl _) (.cons (.refl _) (.cons (.refl _) (.cons (.refl _) (.cons (.refl _) (.cons (Vle.inc k rfl (by omega)) (.nil _))))))) (List.Sublist.refl _) ⟨k + 1, rfl, h6, rfl, hgo hsy, rfl⟩)
                · have h6 : k = l.length := by
                    have := of_decide_eq_false h6
                    rw [List.length_map] at this; omega
                  rw [h6, List.take_length] at hak
                  have hn2 := hnext (by rw [skipR, hak]; rfl)
                  (conv=>arg 2;whnf)
                  refine wp_leaf (loop_exit ?_)
                  (conv=>arg 2;whnf)
                  exact wp_leaf (loop_next (b.length - (n + 1)) _ [] (by omega) (.cons (.refl _) (.cons (.refl _) (.cons (.refl _) (.cons (.refl _) (.cons (Vle.inc n rfl (by omega)) (.nil _)))))) (List.Sublist.refl _) ⟨n + 1, rfl, h, rfl, hn2, rfl⟩)
  · have h : n = b.length := by
      have := of_decide_eq_false h
      rw [List.length_map] at this; omega
    rw [h] at ha
    have hend : true = preR s p l b := by rw [hpr]; exact ha.symm
    (conv=>arg 2;whnf)
    refine wp_leaf (loop_exit ?_)
    (conv=>arg 2;whnf);refine w_ret1 rfl (Vle.eq (cBool hend)) (List.nil_sublist _) rfl
end Go.Sv
namespace Go.Sv
open Go Go.Proofs
theorem cmpI_lt {x y : Int} : cmpI x y < 0 ↔ x < y := by
  rcases cmpI_cases x y with ⟨h, e⟩ | ⟨h, e⟩ | ⟨h, e⟩ <;> rw [e] <;> simp <;> omega
theorem cmpI_ne {x y : Int} : cmpI x y ≠ 0 ↔ x ≠ y := by
  rcases cmpI_cases x y with ⟨h, e⟩ | ⟨h, e⟩ | ⟨h, e⟩ <;> rw [e] <;> simp <;> omega
theorem ordR_cons (x y : Bd) (a b : List Bd) : ordR (x :: a) (y :: b) = orI (ordBd x y) (ordR a b) := rfl
theorem less_at {x y : Bd} {a b : List Bd} (h : x.at_ ≠ y.at_) : lessR (x :: a) (y :: b) = decide (x.at_ < y.at_) := by
  have h1 : cmpI x.at_ y.at_ ≠ 0 := cmpI_ne.2 h
  have h2 : ordBd x y = cmpI x.at_ y.at_ := if_pos h1
  rw [lessR, ordR_cons, h2, show orI (cmpI x.at_ y.at_) (ordR a b) = cmpI x.at_ y.at_ from if_pos h1]
  rw [Bool.eq_iff_iff, decide_eq_true_iff, decide_eq_true_iff, cmpI_lt]
theorem less_el {x y : Bd} {a b : List Bd} (h : x.at_ = y.at_) (h' : x.elem ≠ y.elem) : lessR (x :: a) (y :: b) = decide ((x.elem : Int) < y.elem) := by
  have h0 : ¬ cmpI x.at_ y.at_ ≠ 0 := fun e => cmpI_ne.1 e h
  have h1 : cmpI (x.elem : Int) y.elem ≠ 0 := cmpI_ne.2 (by omega)
  have h2 : ordBd x y = cmpI x.elem y.elem := if_neg h0
  rw [lessR, ordR_cons, h2, show orI (cmpI (x.elem : Int) y.elem) (ordR a b) = cmpI x.elem y.elem from if_pos h1]
  rw [Bool.eq_iff_iff, decide_eq_true_iff, decide_eq_true_iff, cmpI_lt]
theorem less_eq {x y : Bd} {a b : List Bd} (h : x.at_ = y.at_) (h' : x.elem = y.elem) : lessR (x :: a) (y :: b) = lessR a b := by
  have h2 : ordBd x y = 0 := ordBd_zero.2 (by cases x; cases y; simp at h h'; simp [h, h'])
  rw [lessR, ordR_cons, h2]; rfl
theorem less_end {a b : List Bd} (h : a = [] ∨ b = []) : lessR a b = decide ((a.length : Int) < b.length) := by
  rcases h with rfl | rfl
  · cases b with
    | nil => rfl
    | cons y b =>
      have : ((0 : Nat) : Int) < ((y :: b).length : Int) := by simp only [List.length_cons]; omega
      rw [List.length_nil, decide_eq_true this]; rfl
  · cases a with
    | nil => rfl
    | cons x a =>
      have : ¬ ((x :: a).length : Int) < ((0 : Nat) : Int) := by simp only [List.length_cons]; omega
      rw [List.length_nil, decide_eq_false this]; rfl
set_option maxRecDepth 100000 in
set_option maxHeartbeats 2000000 in
theorem rless_call (a b : List Bd) (ha : a.length < 2 ^ 60) (hb : b.length < 2 ^ 60) : PCall Tryz.prog 16 [bdsV a, bdsV b] (bV (lessR a b)) := by
  refine scall_of (live := []) (ords := [(4, []), (8, [])]) Tryz.func16 rfl (by kernel_rfl) (by kernel_rfl) (Nat.le_of_ble_eq_true rfl) ?_
  (conv=>arg 2;whnf);refine wp_loop (fun m fr R => ∃ n : Nat, m = a.length - n ∧ n ≤ a.length ∧ n ≤ b.length ∧ R = [] ∧ lessR a b = lessR (a.drop n) (b.drop n) ∧ fr = frL [(0, bdsV a), (1, bdsV b), (5, i64V n)])
    a.length _ _ (.cons (.refl _) (.cons (.refl _) (.cons (.refl _) (.nil _)))) (List.Sublist.refl _) ⟨0, rfl, Nat.zero_le _, Nat.zero_le _, rfl, rfl, rfl⟩ ?_
  rintro m fr R ⟨n, rfl, hna, hnb, rfl, hl, rfl⟩
  have hend : n = a.length ∨ n = b.length → decide (((a.map bdV).length : Int) < ((b.map bdV).length : Int)) = lessR a b := fun h => by
    rw [hl, less_end (h.imp (fun e => by rw [e, List.drop_length]) (fun e => by rw [e, List.drop_length])), List.length_drop, List.length_drop, List.length_map, List.length_map]
    rw [Bool.eq_iff_iff, decide_eq_true_iff, decide_eq_true_iff]; omega
  apply @wp_joinT _ (decide (((a.map bdV).length : Int) < ((b.map bdV).length : Int)) = lessR a b → _)
  case h1 =>
    intro rest
    (conv=>arg 2;whnf);refine wp_ite (fun h => ?_) (fun h => ?_)
    · have h : n < a.length := by
        have := of_decide_eq_true h
        rw [List.length_map] at this; omega
      (conv=>arg 2;whnf);refine wp_ite (fun hq => ?_) (fun hq => ?_)
      · have h' : n < b.length := by
          have := of_decide_eq_true hq
          rw [List.length_map] at this; omega
        obtain ⟨x, hx⟩ : ∃ x, a[n]? = some x := ⟨_, List.getElem?_eq_getElem h⟩
        obtain ⟨y, hy⟩ : ∃ y, b[n]? = some y := ⟨_, List.getElem?_eq_getElem h'⟩
        rw [drop_at hx, drop_at hy] at hl
        (conv=>arg 2;whnf)
        refine wp_cutR (frL [(0, bdsV a), (1, bdsV b), (5, i64V n)]) [] (.cons (.refl _) (.cons (.refl _) (.cons (.refl _) (.nil _)))) (List.nil_sublist _) ?_
        (conv=>arg 2;whnf);refine wp_elem n (bdV x) rfl (bds_at hx) (Vle.refl _) ?_
        (conv=>arg 2;whnf);refine wp_elem n (bdV y) rfl (bds_at hy) (Vle.refl _) ?_
        (conv=>arg 2;whnf);refine wp_ite (fun h1 => ?_) (fun h1 => ?_)
        · have h1 : x.at_ ≠ y.at_ := bne_iff_ne.1 h1
          have hr := hl.trans (less_at h1)
          (conv=>arg 2;whnf);refine wp_elem n (bdV x) rfl (bds_at hx) (Vle.refl _) ?_
          (conv=>arg 2;whnf);refine wp_elem n (bdV y) rfl (bds_at hy) (Vle.refl _) ?_
          (conv=>arg 2;whnf)
          refine wp_leaf (loop_ret ?_)
          (conv=>arg 2;whnf);refine w_ret1 rfl (Vle.eq (cBool hr.symm)) (List.nil_sublist _) rfl
        · have h1 : x.at_ = y.at_ := bne_eq_false_iff_eq.1 h1
          (conv=>arg 2;whnf);refine wp_elem n (bdV x) rfl (bds_at hx) (Vle.refl _) ?_
          (conv=>arg 2;whnf);refine wp_elem n (bdV y) rfl (bds_at hy) (Vle.refl _) ?_
          (conv=>arg 2;whnf);refine wp_ite (fun h2 => ?_) (fun h2 => ?_)
          · have h2 : x.elem ≠ y.elem := fun e => bne_iff_ne.1 h2 (by rw [e])
            have hr := hl.trans (less_el h1 h2)
            (conv=>arg 2;whnf);refine wp_elem n (bdV x) rfl (bds_at hx) (Vle.refl _) ?_
            (conv=>arg 2;whnf);refine wp_elem n (bdV y) rfl (bds_at hy) (Vle.refl _) ?_
            (conv=>arg 2;whnf)
            refine wp_leaf (loop_ret ?_)
            (conv=>arg 2;whnf);refine w_ret1 rfl (Vle.eq (cBool hr.symm)) (List.nil_sublist _) rfl
          · have h2 : x.elem = y.elem := by have := bne_eq_false_iff_eq.1 h2; omega
            have hr := hl.trans (less_eq h1 h2)
            (conv=>arg 2;whnf)
            exact wp_leaf (loop_next (a.length - (n + 1)) _ [] (by omega) (.cons (.refl _) (.cons (.refl _) (.cons (Vle.inc n rfl (by omega)) (.nil _)))) (List.Sublist.refl _) ⟨n + 1, rfl, h, h', rfl, hr, rfl⟩)
      · have h' : n = b.length := by
          have := of_decide_eq_false hq
          rw [List.length_map] at this; omega
        (conv=>arg 2;whnf)
        refine wp_leaf (loop_exit ?_)
        (conv=>arg 2;whnf)
        exact wp_cutR (frL [(0, bdsV a), (1, bdsV b)]) [] (.cons (.refl _) (.cons (.refl _) (.nil _))) (List.nil_sublist _) (rest (hend (.inr h')))
    · have h : n = a.length := by
        have := of_decide_eq_false h
        rw [List.length_map] at this; omega
      (repeat ((conv=>arg 2;whnf);first|refine wp_it rfl ?_|refine wp_if rfl ?_))
      (conv=>arg 2;whnf)
      refine wp_leaf (loop_exit ?_)
      (conv=>arg 2;whnf)
      exact wp_cutR (frL [(0, bdsV a), (1, bdsV b)]) [] (.cons (.refl _) (.cons (.refl _) (.nil _))) (List.nil_sublist _) (rest (hend (.inl h)))
  case rest =>
    intro hr
    (conv=>arg 2;whnf);refine w_ret1 rfl (Vle.eq (cBool hr)) (List.nil_sublist _) rfl
set_option maxRecDepth 100000 in
theorem rdone_call (p : Pa) (hp : p.els.length < 2 ^ 60) (r : List Bd) (hr : r.length < 2 ^ 60) : PCall Tryz.prog 17 [.agg (paC p), runV r] (bV (doneE p r)) := by
  refine scall_of (live := []) (ords := []) Tryz.func17 rfl (by kernel_rfl) (by kernel_rfl) (Nat.le_of_ble_eq_true rfl) ?_
  by_cases h0 : r = []
  · subst h0
    (repeat ((conv=>arg 2;whnf);first|refine wp_it rfl ?_|refine wp_if rfl ?_))
    (conv=>arg 2;whnf);refine w_ret1 rfl (Vle.refl _) (List.nil_sublist _) rfl
  · have e1 : decide (((r.map bdV).length : Int) > 0) = true := decide_eq_true (by rw [List.length_map]; have := List.length_pos_iff.2 h0; omega)
    have hw : IntKind.i64.wrap (((r.map bdV).length : Int) - 1) = ((r.length - 1 : Nat) : Int) := len_pred h0 hr
    have he : (((lastBd r).elem : Int) == IntKind.i64.wrap (((p.els.map elV).length : Int) - 1)) = doneE p r := by
      rw [doneE, decide_eq_true h0, Bool.true_and, beq_dec, List.length_map, w_i64_small (by omega) (by omega)]
      rw [Bool.eq_iff_iff, decide_eq_true_iff, decide_eq_true_iff]; omega
    (conv=>arg 2;whnf);refine wp_it e1 ?_
    (conv=>arg 2;whnf);refine wp_elem (r.length - 1) (bdV (lastBd r)) hw (bds_at (last_at h0)) (Vle.refl _) ?_
    (conv=>arg 2;whnf);refine w_ret1 rfl (Vle.eq (cBool he)) (List.nil_sublist _) rfl
end Go.Sv
namespace Go.Sv
open Go Go.Proofs
def befB (y m : List Bd) : Bool := decide ((lastBd y).at_ < (lastBd m).at_) || (decide ((lastBd y).at_ = (lastBd m).at_) && lessR y m)
def putR : List (List Bd) → List Bd → List (List Bd)
  | [], m => [m]
  | y :: l, m => if befB y m then y :: putR l m else if y = m then y :: l else m :: y :: l
theorem putR_mem : ∀ {l : List (List Bd)} {m z : List Bd}, z ∈ putR l m → z = m ∨ z ∈ l
  | [], m, z, h => by simp [putR] at h; exact .inl h
  | y :: l, m, z, h => by
    rw [putR] at h
    split at h
    · rcases List.mem_cons.1 h with h | h
      · exact .inr (by simp [h])
      · rcases putR_mem h with h | h
        · exact .inl h
        · exact .inr (by simp [h])
    · split at h
      · exact .inr h
      · rcases List.mem_cons.1 h with h | h
        · exact .inl h
        · exact .inr h
end Go.Sv
namespace Go.Sv
open Go Go.Proofs
def RowsR (n : Nat) (out : List (List Bd)) : Prop := ∀ y ∈ out, y ≠ [] ∧ y.length ≤ n
theorem RowsR.put {n : Nat} {out : List (List Bd)} (h : RowsR n out) {c : List Bd} (hc : c ≠ [] ∧ c.length ≤ n) : RowsR n (putR out c) := fun y hy => by
  rcases putR_mem hy with rfl | hy
  · exact hc
  · exact h y hy
end Go.Sv
namespace Go.Sv
open Go Go.Proofs
theorem nilS_ne {l : List UInt8} : (!((S l).toList == (⟨#[]⟩ : ByteArray).toList)) = !decide (l = []) := by rw [nilS]
end Go.Sv
namespace Go.Sv
open Go Go.Proofs
def aliasI (l : List El) (a : List UInt8) : Int := if l.any (fun x => decide (x.al = a)) then (l.findIdx (fun x => decide (x.al = a)) : Nat) else -1
theorem aliasI_hit {l : List El} {a : List UInt8} {n : Nat} {e : El} (h : l[n]? = some e) (ha : (l.take n).any (fun x => decide (x.al = a)) = false) (he : e.al = a) : aliasI l a = n := by
  have hi := (List.getElem?_eq_some_iff.1 h).1
  have hany : l.any (fun x => decide (x.al = a)) = true := List.any_eq_true.2 ⟨e, List.mem_of_getElem? h, decide_eq_true he⟩
  rw [aliasI, if_pos hany, (List.findIdx_eq hi).2]
  refine ⟨?_, fun j hj => ?_⟩
  · rw [(List.getElem?_eq_some_iff.1 h).2]; exact decide_eq_true he
  · have hj' : l[j]? = some l[j] := List.getElem?_eq_getElem (by omega)
    have hm : l[j] ∈ l.take n := by
      have : (l.take n)[j]? = some l[j] := by rw [List.getElem?_take, if_pos hj, hj']
      exact List.mem_of_getElem? this
    exact Bool.eq_false_iff.2 (fun h1 => List.any_eq_false.1 ha _ hm h1)
theorem aliasI_miss {l : List El} {a : List UInt8} (ha : l.any (fun x => decide (x.al = a)) = false) : aliasI l a = -1 := by rw [aliasI, ha]; rfl
theorem aliasI_iff {l : List El} {n : Nat} {e : El} (h : l[n]? = some e) : aliasI l e.al = n ↔ twiceB l n e.al = false := by
  have hi := (List.getElem?_eq_some_iff.1 h).1
  constructor
  · intro ha
    have hany : l.any (fun x => decide (x.al = e.al)) = true := List.any_eq_true.2 ⟨e, List.mem_of_getElem? h, decide_eq_true rfl⟩
    rw [aliasI, if_pos hany] at ha
    have ha : l.findIdx (fun x => decide (x.al = e.al)) = n := by omega
    obtain ⟨_, h2⟩ := (List.findIdx_eq hi).1 ha
    rw [twiceB, List.any_eq_false]
    intro y hy
    obtain ⟨j, hj⟩ := List.mem_iff_getElem?.1 hy
    rw [List.getElem?_take] at hj
    split at hj
    · rename_i hjn
      have := h2 j hjn
      have e3 := (List.getElem?_eq_some_iff.1 hj).2
      rw [e3] at this
      rw [this]; exact Bool.noConfusion
    · cases hj
  · intro ht
    exact aliasI_hit h ht rfl
set_option maxRecDepth 100000 in
theorem alias_call (l : List El) (a : List UInt8) (hl : l.length < 2 ^ 60) : PCall Tryz.prog 43 [elsV l, str a] (i64V (aliasI l a)) := by
  refine scall_of (live := []) (ords := []) Tryz.func43 rfl (by kernel_rfl) (by kernel_rfl) (Nat.le_of_ble_eq_true rfl) ?_
  (conv=>arg 2;whnf);refine wp_loop (fun m fr R => ∃ n : Nat, m = l.length - n ∧ n ≤ l.length ∧ R = [] ∧ (l.take n).any (fun x => decide (x.al = a)) = false ∧ fr = frL [(0, elsV l), (1, str a), (5, i64V n)])
    l.length _ _ (.cons (.refl _) (.cons (.refl _) (.cons (.refl _) (.nil _)))) (List.Sublist.refl _) ⟨0, rfl, Nat.zero_le _, rfl, rfl, rfl⟩ ?_
  rintro m fr R ⟨n, rfl, hn, rfl, ha, rfl⟩
  (conv=>arg 2;whnf);refine wp_ite (fun h => ?_) (fun h => ?_)
  · have h : n < l.length := by have := of_decide_eq_true h; rw [List.length_map] at this; omega
    obtain ⟨y, hy⟩ : ∃ y, l[n]? = some y := ⟨_, List.getElem?_eq_getElem h⟩
    (conv=>arg 2;whnf);refine wp_elem n (.agg (elC y)) rfl (els_at hy) (Vle.refl _) ?_
    (conv=>arg 2;whnf);refine wp_ite (fun h1 => ?_) (fun h1 => ?_)
    · have h1 : y.al = a := of_decide_eq_true ((strEq y.al a).symm.trans h1)
      (conv=>arg 2;whnf)
      refine wp_leaf (loop_ret ?_)
      (conv=>arg 2;whnf);refine w_retp rfl (Vle.eq (congrArg i64V (aliasI_hit hy ha h1).symm))
    · have h1 : y.al ≠ a := of_decide_eq_false ((strEq y.al a).symm.trans h1)
      (conv=>arg 2;whnf)
      refine wp_leaf (loop_next (l.length - (n + 1)) _ _ (by omega) (.cons (.refl _) (.cons (.refl _) (.cons (Vle.inc n rfl (by omega)) (.nil _)))) (List.Sublist.refl _) ⟨n + 1, rfl, h, rfl, ?_, rfl⟩)
      rw [List.take_add_one, hy, List.any_append, ha]
      simp [h1]
  · have h : n = l.length := by have := of_decide_eq_false h; rw [List.length_map] at this; omega
    subst h
    rw [List.take_length] at ha
    (conv=>arg 2;whnf)
    refine wp_leaf (loop_exit ?_)
    (conv=>arg 2;whnf);refine w_retp rfl (Vle.eq (congrArg i64V (aliasI_miss ha).symm))
end Go.Sv
namespace Go.Sv
open Go Go.Proofs
set_option maxRecDepth 100000 in
set_option maxHeartbeats 1000000 in
theorem refpattern_call (p : Pa) (h : PaBd p) : PCall Tryz.prog 21 [.agg (paC p)] (bV (isPaB p)) := by
  obtain ⟨hl, he, hb, hw1, hw2⟩ := h
  have fb := refname_call p.by_ (by omega)
  refine scall_of (live := []) (ords := [(10, [])]) Tryz.func21 rfl (by kernel_rfl) (by kernel_rfl) (Nat.le_of_ble_eq_true rfl) ?_
  (conv=>arg 2;whnf);refine wp_ite (fun h1 => ?_) (fun h1 => ?_)
  · have h1 : p.els.length < 1 := by have := of_decide_eq_true h1; rw [List.length_map] at this; omega
    (repeat ((conv=>arg 2;whnf);first|refine wp_it rfl ?_|refine wp_if rfl ?_))
    (conv=>arg 2;whnf);refine w_retp rfl (Vle.eq (cBool (isPa_few h1).symm))
  have h1 : 1 ≤ p.els.length := by have := of_decide_eq_false h1; rw [List.length_map] at this; omega
  (conv=>arg 2;whnf);refine wp_ite (fun h2 => ?_) (fun h2 => ?_)
  · have h2 : 5 < p.els.length := by have := of_decide_eq_true h2; rw [List.length_map] at this; omega
    (repeat ((conv=>arg 2;whnf);first|refine wp_it rfl ?_|refine wp_if rfl ?_))
    (conv=>arg 2;whnf);refine w_retp rfl (Vle.eq (cBool (isPa_many h2).symm))
  have h2 : p.els.length ≤ 5 := by have := of_decide_eq_false h2; rw [List.length_map] at this; omega
  (conv=>arg 2;whnf);refine wp_ite (fun h5 => ?_) (fun h5 => ?_)
  · have h5 : p.within < 0 := of_decide_eq_true h5
    (repeat ((conv=>arg 2;whnf);first|refine wp_it rfl ?_|refine wp_if rfl ?_))
    (conv=>arg 2;whnf);refine w_retp rfl (Vle.eq (cBool (isPa_w0 h5).symm))
  have h5 : 0 ≤ p.within := by have := of_decide_eq_false h5; omega
  (conv=>arg 2;whnf);refine wp_ite (fun h6 => ?_) (fun h6 => ?_)
  · have h6 : 1000 < p.within := of_decide_eq_true h6
    (repeat ((conv=>arg 2;whnf);first|refine wp_it rfl ?_|refine wp_if rfl ?_))
    (conv=>arg 2;whnf);refine w_retp rfl (Vle.eq (cBool (isPa_w1 h6).symm))
  have h6 : p.within ≤ 1000 := by have := of_decide_eq_false h6; omega
  obtain ⟨e0, he0⟩ : ∃ e, p.els[0]? = some e := ⟨_, List.getElem?_eq_getElem (by omega)⟩
  obtain ⟨e1, he1⟩ : ∃ e, p.els[p.els.length - 1]? = some e := ⟨_, List.getElem?_eq_getElem (by omega)⟩
  have ws : IntKind.i64.wrap (((p.els.map elV).length : Int) - 1) = ((p.els.length - 1 : Nat) : Int) := by
    rw [List.length_map]; exact wsub (by omega) (by omega) (by omega)
  (conv=>arg 2;whnf);refine wp_ite (fun hq => ?_) (fun hq => ?_)
  · have hq : p.by_ ≠ [] := fun e => by
      have := (nilS_ne (l := p.by_)).symm.trans hq
      rw [e] at this; cases this
    (conv=>arg 2;whnf);refine wp_pcall fb ?_
    (conv=>arg 2;whnf);refine wp_ite (fun hr => ?_) (fun hr => ?_)
    · have hr : isNm p.by_ = false := by simpa using hr
      (repeat ((conv=>arg 2;whnf);first|refine wp_it rfl ?_|refine wp_if rfl ?_))
      (conv=>arg 2;whnf);refine w_retp rfl (Vle.eq (cBool (isPa_by hq hr).symm))
    have hr : isNm p.by_ = true := by simpa using hr
    have h7 : p.by_ = [] ∨ isNm p.by_ = true := .inr hr
    (repeat ((conv=>arg 2;whnf);first|refine wp_it rfl ?_|refine wp_if rfl ?_))
    (conv=>arg 2;whnf);refine wp_elem 0 (.agg (elC e0)) rfl (els_at he0) (Vle.refl _) ?_
    (conv=>arg 2;whnf);refine wp_ite (fun h3 => ?_) (fun h3 => ?_)
    · have h3 : ntAt p.els 0 = true := (ntAt_of he0).trans h3
      (repeat ((conv=>arg 2;whnf);first|refine wp_it rfl ?_|refine wp_if rfl ?_))
      (conv=>arg 2;whnf);refine w_retp rfl (Vle.eq (cBool (isPa_first h3).symm))
    have h3 : ntAt p.els 0 = false := (ntAt_of he0).trans h3
    (conv=>arg 2;whnf);refine wp_elem (p.els.length - 1) (.agg (elC e1)) ws (els_at he1) (Vle.refl _) ?_
    (conv=>arg 2;whnf);refine wp_ite (fun h4 => ?_) (fun h4 => ?_)
    · have h4 : ntAt p.els (p.els.length - 1) = true := (ntAt_of he1).trans h4
      (repeat ((conv=>arg 2;whnf);first|refine wp_it rfl ?_|refine wp_if rfl ?_))
      (conv=>arg 2;whnf);refine w_retp rfl (Vle.eq (cBool (isPa_last h4).symm))
    have h4 : ntAt p.els (p.els.length - 1) = false := (ntAt_of he1).trans h4
    (conv=>arg 2;whnf);refine wp_loop (fun m fr R => ∃ n : Nat, m = p.els.length - n ∧ n ≤ p.els.length ∧ R = [] ∧ ((List.range n).all fun i => okAtB p.els i (p.els.getD i el0)) = true ∧ fr = frL [(1, .pt (some 4) (.agg (paC p)) 0), (3, i64V p.els.length), (4, i64V n)])
      p.els.length _ _ (.cons (.refl _) (.cons (Vle.eq ?_) (.cons (.refl _) (.nil _)))) (List.Sublist.refl _) ⟨0, rfl, Nat.zero_le _, rfl, rfl, rfl⟩ ?_
    · show V.c (.int .i64 (p.els.map elV).length) = _
      rw [List.length_map]; rfl
    rintro m fr R ⟨n, rfl, hn, rfl, hall, rfl⟩
    (conv=>arg 2;whnf);refine wp_ite (fun h => ?_) (fun h => ?_)
    · have h : n < p.els.length := by have := of_decide_eq_true h; omega
      obtain ⟨e, hen⟩ : ∃ e, p.els[n]? = some e := ⟨_, List.getElem?_eq_getElem h⟩
      have hbd := he e (List.mem_of_getElem? hen)
      obtain ⟨ba, bl, bt, bx⟩ := hbd
      have fn := refname_call e.al (by omega)
      have fa := alias_call p.els e.al (by omega)
      have fr := refrise_call e.ty (by omega)
      have fs := refsame0_call e.cond bx.kids
      have fi := refisexpr_call e.cond bx.1 bx.2.1 bx.2.2.2
      rw [isEx_same] at fi
      (conv=>arg 2;whnf);refine wp_elem n (.agg (elC e)) rfl (els_at hen) (Vle.refl _) ?_
      (conv=>arg 2;whnf);refine wp_allocE elZ rfl fun b => ?_
      (conv=>arg 2;whnf);refine wp_storeE (cs := elZ) 0 0 (elC e) rfl rfl (VleL.refl _) (Nat.le_refl _) rfl (R' := [.obj b (elC e)]) rfl ?_
      (conv=>arg 2;whnf);refine wp_load (cs := elC e) 0 rfl rfl ?_
      (conv=>arg 2;whnf);refine wp_pcall fn ?_
      (conv=>arg 2;whnf);refine wp_ite (fun g1 => ?_) (fun g1 => ?_)
      · have g1 : isNm e.al = false := by simpa using g1
        (repeat ((conv=>arg 2;whnf);first|refine wp_it rfl ?_|refine wp_if rfl ?_))
        (conv=>arg 2;whnf)
        refine wp_leaf (loop_ret ?_)
        (conv=>arg 2;whnf);refine w_retp rfl (Vle.eq (cBool (isPa_el hen (okAt_el (isEl_name g1))).symm))
      have g1 : isNm e.al = true := by simpa using g1
      (conv=>arg 2;whnf);refine wp_load (cs := elC e) 0 rfl rfl ?_
      (conv=>arg 2;whnf);refine wp_pcall fa ?_
      (conv=>arg 2;whnf);refine wp_ite (fun g2 => ?_) (fun g2 => ?_)
      · have g2 : aliasI p.els e.al ≠ n := by simpa using g2
        have g2 : twiceB p.els n e.al = true := by
          cases ht : twiceB p.els n e.al with
          | true => rfl
          | false => exact (g2 ((aliasI_iff hen).2 ht)).elim
        (repeat ((conv=>arg 2;whnf);first|refine wp_it rfl ?_|refine wp_if rfl ?_))
        (conv=>arg 2;whnf)
        refine wp_leaf (loop_ret ?_)
        (conv=>arg 2;whnf);refine w_retp rfl (Vle.eq (cBool (isPa_el hen (okAt_twice g2)).symm))
      have g2 : aliasI p.els e.al = n := by simpa using g2
      have g2 : twiceB p.els n e.al = false := (aliasI_iff hen).1 g2
      (conv=>arg 2;whnf);refine wp_load (cs := elC e) 0 rfl rfl ?_
      (conv=>arg 2;whnf);refine wp_ite (fun g3 => ?_) (fun g3 => ?_)
      · have g3 : e.ty.length < 1 := by have := of_decide_eq_true g3; rw [List.length_map] at this; omega
        (repeat ((conv=>arg 2;whnf);first|refine wp_it rfl ?_|refine wp_if rfl ?_))
        (conv=>arg 2;whnf)
        refine wp_leaf (loop_ret ?_)
        (conv=>arg 2;whnf);refine w_retp rfl (Vle.eq (cBool (isPa_el hen (okAt_el (isEl_few g3))).symm))
      have g3 : 1 ≤ e.ty.length := by have := of_decide_eq_false g3; rw [List.length_map] at this; omega
      (conv=>arg 2;whnf);refine wp_load (cs := elC e) 0 rfl rfl ?_
      (conv=>arg 2;whnf);refine wp_ite (fun g4 => ?_) (fun g4 => ?_)
      · have g4 : 3 < e.ty.length := by have := of_decide_eq_true g4; rw [List.length_map] at this; omega
        (repeat ((conv=>arg 2;whnf);first|refine wp_it rfl ?_|refine wp_if rfl ?_))
        (conv=>arg 2;whnf)
        refine wp_leaf (loop_ret ?_)
        (conv=>arg 2;whnf);refine w_retp rfl (Vle.eq (cBool (isPa_el hen (okAt_el (isEl_many g4))).symm))
      have g4 : e.ty.length ≤ 3 := by have := of_decide_eq_false g4; rw [List.length_map] at this; omega
      (conv=>arg 2;whnf);refine wp_load (cs := elC e) 0 rfl rfl ?_
      (conv=>arg 2;whnf);refine wp_pcall fr ?_
      (conv=>arg 2;whnf);refine wp_ite (fun g5 => ?_) (fun g5 => ?_)
      · have g5 : riseB e.ty = false := by simpa using g5
        (repeat ((conv=>arg 2;whnf);first|refine wp_it rfl ?_|refine wp_if rfl ?_))
        (conv=>arg 2;whnf)
        refine wp_leaf (loop_ret ?_)
        (conv=>arg 2;whnf);refine w_retp rfl (Vle.eq (cBool (isPa_el hen (okAt_el (isEl_rise g5))).symm))
      have g5 : riseB e.ty = true := by simpa using g5
      have pf : e.plus = false → (e.plus && e.nt) = false := fun h => by rw [h, Bool.false_and]
      have nf : e.nt = false → (e.plus && e.nt) = false := fun h => by rw [h, Bool.and_false]
      have nf' : e.nt = false → (e.nt && (decide (0 < n) && ntAt p.els (n - 1))) = false := fun h => by rw [h, Bool.false_and]
      have n0f : ¬ 0 < n → (e.nt && (decide (0 < n) && ntAt p.els (n - 1))) = false := fun h => by rw [decide_eq_false h]; simp
      have pvf : ntAt p.els (n - 1) = false → (e.nt && (decide (0 < n) && ntAt p.els (n - 1))) = false := fun h => by rw [h]; simp
      have nqt : e.nt = false → e.nt = true → False := fun h h' => by rw [h] at h'; cases h'
      have i0 : decide ((n : Int) > 0) = false → ¬ 0 < n := fun h => by have := of_decide_eq_false h; omega
      have i1 : decide ((n : Int) > 0) = true → 0 < n := fun h => by have := of_decide_eq_true h; omega
      have wsn : 0 < n → IntKind.i64.wrap ((n : Int) - 1) = ((n - 1 : Nat) : Int) := fun h => wsub (by omega : ((n : Nat) : Int) - 1 = ((n - 1 : Nat) : Int)) (by omega) (by omega)
      have hy : 0 < n → p.els[n - 1]? = some (p.els.getD (n - 1) el0) := fun h0 => by
        have hx : p.els[n - 1]? = some p.els[n - 1] := List.getElem?_eq_getElem (by omega)
        rw [getDx hx]; exact hx
      apply @wp_joinT _ ((e.plus && e.nt) = false → (e.nt && (decide (0 < n) && ntAt p.els (n - 1))) = false → _)
      case h1 =>
        intro rest
        (conv=>arg 2;whnf);refine wp_load (cs := elC e) 0 rfl rfl ?_
        (conv=>arg 2;whnf);refine wp_ite (fun hp => ?_) (fun hp => ?_)
        · (conv=>arg 2;whnf);refine wp_load (cs := elC e) 0 rfl rfl ?_
          (conv=>arg 2;whnf);refine wp_ite (fun hq => ?_) (fun hq => ?_)
          · have hp : e.plus = true := hp
            have hq : e.nt = true := hq
            (repeat ((conv=>arg 2;whnf);first|refine wp_it rfl ?_|refine wp_if rfl ?_))
            (conv=>arg 2;whnf)
            refine wp_leaf (loop_ret ?_)
            (conv=>arg 2;whnf);refine w_retp rfl (Vle.eq (cBool (isPa_el hen (okAt_el (isEl_both hp hq))).symm))
          · have hq : e.nt = false := hq
            (repeat ((conv=>arg 2;whnf);first|refine wp_it rfl ?_|refine wp_if rfl ?_))
            (conv=>arg 2;whnf);refine wp_ite (fun h0 => ?_) (fun h0 => ?_)
            · (conv=>arg 2;whnf);refine wp_load (cs := elC e) 0 rfl rfl ?_
              (conv=>arg 2;whnf);refine wp_ite (fun hq' => (nqt hq hq').elim) (fun _ => ?_)
              (repeat ((conv=>arg 2;whnf);first|refine wp_it rfl ?_|refine wp_if rfl ?_))
              (conv=>arg 2;whnf)
              exact wp_cutR (frL [(1, .pt (some 4) (.agg (paC p)) 0), (3, i64V p.els.length), (4, i64V n), (5, .loc b 0)]) [.obj b (elC e)] (.cons (.refl _) (.cons (.refl _) (.cons (.refl _) (.cons (.refl _) (.nil _))))) (List.Sublist.refl _) (rest (nf hq) (nf' hq))
            · (repeat ((conv=>arg 2;whnf);first|refine wp_it rfl ?_|refine wp_if rfl ?_))
              (conv=>arg 2;whnf)
              exact wp_cutR (frL [(1, .pt (some 4) (.agg (paC p)) 0), (3, i64V p.els.length), (4, i64V n), (5, .loc b 0)]) [.obj b (elC e)] (.cons (.refl _) (.cons (.refl _) (.cons (.refl _) (.cons (.refl _) (.nil _))))) (List.Sublist.refl _) (rest (nf hq) (nf' hq))
        · have hp : e.plus = false := hp
          (repeat ((conv=>arg 2;whnf);first|refine wp_it rfl ?_|refine wp_if rfl ?_))
          (conv=>arg 2;whnf);refine wp_ite (fun h0 => ?_) (fun h0 => ?_)
          · (conv=>arg 2;whnf);refine wp_load (cs := elC e) 0 rfl rfl ?_
            (conv=>arg 2;whnf);refine wp_ite (fun hq => ?_) (fun hq => ?_)
            · have hq : e.nt = true := hq
              (conv=>arg 2;whnf);refine wp_elem (n - 1) (.agg (elC (p.els.getD (n - 1) el0))) (wsn (i1 h0)) (els_at (hy (i1 h0))) (Vle.refl _) ?_
              (conv=>arg 2;whnf);refine wp_ite (fun hz => ?_) (fun hz => ?_)
              · have hz : ntAt p.els (n - 1) = true := (ntAt_of (hy (i1 h0))).trans hz
                (repeat ((conv=>arg 2;whnf);first|refine wp_it rfl ?_|refine wp_if rfl ?_))
                (conv=>arg 2;whnf)
                refine wp_leaf (loop_ret ?_)
                (conv=>arg 2;whnf);refine w_retp rfl (Vle.eq (cBool (isPa_el hen (okAt_nt hq (i1 h0) hz)).symm))
              · have hz : ntAt p.els (n - 1) = false := (ntAt_of (hy (i1 h0))).trans hz
                (repeat ((conv=>arg 2;whnf);first|refine wp_it rfl ?_|refine wp_if rfl ?_))
                (conv=>arg 2;whnf)
                exact wp_cutR (frL [(1, .pt (some 4) (.agg (paC p)) 0), (3, i64V p.els.length), (4, i64V n), (5, .loc b 0)]) [.obj b (elC e)] (.cons (.refl _) (.cons (.refl _) (.cons (.refl _) (.cons (.refl _) (.nil _))))) (List.Sublist.refl _) (rest (pf hp) (pvf hz))
            · have hq : e.nt = false := hq
              (repeat ((conv=>arg 2;whnf);first|refine wp_it rfl ?_|refine wp_if rfl ?_))
              (conv=>arg 2;whnf)
              exact wp_cutR (frL [(1, .pt (some 4) (.agg (paC p)) 0), (3, i64V p.els.length), (4, i64V n), (5, .loc b 0)]) [.obj b (elC e)] (.cons (.refl _) (.cons (.refl _) (.cons (.refl _) (.cons (.refl _) (.nil _))))) (List.Sublist.refl _) (rest (pf hp) (nf' hq))
          · (repeat ((conv=>arg 2;whnf);first|refine wp_it rfl ?_|refine wp_if rfl ?_))
            (conv=>arg 2;whnf)
            exact wp_cutR (frL [(1, .pt (some 4) (.agg (paC p)) 0), (3, i64V p.els.length), (4, i64V n), (5, .loc b 0)]) [.obj b (elC e)] (.cons (.refl _) (.cons (.refl _) (.cons (.refl _) (.cons (.refl _) (.nil _))))) (List.Sublist.refl _) (rest (pf hp) (n0f (i0 h0)))
      case rest =>
        intro g6 g7
        (conv=>arg 2;whnf);refine wp_loop (fun m fr R => ∃ k : Nat, m = e.ty.length - k ∧ k ≤ e.ty.length ∧ R = [.obj b (elC e)] ∧ (e.ty.take k).all isNm = true ∧ fr = frL [(1, .pt (some 4) (.agg (paC p)) 0), (3, i64V p.els.length), (4, i64V n), (5, .loc b 0), (6, i64V k)])
          e.ty.length _ _ (.cons (.refl _) (.cons (.refl _) (.cons (.refl _) (.cons (.refl _) (.cons (.refl _) (.nil _)))))) (List.Sublist.refl _) ⟨0, rfl, Nat.zero_le _, rfl, rfl, rfl⟩ ?_
        rintro m fr R ⟨k, rfl, hk, rfl, hnm, rfl⟩
        (conv=>arg 2;whnf);refine wp_load (cs := elC e) 0 rfl rfl ?_
        (conv=>arg 2;whnf);refine wp_ite (fun hk1 => ?_) (fun hk1 => ?_)
        · have hk1 : k < e.ty.length := by have := of_decide_eq_true hk1; rw [List.length_map] at this; omega
          obtain ⟨t, htk⟩ : ∃ t, e.ty[k]? = some t := ⟨_, List.getElem?_eq_getElem hk1⟩
          have hm := List.mem_of_getElem? htk
          have fn := refname_call t (by have := bt t hm; omega)
          (conv=>arg 2;whnf);refine wp_load (cs := elC e) 0 rfl rfl ?_
          (conv=>arg 2;whnf);refine wp_elem k (str t) rfl (by rw [List.getElem?_map, htk]; rfl) (Vle.refl _) ?_
          (conv=>arg 2;whnf);refine wp_pcall fn ?_
          (conv=>arg 2;whnf);refine wp_ite (fun g8 => ?_) (fun g8 => ?_)
          · have g8 : isNm t = false := by simpa using g8
            (conv=>arg 2;whnf)
            refine wp_leaf (loop_ret ?_)
            (conv=>arg 2;whnf)
            refine wp_leaf (loop_ret ?_)
            (conv=>arg 2;whnf);refine w_retp rfl (Vle.eq (cBool (isPa_el hen (okAt_el (isEl_ty hm g8))).symm))
          · have g8 : isNm t = true := by simpa using g8
            (conv=>arg 2;whnf)
            refine wp_leaf (loop_next (e.ty.length - (k + 1)) _ _ (by omega) (.cons (.refl _) (.cons (.refl _) (.cons (.refl _) (.cons (.refl _) (.cons (Vle.inc k rfl (by omega)) (.nil _)))))) (List.Sublist.refl _) ⟨k + 1, rfl, hk1, rfl, ?_, rfl⟩)
            rw [List.take_add_one, htk, List.all_append, hnm]
            simp [g8]
        · have hk1 : k = e.ty.length := by have := of_decide_eq_false hk1; rw [List.length_map] at this; omega
          subst hk1
          rw [List.take_length] at hnm
          have hend := isEl_end g1 g3 g4 g5 g6 hnm
          have next : isElB e = true → ((List.range (n + 1)).all fun i => okAtB p.els i (p.els.getD i el0)) = true := fun g => by
            rw [List.range_succ, List.all_append, hall]
            simp only [List.all_cons, List.all_nil]
            rw [getDx hen, okAt_end g g2 g7]; rfl
          (conv=>arg 2;whnf)
          refine wp_leaf (loop_exit ?_)
          (conv=>arg 2;whnf);refine wp_load (cs := elC e) 0 rfl rfl ?_
          (conv=>arg 2;whnf);refine wp_pcallV (.cons (.refl _) (.cons zero_vle .nil)) fs ?_
          (conv=>arg 2;whnf);refine wp_ite (fun g9 => ?_) (fun g9 => ?_)
          · have g9 : zeroB e.cond = false := by simpa using g9
            (conv=>arg 2;whnf);refine wp_load (cs := elC e) 0 rfl rfl ?_
            (conv=>arg 2;whnf);refine wp_pcall fi ?_
            (conv=>arg 2;whnf);refine wp_ite (fun g10 => ?_) (fun g10 => ?_)
            · have g10 : isExB e.cond = false := by simpa using g10
              (conv=>arg 2;whnf)
              refine wp_leaf (loop_ret ?_)
              (conv=>arg 2;whnf);refine w_retp rfl (Vle.eq (cBool (isPa_el hen (okAt_el (by rw [hend, g9, g10]; rfl))).symm))
            · have g10 : isExB e.cond = true := by simpa using g10
              (conv=>arg 2;whnf)
              refine wp_leaf (loop_next (p.els.length - (n + 1)) _ _ (by omega) (.cons (.refl _) (.cons (.refl _) (.cons (Vle.inc n rfl (by omega)) (.nil _)))) (List.nil_sublist _) ⟨n + 1, rfl, h, rfl, next (by rw [hend, g9, g10]; rfl), rfl⟩)
          · have g9 : zeroB e.cond = true := by simpa using g9
            (repeat ((conv=>arg 2;whnf);first|refine wp_it rfl ?_|refine wp_if rfl ?_))
            (conv=>arg 2;whnf)
            refine wp_leaf (loop_next (p.els.length - (n + 1)) _ _ (by omega) (.cons (.refl _) (.cons (.refl _) (.cons (Vle.inc n rfl (by omega)) (.nil _)))) (List.nil_sublist _) ⟨n + 1, rfl, h, rfl, next (by rw [hend, g9]; rfl), rfl⟩)
    · have h : n = p.els.length := by have := of_decide_eq_false h; omega
      subst h
      (conv=>arg 2;whnf)
      refine wp_leaf (loop_exit ?_)
      (conv=>arg 2;whnf);refine w_retp rfl (Vle.eq (cBool (isPa_end h1 h2 h3 h4 h5 h6 h7 hall).symm))
  · have hq : p.by_ = [] := Classical.byContradiction fun e => by
      have := (nilS_ne (l := p.by_)).symm.trans hq
      rw [decide_eq_false e] at this; cases this
    have h7 : p.by_ = [] ∨ isNm p.by_ = true := .inl hq
    (repeat ((conv=>arg 2;whnf);first|refine wp_it rfl ?_|refine wp_if rfl ?_))
    (conv=>arg 2;whnf);refine wp_elem 0 (.agg (elC e0)) rfl (els_at he0) (Vle.refl _) ?_
    (conv=>arg 2;whnf);refine wp_ite (fun h3 => ?_) (fun h3 => ?_)
    · have h3 : ntAt p.els 0 = true := (ntAt_of he0).trans h3
      (repeat ((conv=>arg 2;whnf);first|refine wp_it rfl ?_|refine wp_if rfl ?_))
      (conv=>arg 2;whnf);refine w_retp rfl (Vle.eq (cBool (isPa_first h3).symm))
    have h3 : ntAt p.els 0 = false := (ntAt_of he0).trans h3
    (conv=>arg 2;whnf);refine wp_elem (p.els.length - 1) (.agg (elC e1)) ws (els_at he1) (Vle.refl _) ?_
    (conv=>arg 2;whnf);refine wp_ite (fun h4 => ?_) (fun h4 => ?_)
    · have h4 : ntAt p.els (p.els.length - 1) = true := (ntAt_of he1).trans h4
      (repeat ((conv=>arg 2;whnf);first|refine wp_it rfl ?_|refine wp_if rfl ?_))
      (conv=>arg 2;whnf);refine w_retp rfl (Vle.eq (cBool (isPa_last h4).symm))
    have h4 : ntAt p.els (p.els.length - 1) = false := (ntAt_of he1).trans h4
    (conv=>arg 2;whnf);refine wp_loop (fun m fr R => ∃ n : Nat, m = p.els.length - n ∧ n ≤ p.els.length ∧ R = [] ∧ ((List.range n).all fun i => okAtB p.els i (p.els.getD i el0)) = true ∧ fr = frL [(1, .pt (some 4) (.agg (paC p)) 0), (3, i64V p.els.length), (4, i64V n)])
      p.els.length _ _ (.cons (.refl _) (.cons (Vle.eq ?_) (.cons (.refl _) (.nil _)))) (List.Sublist.refl _) ⟨0, rfl, Nat.zero_le _, rfl, rfl, rfl⟩ ?_
    · show V.c (.int .i64 (p.els.map elV).length) = _
      rw [List.length_map]; rfl
    rintro m fr R ⟨n, rfl, hn, rfl, hall, rfl⟩
    (conv=>arg 2;whnf);refine wp_ite (fun h => ?_) (fun h => ?_)
    · have h : n < p.els.length := by have := of_decide_eq_true h; omega
      obtain ⟨e, hen⟩ : ∃ e, p.els[n]? = some e := ⟨_, List.getElem?_eq_getElem h⟩
      have hbd := he e (List.mem_of_getElem? hen)
      obtain ⟨ba, bl, bt, bx⟩ := hbd
      have fn := refname_call e.al (by omega)
      have fa := alias_call p.els e.al (by omega)
      have fr := refrise_call e.ty (by omega)
      have fs := refsame0_call e.cond bx.kids
      have fi := refisexpr_call e.cond bx.1 bx.2.1 bx.2.2.2
      rw [isEx_same] at fi
      (conv=>arg 2;whnf);refine wp_elem n (.agg (elC e)) rfl (els_at hen) (Vle.refl _) ?_
      (conv=>arg 2;whnf);refine wp_allocE elZ rfl fun b => ?_
      (conv=>arg 2;whnf);refine wp_storeE (cs := elZ) 0 0 (elC e) rfl rfl (VleL.refl _) (Nat.le_refl _) rfl (R' := [.obj b (elC e)]) rfl ?_
      (conv=>arg 2;whnf);refine wp_load (cs := elC e) 0 rfl rfl ?_
      (conv=>arg 2;whnf);refine wp_pcall fn ?_
      (conv=>arg 2;whnf);refine wp_ite (fun g1 => ?_) (fun g1 => ?_)
      · have g1 : isNm e.al = false := by simpa using g1
        (repeat ((conv=>arg 2;whnf);first|refine wp_it rfl ?_|refine wp_if rfl ?_))
        (conv=>arg 2;whnf)
        refine wp_leaf (loop_ret ?_)
        (conv=>arg 2;whnf);refine w_retp rfl (Vle.eq (cBool (isPa_el hen (okAt_el (isEl_name g1))).symm))
      have g1 : isNm e.al = true := by simpa using g1
      (conv=>arg 2;whnf);refine wp_load (cs := elC e) 0 rfl rfl ?_
      (conv=>arg 2;whnf);refine wp_pcall fa ?_
      (conv=>arg 2;whnf);refine wp_ite (fun g2 => ?_) (fun g2 => ?_)
      · have g2 : aliasI p.els e.al ≠ n := by simpa using g2
        have g2 : twiceB p.els n e.al = true := by
          cases ht : twiceB p.els n e.al with
          | true => rfl
          | false => exact (g2 ((aliasI_iff hen).2 ht)).elim
        (repeat ((conv=>arg 2;whnf);first|refine wp_it rfl ?_|refine wp_if rfl ?_))
        (conv=>arg 2;whnf)
        refine wp_leaf (loop_ret ?_)
        (conv=>arg 2;whnf);refine w_retp rfl (Vle.eq (cBool (isPa_el hen (okAt_twice g2)).symm))
      have g2 : aliasI p.els e.al = n := by simpa using g2
      have g2 : twiceB p.els n e.al = false := (aliasI_iff hen).1 g2
      (conv=>arg 2;whnf);refine wp_load (cs := elC e) 0 rfl rfl ?_
      (conv=>arg 2;whnf);refine wp_ite (fun g3 => ?_) (fun g3 => ?_)
      · have g3 : e.ty.length < 1 := by have := of_decide_eq_true g3; rw [List.length_map] at this; omega
        (repeat ((conv=>arg 2;whnf);first|refine wp_it rfl ?_|refine wp_if rfl ?_))
        (conv=>arg 2;whnf)
        refine wp_leaf (loop_ret ?_)
        (conv=>arg 2;whnf);refine w_retp rfl (Vle.eq (cBool (isPa_el hen (okAt_el (isEl_few g3))).symm))
      have g3 : 1 ≤ e.ty.length := by have := of_decide_eq_false g3; rw [List.length_map] at this; omega
      (conv=>arg 2;whnf);refine wp_load (cs := elC e) 0 rfl rfl ?_
      (conv=>arg 2;whnf);refine wp_ite (fun g4 => ?_) (fun g4 => ?_)
      · have g4 : 3 < e.ty.length := by have := of_decide_eq_true g4; rw [List.length_map] at this; omega
        (repeat ((conv=>arg 2;whnf);first|refine wp_it rfl ?_|refine wp_if rfl ?_))
        (conv=>arg 2;whnf)
        refine wp_leaf (loop_ret ?_)
        (conv=>arg 2;whnf);refine w_retp rfl (Vle.eq (cBool (isPa_el hen (okAt_el (isEl_many g4))).symm))
      have g4 : e.ty.length ≤ 3 := by have := of_decide_eq_false g4; rw [List.length_map] at this; omega
      (conv=>arg 2;whnf);refine wp_load (cs := elC e) 0 rfl rfl ?_
      (conv=>arg 2;whnf);refine wp_pcall fr ?_
      (conv=>arg 2;whnf);refine wp_ite (fun g5 => ?_) (fun g5 => ?_)
      · have g5 : riseB e.ty = false := by simpa using g5
        (repeat ((conv=>arg 2;whnf);first|refine wp_it rfl ?_|refine wp_if rfl ?_))
        (conv=>arg 2;whnf)
        refine wp_leaf (loop_ret ?_)
        (conv=>arg 2;whnf);refine w_retp rfl (Vle.eq (cBool (isPa_el hen (okAt_el (isEl_rise g5))).symm))
      have g5 : riseB e.ty = true := by simpa using g5
      have pf : e.plus = false → (e.plus && e.nt) = false := fun h => by rw [h, Bool.false_and]
      have nf : e.nt = false → (e.plus && e.nt) = false := fun h => by rw [h, Bool.and_false]
      have nf' : e.nt = false → (e.nt && (decide (0 < n) && ntAt p.els (n - 1))) = false := fun h => by rw [h, Bool.false_and]
      have n0f : ¬ 0 < n → (e.nt && (decide (0 < n) && ntAt p.els (n - 1))) = false := fun h => by rw [decide_eq_false h]; simp
      have pvf : ntAt p.els (n - 1) = false → (e.nt && (decide (0 < n) && ntAt p.els (n - 1))) = false := fun h => by rw [h]; simp
      have nqt : e.nt = false → e.nt = true → False := fun h h' => by rw [h] at h'; cases h'
      have i0 : decide ((n : Int) > 0) = false → ¬ 0 < n := fun h => by have := of_decide_eq_false h; omega
      have i1 : decide ((n : Int) > 0) = true → 0 < n := fun h => by have := of_decide_eq_true h; omega
      have wsn : 0 < n → IntKind.i64.wrap ((n : Int) - 1) = ((n - 1 : Nat) : Int) := fun h => wsub (by omega : ((n : Nat) : Int) - 1 = ((n - 1 : Nat) : Int)) (by omega) (by omega)
      have hy : 0 < n → p.els[n - 1]? = some (p.els.getD (n - 1) el0) := fun h0 => by
        have hx : p.els[n - 1]? = some p.els[n - 1] := List.getElem?_eq_getElem (by omega)
        rw [getDx hx]; exact hx
      apply @wp_joinT _ ((e.plus && e.nt) = false → (e.nt && (decide (0 < n) && ntAt p.els (n - 1))) = false → _)
      case h1 =>
        intro rest
        (conv=>arg 2;whnf);refine wp_load (cs := elC e) 0 rfl rfl ?_
        (conv=>arg 2;whnf);refine wp_ite (fun hp => ?_) (fun hp => ?_)
        · (conv=>arg 2;whnf);refine wp_load (cs := elC e) 0 rfl rfl ?_
          (conv=>arg 2;whnf);refine wp_ite (fun hq => ?_) (fun hq => ?_)
          · have hp : e.plus = true := hp
            have hq : e.nt = true := hq
            (repeat ((conv=>arg 2;whnf);first|refine wp_it rfl ?_|refine wp_if rfl ?_))
            (conv=>arg 2;whnf)
            refine wp_leaf (loop_ret ?_)
            (conv=>arg 2;whnf);refine w_retp rfl (Vle.eq (cBool (isPa_el hen (okAt_el (isEl_both hp hq))).symm))
          · have hq : e.nt = false := hq
            (repeat ((conv=>arg 2;whnf);first|refine wp_it rfl ?_|refine wp_if rfl ?_))
            (conv=>arg 2;whnf);refine wp_ite (fun h0 => ?_) (fun h0 => ?_)
            · (conv=>arg 2;whnf);refine wp_load (cs := elC e) 0 rfl rfl ?_
              (conv=>arg 2;whnf);refine wp_ite (fun hq' => (nqt hq hq').elim) (fun _ => ?_)
              (repeat ((conv=>arg 2;whnf);first|refine wp_it rfl ?_|refine wp_if rfl ?_))
              (conv=>arg 2;whnf)
              exact wp_cutR (frL [(1, .pt (some 4) (.agg (paC p)) 0), (3, i64V p.els.length), (4, i64V n), (5, .loc b 0)]) [.obj b (elC e)] (.cons (.refl _) (.cons (.refl _) (.cons (.refl _) (.cons (.refl _) (.nil _))))) (List.Sublist.refl _) (rest (nf hq) (nf' hq))
            · (repeat ((conv=>arg 2;whnf);first|refine wp_it rfl ?_|refine wp_if rfl ?_))
              (conv=>arg 2;whnf)
              exact wp_cutR (frL [(1, .pt (some 4) (.agg (paC p)) 0), (3, i64V p.els.length), (4, i64V n), (5, .loc b 0)]) [.obj b (elC e)] (.cons (.refl _) (.cons (.refl _) (.cons (.refl _) (.cons (.refl _) (.nil _))))) (List.Sublist.refl _) (rest (nf hq) (nf' hq))
        · have hp : e.plus = false := hp
          (repeat ((conv=>arg 2;whnf);first|refine wp_it rfl ?_|refine wp_if rfl ?_))
          (conv=>arg 2;whnf);refine wp_ite (fun h0 => ?_) (fun h0 => ?_)
          · (conv=>arg 2;whnf);refine wp_load (cs := elC e) 0 rfl rfl ?_
            (conv=>arg 2;whnf);refine wp_ite (fun hq => ?_) (fun hq => ?_)
            · have hq : e.nt = true := hq
              (conv=>arg 2;whnf);refine wp_elem (n - 1) (.agg (elC (p.els.getD (n - 1) el0))) (wsn (i1 h0)) (els_at (hy (i1 h0))) (Vle.refl _) ?_
              (conv=>arg 2;whnf);refine wp_ite (fun hz => ?_) (fun hz => ?_)
              · have hz : ntAt p.els (n - 1) = true := (ntAt_of (hy (i1 h0))).trans hz
                (repeat ((conv=>arg 2;whnf);first|refine wp_it rfl ?_|refine wp_if rfl ?_))
                (conv=>arg 2;whnf)
                refine wp_leaf (loop_ret ?_)
                (conv=>arg 2;whnf);refine w_retp rfl (Vle.eq (cBool (isPa_el hen (okAt_nt hq (i1 h0) hz)).symm))
              · have hz : ntAt p.els (n - 1) = false := (ntAt_of (hy (i1 h0))).trans hz
                (repeat ((conv=>arg 2;whnf);first|refine wp_it rfl ?_|refine wp_if rfl ?_))
                (conv=>arg 2;whnf)
                exact wp_cutR (frL [(1, .pt (some 4) (.agg (paC p)) 0), (3, i64V p.els.length), (4, i64V n), (5, .loc b 0)]) [.obj b (elC e)] (.cons (.refl _) (.cons (.refl _) (.cons (.refl _) (.cons (.refl _) (.nil _))))) (List.Sublist.refl _) (rest (pf hp) (pvf hz))
            · have hq : e.nt = false := hq
              (repeat ((conv=>arg 2;whnf);first|refine wp_it rfl ?_|refine wp_if rfl ?_))
              (conv=>arg 2;whnf)
              exact wp_cutR (frL [(1, .pt (some 4) (.agg (paC p)) 0), (3, i64V p.els.length), (4, i64V n), (5, .loc b 0)]) [.obj b (elC e)] (.cons (.refl _) (.cons (.refl _) (.cons (.refl _) (.cons (.refl _) (.nil _))))) (List.Sublist.refl _) (rest (pf hp) (nf' hq))
          · (repeat ((conv=>arg 2;whnf);first|refine wp_it rfl ?_|refine wp_if rfl ?_))
            (conv=>arg 2;whnf)
            exact wp_cutR (frL [(1, .pt (some 4) (.agg (paC p)) 0), (3, i64V p.els.length), (4, i64V n), (5, .loc b 0)]) [.obj b (elC e)] (.cons (.refl _) (.cons (.refl _) (.cons (.refl _) (.cons (.refl _) (.nil _))))) (List.Sublist.refl _) (rest (pf hp) (n0f (i0 h0)))
      case rest =>
        intro g6 g7
        (conv=>arg 2;whnf);refine wp_loop (fun m fr R => ∃ k : Nat, m = e.ty.length - k ∧ k ≤ e.ty.length ∧ R = [.obj b (elC e)] ∧ (e.ty.take k).all isNm = true ∧ fr = frL [(1, .pt (some 4) (.agg (paC p)) 0), (3, i64V p.els.length), (4, i64V n), (5, .loc b 0), (6, i64V k)])
          e.ty.length _ _ (.cons (.refl _) (.cons (.refl _) (.cons (.refl _) (.cons (.refl _) (.cons (.refl _) (.nil _)))))) (List.Sublist.refl _) ⟨0, rfl, Nat.zero_le _, rfl, rfl, rfl⟩ ?_
        rintro m fr R ⟨k, rfl, hk, rfl, hnm, rfl⟩
        (conv=>arg 2;whnf);refine wp_load (cs := elC e) 0 rfl rfl ?_
        (conv=>arg 2;whnf);refine wp_ite (fun hk1 => ?_) (fun hk1 => ?_)
        · have hk1 : k < e.ty.length := by have := of_decide_eq_true hk1; rw [List.length_map] at this; omega
          obtain ⟨t, htk⟩ : ∃ t, e.ty[k]? = some t := ⟨_, List.getElem?_eq_getElem hk1⟩
          have hm := List.mem_of_getElem? htk
          have fn := refname_call t (by have := bt t hm; omega)
          (conv=>arg 2;whnf);refine wp_load (cs := elC e) 0 rfl rfl ?_
          (conv=>arg 2;whnf);refine wp_elem k (str t) rfl (by rw [List.getElem?_map, htk]; rfl) (Vle.refl _) ?_
          (conv=>arg 2;whnf);refine wp_pcall fn ?_
          (conv=>arg 2;whnf);refine wp_ite (fun g8 => ?_) (fun g8 => ?_)
          · have g8 : isNm t = false := by simpa using g8
            (conv=>arg 2;whnf)
            refine wp_leaf (loop_ret ?_)
            (conv=>arg 2;whnf)
            refine wp_leaf (loop_ret ?_)
            (conv=>arg 2;whnf);refine w_retp rfl (Vle.eq (cBool (isPa_el hen (okAt_el (isEl_ty hm g8))).symm))
          · have g8 : isNm t = true := by simpa using g8
            (conv=>arg 2;whnf)
            refine wp_leaf (loop_next (e.ty.length - (k + 1)) _ _ (by omega) (.cons (.refl _) (.cons (.refl _) (.cons (.refl _) (.cons (.refl _) (.cons (Vle.inc k rfl (by omega)) (.nil _)))))) (List.Sublist.refl _) ⟨k + 1, rfl, hk1, rfl, ?_, rfl⟩)
            rw [List.take_add_one, htk, List.all_append, hnm]
            simp [g8]
        · have hk1 : k = e.ty.length := by have := of_decide_eq_false hk1; rw [List.length_map] at this; omega
          subst hk1
          rw [List.take_length] at hnm
          have hend := isEl_end g1 g3 g4 g5 g6 hnm
          have next : isElB e = true → ((List.range (n + 1)).all fun i => okAtB p.els i (p.els.getD i el0)) = true := fun g => by
            rw [List.range_succ, List.all_append, hall]
            simp only [List.all_cons, List.all_nil]
            rw [getDx hen, okAt_end g g2 g7]; rfl
          (conv=>arg 2;whnf)
          refine wp_leaf (loop_exit ?_)
          (conv=>arg 2;whnf);refine wp_load (cs := elC e) 0 rfl rfl ?_
          (conv=>arg 2;whnf);refine wp_pcallV (.cons (.refl _) (.cons zero_vle .nil)) fs ?_
          (conv=>arg 2;whnf);refine wp_ite (fun g9 => ?_) (fun g9 => ?_)
          · have g9 : zeroB e.cond = false := by simpa using g9
            (conv=>arg 2;whnf);refine wp_load (cs := elC e) 0 rfl rfl ?_
            (conv=>arg 2;whnf);refine wp_pcall fi ?_
            (conv=>arg 2;whnf);refine wp_ite (fun g10 => ?_) (fun g10 => ?_)
            · have g10 : isExB e.cond = false := by simpa using g10
              (conv=>arg 2;whnf)
              refine wp_leaf (loop_ret ?_)
              (conv=>arg 2;whnf);refine w_retp rfl (Vle.eq (cBool (isPa_el hen (okAt_el (by rw [hend, g9, g10]; rfl))).symm))
            · have g10 : isExB e.cond = true := by simpa using g10
              (conv=>arg 2;whnf)
              refine wp_leaf (loop_next (p.els.length - (n + 1)) _ _ (by omega) (.cons (.refl _) (.cons (.refl _) (.cons (Vle.inc n rfl (by omega)) (.nil _)))) (List.nil_sublist _) ⟨n + 1, rfl, h, rfl, next (by rw [hend, g9, g10]; rfl), rfl⟩)
          · have g9 : zeroB e.cond = true := by simpa using g9
            (repeat ((conv=>arg 2;whnf);first|refine wp_it rfl ?_|refine wp_if rfl ?_))
            (conv=>arg 2;whnf)
            refine wp_leaf (loop_next (p.els.length - (n + 1)) _ _ (by omega) (.cons (.refl _) (.cons (.refl _) (.cons (Vle.inc n rfl (by omega)) (.nil _)))) (List.nil_sublist _) ⟨n + 1, rfl, h, rfl, next (by rw [hend, g9]; rfl), rfl⟩)
    · have h : n = p.els.length := by have := of_decide_eq_false h; omega
      subst h
      (conv=>arg 2;whnf)
      refine wp_leaf (loop_exit ?_)
      (conv=>arg 2;whnf);refine w_retp rfl (Vle.eq (cBool (isPa_end h1 h2 h3 h4 h5 h6 h7 hall).symm))
end Go.Sv
namespace Go.Sv
open Go Go.Proofs
def fkOk (s : Sc) (x : El) (f : List UInt8) : Bool := x.ty.all fun t => match findT s t with
  | none => false
  | some ty => decide (0 ≤ fieldI ty f)
def fkAt (s : Sc) (f t : List UInt8) : Int := match findT s t with
  | none => 0
  | some ty => (ty.flds.getD (fieldI ty f).toNat fd0).kind
def fkSame (s : Sc) (x : El) (f : List UInt8) : Bool := (List.range x.ty.length).all fun i => decide (i = 0) || decide (fkAt s f (x.ty.getD i []) = fkAt s f (x.ty.getD (i - 1) []))
def fieldKindE (s : Sc) (x : El) (f : List UInt8) : Int × Int :=
  if fkOk s x f then (if fkSame s x f then ((if x.ty = [] then 0 else fkAt s f (x.ty.getD (x.ty.length - 1) [])), 0) else (0, 14)) else (0, 13)
def pairI (x : Int × Int) : V := .tup [i64V x.1, i64V x.2]
theorem fd_at {t : Ty} {f : List UInt8} (h : 0 ≤ fieldI t f) : ∃ fd, t.flds[(fieldI t f).toNat]? = some fd ∧ t.flds.getD (fieldI t f).toNat fd0 = fd := by
  unfold fieldI idxI at h ⊢
  split
  · rename_i ha
    obtain ⟨y, h1, _, _⟩ := idx_get ha
    exact ⟨y, by simpa using h1, getD_at (by simpa using h1)⟩
  · rename_i ha
    rw [if_neg ha] at h
    omega
set_option maxRecDepth 100000 in
set_option maxHeartbeats 2000000 in
theorem rfieldkind_call (s : Sc) (hs : ScOk s) (x : El) (hx : x.ty.length < 2 ^ 60) (f : List UInt8) : PCall Tryz.prog 25 [scV s, .agg (elC x), str f] (pairI (fieldKindE s x f)) := by
  refine scall_of (live := []) (ords := [(6, []), (9, []), (13, [])]) Tryz.func25 rfl (by kernel_rfl) (by kernel_rfl) (Nat.le_of_ble_eq_true rfl) ?_
  (conv=>arg 2;whnf);refine wp_loop (fun m fr R => ∃ n : Nat, m = x.ty.length - n ∧ n ≤ x.ty.length ∧ R = [] ∧ (x.ty.take n).all (fun t => match findT s t with | none => false | some ty => decide (0 ≤ fieldI ty f)) = true ∧ fr = frL [(2, str f), (3, .pt (some 1) (scV s) 0), (4, .pt (some 11) (.agg (elC x)) 0), (8, i64V 0), (9, i64V n)])
    x.ty.length _ _ (.cons (.refl _) (.cons (.refl _) (.cons (.refl _) (.cons (.refl _) (.cons (.refl _) (.nil _)))))) (List.Sublist.refl _) ⟨0, rfl, Nat.zero_le _, rfl, rfl, rfl⟩ ?_
  rintro m fr R ⟨n, rfl, hn, rfl, ha, rfl⟩
  (conv=>arg 2;whnf);refine wp_ite (fun h => ?_) (fun h => ?_)
  · have h : n < x.ty.length := by
      have := of_decide_eq_true h
      rw [List.length_map] at this; omega
    obtain ⟨t, ht⟩ : ∃ t, x.ty[n]? = some t := ⟨_, List.getElem?_eq_getElem h⟩
    have f1 := rfind_call s hs.1 t
    have hmiss : (match findT s t with | none => false | some ty => decide (0 ≤ fieldI ty f)) = false → fieldKindE s x f = (0, 13) := fun e => by
      rw [fieldKindE, show fkOk s x f = false from all_miss ht e]; rfl
    cases hf : findT s t with
    | none =>
      rw [hf] at f1
      have hr := hmiss (by rw [hf])
      have f2 := rfield_call ty0 (by decide) f
      rw [hr]
      (conv=>arg 2;whnf);refine wp_elem n (str t) rfl (strs_at ht) (Vle.refl _) ?_
      (conv=>arg 2;whnf);refine wp_pc f1 ?_
      (conv=>arg 2;whnf);refine wp_allocE tyZ rfl fun d => ?_
      (conv=>arg 2;whnf);refine wp_storeE (cs := tyZ) 0 0 (tyC ty0) rfl rfl (VleL.refl _) (Nat.le_refl _) rfl (R' := [.obj d (tyC ty0)]) rfl ?_
      (conv=>arg 2;whnf)
      refine wp_cutP (frL [(2, str f), (10, .pt (some 2) (tyV ty0) 0), (11, bV false)]) [] [.obj d (tyC ty0)] (.cons (.refl _) (.cons (.all (List.Mem.head _) rfl (by decide) (VleL.refl _)) (.cons (.refl _) (.nil _)))) ?_
      (conv=>arg 2;whnf);refine wp_pcall f2 ?_
      (repeat ((conv=>arg 2;whnf);first|refine wp_it rfl ?_|refine wp_if rfl ?_))
      (conv=>arg 2;whnf)
      refine wp_leaf (loop_ret ?_)
      (conv=>arg 2;whnf);refine w_ret2 rfl (Vle.refl _) (Vle.refl _) (List.nil_sublist _) rfl
    | some ty =>
      rw [hf] at f1
      have f2 := rfield_call ty (hs.2 ty (findT_mem hf)) f
      (conv=>arg 2;whnf);refine wp_elem n (str t) rfl (strs_at ht) (Vle.refl _) ?_
      (conv=>arg 2;whnf);refine wp_pc f1 ?_
      (conv=>arg 2;whnf);refine wp_allocE tyZ rfl fun d => ?_
      (conv=>arg 2;whnf);refine wp_storeE (cs := tyZ) 0 0 (tyC ty) rfl rfl (VleL.refl _) (Nat.le_refl _) rfl (R' := [.obj d (tyC ty)]) rfl ?_
      (conv=>arg 2;whnf)
      refine wp_cutP (frL [(2, str f), (3, .pt (some 1) (scV s) 0), (4, .pt (some 11) (.agg (elC x)) 0), (8, i64V 0), (9, i64V n), (10, .pt (some 2) (tyV ty) 0), (11, bV true)]) [] [.obj d (tyC ty)] (.cons (.refl _) (.cons (.refl _) (.cons (.refl _) (.cons (.refl _) (.cons (.refl _) (.cons (.all (List.Mem.head _) rfl (by decide) (VleL.refl _)) (.cons (.refl _) (.nil _)))))))) ?_
      (conv=>arg 2;whnf);refine wp_pcall f2 ?_
      (repeat ((conv=>arg 2;whnf);first|refine wp_it rfl ?_|refine wp_if rfl ?_))
      (conv=>arg 2;whnf);refine wp_ite (fun h1 => ?_) (fun h1 => ?_)
      · have h1 : decide (0 ≤ fieldI ty f) = false := decide_eq_false (by have := of_decide_eq_true h1; omega)
        have hr := hmiss (by rw [hf]; exact h1)
        rw [hr]
        (conv=>arg 2;whnf)
        refine wp_leaf (loop_ret ?_)
        (conv=>arg 2;whnf);refine w_ret2 rfl (Vle.refl _) (Vle.refl _) (List.nil_sublist _) rfl
      · have h1 : decide (0 ≤ fieldI ty f) = true := decide_eq_true (by have := of_decide_eq_false h1; omega)
        have hn' : (x.ty.take (n + 1)).all (fun t => match findT s t with | none => false | some ty => decide (0 ≤ fieldI ty f)) = true := all_next ha ht (by rw [hf]; exact h1)
        (conv=>arg 2;whnf)
        exact wp_leaf (loop_next (x.ty.length - (n + 1)) _ [] (by omega) (.cons (.refl _) (.cons (.refl _) (.cons (.refl _) (.cons (.refl _) (.cons (Vle.inc n rfl (by omega)) (.nil _)))))) (List.Sublist.refl _) ⟨n + 1, rfl, h, rfl, hn', rfl⟩)
  · have h : n = x.ty.length := by
      have := of_decide_eq_false h
      rw [List.length_map] at this; omega
    rw [h, List.take_length] at ha
    have hall : ∀ t ∈ x.ty, ∃ ty, findT s t = some ty ∧ 0 ≤ fieldI ty f := fun t ht => by
      have := List.all_eq_true.1 ha t ht
      cases hf : findT s t with
      | none => rw [hf] at this; cases this
      | some ty => rw [hf] at this; exact ⟨ty, rfl, of_decide_eq_true this⟩
    have hr : fieldKindE s x f = if fkSame s x f then ((if x.ty = [] then 0 else fkAt s f (x.ty.getD (x.ty.length - 1) [])), 0) else (0, 14) := by
      rw [fieldKindE, if_pos (show fkOk s x f = true from ha)]
    rw [hr]
    clear h hn ha hr
    (conv=>arg 2;whnf)
    refine wp_leaf (loop_exit ?_)
    refine wp_cutR (frL [(2, str f), (3, .pt (some 1) (scV s) 0), (4, .pt (some 11) (.agg (elC x)) 0), (8, i64V 0)]) [] (.cons (.refl _) (.cons (.refl _) (.cons (.refl _) (.cons (.refl _) (.nil _))))) (List.nil_sublist _) ?_
    (conv=>arg 2;whnf);refine wp_loop (fun m fr R => ∃ n : Nat, m = x.ty.length - n ∧ n ≤ x.ty.length ∧ R = [] ∧ (List.range n).all (fun i => decide (i = 0) || decide (fkAt s f (x.ty.getD i []) = fkAt s f (x.ty.getD (i - 1) []))) = true ∧ fr = frL [(2, str f), (3, .pt (some 1) (scV s) 0), (4, .pt (some 11) (.agg (elC x)) 0), (8, i64V (if n = 0 then 0 else fkAt s f (x.ty.getD (n - 1) []))), (13, i64V n)])
      x.ty.length _ _ (.cons (.refl _) (.cons (.refl _) (.cons (.refl _) (.cons (.refl _) (.cons (.refl _) (.nil _)))))) (List.Sublist.refl _) ⟨0, rfl, Nat.zero_le _, rfl, rfl, rfl⟩ ?_
    rintro m fr R ⟨n, rfl, hn, rfl, ha, rfl⟩
    (conv=>arg 2;whnf);refine wp_ite (fun h => ?_) (fun h => ?_)
    · have h : n < x.ty.length := by
        have := of_decide_eq_true h
        rw [List.length_map] at this; omega
      obtain ⟨t, ht⟩ : ∃ t, x.ty[n]? = some t := ⟨_, List.getElem?_eq_getElem h⟩
      obtain ⟨ty, hf, h0⟩ := hall t (List.mem_of_getElem? ht)
      obtain ⟨fd, hfd, hfd2⟩ := fd_at h0
      have f1 := rfind_call s hs.1 t
      have f2 := rfield_call ty (hs.2 ty (findT_mem hf)) f
      rw [hf] at f1
      have hgt : x.ty.getD n [] = t := getD_at ht
      have hk : fkAt s f (x.ty.getD n []) = fd.kind := by rw [hgt, fkAt, hf]; simp only [hfd2]
      have hidx : fieldI ty f = ((fieldI ty f).toNat : Int) := by omega
      obtain ⟨pk, hpk⟩ : ∃ pk, pk = (if n = 0 then 0 else fkAt s f (x.ty.getD (n - 1) [])) := ⟨_, rfl⟩
      have hstop : (decide (n = 0) || decide (fd.kind = pk)) = false → (if fkSame s x f then ((if x.ty = [] then 0 else fkAt s f (x.ty.getD (x.ty.length - 1) [])), 0) else (0, 14)) = ((0, 14) : Int × Int) := fun e => by
        rw [show fkSame s x f = false from rng_miss h (by
          rw [Bool.or_eq_false_iff] at e ⊢
          refine ⟨e.1, ?_⟩
          rw [hk]
          rw [hpk, if_neg (of_decide_eq_false e.1)] at e
          exact e.2)]
        rfl
      have hgo : (decide (n = 0) || decide (fd.kind = pk)) = true → (List.range (n + 1)).all (fun i => decide (i = 0) || decide (fkAt s f (x.ty.getD i []) = fkAt s f (x.ty.getD (i - 1) []))) = true := fun e => rng_next ha (by
        rw [Bool.or_eq_true] at e ⊢
        by_cases hn0 : n = 0
        · exact .inl (decide_eq_true hn0)
        · refine .inr ?_
          rw [hk]
          have := e.resolve_left (by rw [decide_eq_false hn0]; decide)
          rw [hpk, if_neg hn0] at this
          exact this)
      have hnk : fd.kind = (if n + 1 = 0 then 0 else fkAt s f (x.ty.getD (n + 1 - 1) [])) := by rw [if_neg (by omega), Nat.add_sub_cancel, hk]
      rw [← hpk]
      (conv=>arg 2;whnf);refine wp_elem n (str t) rfl (strs_at ht) (Vle.refl _) ?_
      (conv=>arg 2;whnf);refine wp_pc f1 ?_
      (conv=>arg 2;whnf);refine wp_allocE tyZ rfl fun d => ?_
      (conv=>arg 2;whnf);refine wp_storeE (cs := tyZ) 0 0 (tyC ty) rfl rfl (VleL.refl _) (Nat.le_refl _) rfl (R' := [.obj d (tyC ty)]) rfl ?_
      (conv=>arg 2;whnf)
      refine wp_cutP (frL [(2, str f), (3, .pt (some 1) (scV s) 0), (4, .pt (some 11) (.agg (elC x)) 0), (8, i64V pk), (13, i64V n), (14, .pt (some 2) (tyV ty) 0)]) [] [.obj d (tyC ty)] (.cons (.refl _) (.cons (.refl _) (.cons (.refl _) (.cons (.refl _) (.cons (.refl _) (.cons (.all (List.Mem.head _) rfl (by decide) (VleL.refl _)) (.nil _))))))) ?_
      (conv=>arg 2;whnf);refine wp_pc f2 ?_
      (conv=>arg 2;whnf);refine wp_elem (fieldI ty f).toNat (fdV fd) hidx (fds_at hfd) (Vle.refl _) ?_
      (conv=>arg 2;whnf);refine wp_ite (fun h1 => ?_) (fun h1 => ?_)
      · have h1 : n ≠ 0 := by have := of_decide_eq_true h1; omega
        (conv=>arg 2;whnf);refine wp_ite (fun h2 => ?_) (fun h2 => ?_)
        · have h2 : fd.kind ≠ pk := bne_iff_ne.1 h2
          have hr := hstop (by rw [decide_eq_false h1, decide_eq_false h2]; rfl)
          rw [hr]
          (conv=>arg 2;whnf)
          refine wp_leaf (loop_ret ?_)
          (conv=>arg 2;whnf);refine w_ret2 rfl (Vle.refl _) (Vle.refl _) (List.nil_sublist _) rfl
        · have h2 : fd.kind = pk := bne_eq_false_iff_eq.1 h2
          have hn' := hgo (by rw [decide_eq_true h2, Bool.or_true])
          (conv=>arg 2;whnf)
          exact wp_leaf (loop_next (x.ty.length - (n + 1)) _ [] (by omega) (.cons (.refl _) (.cons (.refl _) (.cons (.refl _) (.cons (Vle.of (i64V fd.kind) rfl (congrArg i64V hnk)) (.cons (Vle.inc n rfl (by omega)) (.nil _)))))) (List.Sublist.refl _) ⟨n + 1, rfl, h, rfl, hn', rfl⟩)
      · have h1 : n = 0 := by have := of_decide_eq_false h1; omega
        have hn' := hgo (by rw [decide_eq_true h1, Bool.true_or])
        (repeat ((conv=>arg 2;whnf);first|refine wp_it rfl ?_|refine wp_if rfl ?_))
        (conv=>arg 2;whnf)
        exact wp_leaf (loop_next (x.ty.length - (n + 1)) _ [] (by omega) (.cons (.refl _) (.cons (.refl _) (.cons (.refl _) (.cons (Vle.of (i64V fd.kind) rfl (congrArg i64V hnk)) (.cons (Vle.inc n rfl (by omega)) (.nil _)))))) (List.Sublist.refl _) ⟨n + 1, rfl, h, rfl, hn', rfl⟩)
    · have h : n = x.ty.length := by
        have := of_decide_eq_false h
        rw [List.length_map] at this; omega
      rw [h] at ha
      have hk : (if n = 0 then 0 else fkAt s f (x.ty.getD (n - 1) [])) = (if x.ty = [] then 0 else fkAt s f (x.ty.getD (x.ty.length - 1) [])) := by
        rw [h]
        by_cases he : x.ty = []
        · rw [if_pos he, if_pos (by rw [he]; rfl)]
        · rw [if_neg he, if_neg (fun e => he (List.eq_nil_of_length_eq_zero e))]
      rw [if_pos (show fkSame s x f = true from ha)]
      (conv=>arg 2;whnf)
      refine wp_leaf (loop_exit ?_)
      (conv=>arg 2;whnf);refine w_ret2 rfl (Vle.eq (congrArg i64V hk)) (Vle.refl _) (List.nil_sublist _) rfl
end Go.Sv
namespace Go.Sv
open Go Go.Proofs
def finK (op a b : Int) : Int × Int :=
  if op = 12 ∧ a = 3 then (3, 0) else if op = 12 ∨ a ≠ b then (0, 14) else if op ≤ 5 ∧ a = 1 then (1, 0) else if op = 6 ∨ op = 7 then (3, 0)
  else if (op = 8 ∨ op = 9) ∧ a ≠ 3 then (3, 0) else if (op = 10 ∨ op = 11) ∧ a = 3 then (3, 0) else (0, 14)
def opK (op : Int) (rs : List (Int × Int)) : Int × Int :=
  match rs.find? (fun r => decide (r.2 ≠ 0)) with
  | some r => (0, r.2)
  | none => finK op (rs.getD 0 (0, 0)).1 (rs.getD 1 (0, 0)).1
def kindE (s : Sc) (l : List El) : Nat → Ex → Int × Int
  | 0, _ => (0, 0)
  | k + 1, x => if x.op = 1 then (x.val.kind, 0) else if x.op = 2 then (if aliasI l x.al < 0 then (0, 13) else fieldKindE s (l.getD (aliasI l x.al).toNat el0) x.fd)
    else opK x.op (x.kids.map (kindE s l k))
def kindTop (s : Sc) (l : List El) (x : Ex) : Int × Int := if isExB x then kindE s l 5 x else (0, 10)
theorem alias_at {l : List El} {a : List UInt8} (h : ¬ aliasI l a < 0) : ∃ e, l[(aliasI l a).toNat]? = some e ∧ e ∈ l ∧ aliasI l a = ((aliasI l a).toNat : Int) := by
  unfold aliasI at h ⊢
  split
  · rename_i ha
    obtain ⟨y, h1, _, _⟩ := idx_get ha
    exact ⟨y, by simpa using h1, List.mem_of_getElem? h1, by omega⟩
  · rename_i ha; rw [if_neg ha] at h; omega
def cellK (rs : List (Int × Int)) (i : Nat) : List V := [i64V (if 0 < i then (rs.getD 0 (0, 0)).1 else 0), i64V (if 1 < i then (rs.getD 1 (0, 0)).1 else 0)]
theorem cellK_store {rs : List (Int × Int)} {i : Nat} (h : i < 2) {n e : Int} (hr : rs[i]? = some (n, e)) : splice (cellK rs i) i [i64V n] = cellK rs (i + 1) := by
  match i, h with
  | 0, _ => simp [cellK, splice, List.getD_eq_getElem?_getD, hr]
  | 1, _ => simp [cellK, splice, List.getD_eq_getElem?_getD, hr]
set_option maxRecDepth 100000 in
set_option maxHeartbeats 4000000 in
theorem rkind_kids (s : Sc) (l : List El) (x : Ex) (h1 : x.op ≠ 1) (h2 : x.op ≠ 2) (hk : x.kids.length ≤ 2) (g : Ex → Int × Int) (hg : ∀ y ∈ x.kids, PCall Tryz.prog 47 [scV s, elsV l, .agg (exC y)] (pairI (g y))) :
    PCall Tryz.prog 47 [scV s, elsV l, .agg (exC x)] (pairI (opK x.op (x.kids.map g))) := by
  have e1 : (x.op == 1) = false := by simpa using h1
  have e2 : (x.op == 2) = false := by simpa using h2
  refine scall_of (live := []) (ords := [(16, []), (18, []), (20, []), (22, []), (24, []), (26, []), (28, [])]) Tryz.func47 rfl (by kernel_rfl) (by kernel_rfl) (Nat.le_of_ble_eq_true rfl) ?_
  (conv=>arg 2;whnf);refine wp_if e1 ?_
  (conv=>arg 2;whnf);refine wp_if e2 ?_
  (conv=>arg 2;whnf);refine wp_allocE (cellK (x.kids.map g) 0) rfl fun c => ?_
  (conv=>arg 2;whnf);refine wp_loop (fun m fr R => ∃ n : Nat, m = x.kids.length - n ∧ n ≤ x.kids.length ∧ R = [.obj c (cellK (x.kids.map g) n)] ∧ ((x.kids.map g).take n).any (fun r => decide (r.2 ≠ 0)) = false ∧ fr = frL [(1, elsV l), (3, .pt (some 1) (scV s) 0), (5, .pt (some 7) (.agg (exC x)) 0), (9, .loc c 0), (10, i64V n)])
    x.kids.length _ _ (.cons (.refl _) (.cons (.refl _) (.cons (.refl _) (.cons (.refl _) (.cons (.refl _) (.nil _)))))) (List.Sublist.refl _) ⟨0, rfl, Nat.zero_le _, rfl, rfl, rfl⟩ ?_
  rintro m fr R ⟨n, rfl, hn, rfl, ha, rfl⟩
  (conv=>arg 2;whnf);refine wp_ite (fun h => ?_) (fun h => ?_)
  · have h : n < x.kids.length := by
      have := of_decide_eq_true h
      rw [List.length_map] at this; omega
    obtain ⟨y, hy⟩ : ∃ y, x.kids[n]? = some y := ⟨_, List.getElem?_eq_getElem h⟩
    have hyx : (x.kids.map exV)[n]? = some (.agg (exC y)) := by rw [List.getElem?_map, hy, ← exV_eq]; rfl
    have f1 := hg y (List.mem_of_getElem? hy)
    obtain ⟨n1, e1', hne⟩ : ∃ n1 e1', g y = (n1, e1') := ⟨_, _, rfl⟩
    rw [hne] at f1
    have hrs : (x.kids.map g)[n]? = some (n1, e1') := by rw [List.getElem?_map, hy, ← hne]; rfl
    have hst := cellK_store (rs := x.kids.map g) (i := n) (by omega) hrs
    (conv=>arg 2;whnf);refine wp_elem n (.agg (exC y)) rfl hyx (Vle.refl _) ?_
    (conv=>arg 2;whnf);refine wp_pc f1 ?_
    (conv=>arg 2;whnf);refine wp_ite (fun h3 => ?_) (fun h3 => ?_)
    · have h3 : decide (((n1, e1') : Int × Int).2 ≠ 0) = true := decide_eq_true (bne_iff_ne.1 h3)
      have hr : opK x.op (x.kids.map g) = (0, e1') := by rw [opK, find_hit ha hrs h3]
      rw [hr]
      (conv=>arg 2;whnf)
      refine wp_leaf (loop_ret ?_)
      (conv=>arg 2;whnf);refine w_ret2 rfl (Vle.refl _) (Vle.refl _) (List.nil_sublist _) rfl
    · have h3 : decide (((n1, e1') : Int × Int).2 ≠ 0) = false := decide_eq_false (fun e => e (bne_eq_false_iff_eq.1 h3))
      have hn' := any_next ha hrs h3
      (conv=>arg 2;whnf);refine wp_need ⟨by omega, by omega⟩ ?_
      (conv=>arg 2;whnf);refine wp_storeE (cs := cellK (x.kids.map g) n) 0 n [i64V n1] rfl (by show 0 + n * 1 = n; omega) (VleL.refl _) (by simp [cellK]; omega) rfl (R' := [.obj c (cellK (x.kids.map g) (n + 1))]) (by rw [hst]; rfl) ?_
      (conv=>arg 2;whnf)
      exact wp_leaf (loop_next (x.kids.length - (n + 1)) _ [.obj c (cellK (x.kids.map g) (n + 1))] (by omega) (.cons (.refl _) (.cons (.refl _) (.cons (.refl _) (.cons (.refl _) (.cons (Vle.inc n rfl (by omega)) (.nil _)))))) (List.Sublist.refl _) ⟨n + 1, rfl, h, rfl, hn', rfl⟩)
  · have h : n = x.kids.length := by
      have := of_decide_eq_false h
      rw [List.length_map] at this; omega
    have ha : (x.kids.map g).any (fun r => decide (r.2 ≠ 0)) = false := by
      rw [h, ← List.length_map (f := g), List.take_length] at ha; exact ha
    have hr : opK x.op (x.kids.map g) = finK x.op ((x.kids.map g).getD 0 (0, 0)).1 ((x.kids.map g).getD 1 (0, 0)).1 := by rw [opK, find_none ha]
    obtain ⟨A, hA⟩ : ∃ A, A = ((x.kids.map g).getD 0 (0, 0)).1 := ⟨_, rfl⟩
    obtain ⟨B, hB⟩ : ∃ B, B = ((x.kids.map g).getD 1 (0, 0)).1 := ⟨_, rfl⟩
    have hcell : cellK (x.kids.map g) n = [i64V A, i64V B] := by
      rw [cellK, hA, hB, h, ← List.length_map (f := g)]
      have hz : ∀ j, (if j < (x.kids.map g).length then ((x.kids.map g).getD j (0, 0)).1 else 0) = ((x.kids.map g).getD j (0, 0)).1 := fun j => by
        split
        · rfl
        · rename_i hj
          rw [List.getD_eq_getElem?_getD, List.getElem?_eq_none (by omega)]; rfl
      rw [hz 0, hz 1]
    rw [← hA, ← hB] at hr
    rw [hr, hcell]
    clear hr hcell hA hB ha h hn hg hk
    obtain ⟨op, hop⟩ : ∃ op, op = x.op := ⟨_, rfl⟩
    rw [← hop]
    (conv=>arg 2;whnf)
    refine wp_leaf (loop_exit ?_)
    refine wp_cutR (frL [(5, .pt (some 7) (.agg (exC x)) 0), (9, .loc c 0)]) [.obj c [i64V A, i64V B]] (.cons (.refl _) (.cons (.refl _) (.nil _))) (List.Sublist.refl _) ?_
    by_cases c1 : op = 12 ∧ A = 3
    · have e3 : (x.op == 12) = true := by rw [← hop]; simpa using c1.1
      have e4 : (A == 3) = true := by simpa using c1.2
      rw [finK, if_pos c1]
      (conv=>arg 2;whnf);refine wp_it e3 ?_
      (conv=>arg 2;whnf);refine wp_need (by decide) ?_
      (conv=>arg 2;whnf);refine wp_load (cs := [i64V A, i64V B]) 0 rfl rfl ?_
      (conv=>arg 2;whnf);refine wp_it e4 ?_
      (conv=>arg 2;whnf);refine w_ret2 rfl (Vle.refl _) (Vle.refl _) (List.nil_sublist _) rfl
    rw [finK, if_neg c1]
    apply wp_joinT
    case h1 =>
      intro rest
      (conv=>arg 2;whnf);refine wp_ite (fun h3 => ?_) (fun h3 => ?_)
      · have e4 : (A == 3) = false := by
          have h3 : op = 12 := by rw [hop]; simpa using h3
          have : A ≠ 3 := fun e => c1 ⟨h3, e⟩
          simpa using this
        (conv=>arg 2;whnf);refine wp_need (by decide) ?_
        (conv=>arg 2;whnf);refine wp_load (cs := [i64V A, i64V B]) 0 rfl rfl ?_
        (conv=>arg 2;whnf);refine wp_if e4 ?_
        (conv=>arg 2;whnf)
        exact wp_cutR (frL [(5, .pt (some 7) (.agg (exC x)) 0), (9, .loc c 0)]) [.obj c [i64V A, i64V B]] (.cons (.refl _) (.cons (.refl _) (.nil _))) (List.Sublist.refl _) rest
      · (repeat ((conv=>arg 2;whnf);first|refine wp_it rfl ?_|refine wp_if rfl ?_))
        exact wp_cutR (frL [(5, .pt (some 7) (.agg (exC x)) 0), (9, .loc c 0)]) [.obj c [i64V A, i64V B]] (.cons (.refl _) (.cons (.refl _) (.nil _))) (List.Sublist.refl _) rest
    case rest =>
      by_cases c2 : op = 12 ∨ A ≠ B
      · rw [if_pos c2]
        (conv=>arg 2;whnf);refine wp_ite (fun h3 => ?_) (fun h3 => ?_)
        · (repeat ((conv=>arg 2;whnf);first|refine wp_it rfl ?_|refine wp_if rfl ?_))
          (conv=>arg 2;whnf);refine w_ret2 rfl (Vle.refl _) (Vle.refl _) (List.nil_sublist _) rfl
        · have e4 : (A != B) = true := by
            have h3 : op ≠ 12 := by rw [hop]; simpa using h3
            have := c2.resolve_left h3
            simpa using this
          (conv=>arg 2;whnf);refine wp_need (by decide) ?_
          (conv=>arg 2;whnf);refine wp_load (cs := [i64V A, i64V B]) 0 rfl rfl ?_
          (conv=>arg 2;whnf);refine wp_need (by decide) ?_
          (conv=>arg 2;whnf);refine wp_load (cs := [i64V A, i64V B]) 0 rfl rfl ?_
          (conv=>arg 2;whnf);refine wp_it e4 ?_
          (conv=>arg 2;whnf);refine w_ret2 rfl (Vle.refl _) (Vle.refl _) (List.nil_sublist _) rfl
      rw [if_neg c2]
      have e3 : (x.op == 12) = false := by rw [← hop]; have := fun e => c2 (.inl e); simpa using this
      have e4 : (A != B) = false := by have := fun e => c2 (.inr e); simpa using this
      (conv=>arg 2;whnf);refine wp_if e3 ?_
      (conv=>arg 2;whnf);refine wp_need (by decide) ?_
      (conv=>arg 2;whnf);refine wp_load (cs := [i64V A, i64V B]) 0 rfl rfl ?_
      (conv=>arg 2;whnf);refine wp_need (by decide) ?_
      (conv=>arg 2;whnf);refine wp_load (cs := [i64V A, i64V B]) 0 rfl rfl ?_
      (conv=>arg 2;whnf);refine wp_if e4 ?_
      (conv=>arg 2;whnf)
      refine wp_cutR (frL [(5, .pt (some 7) (.agg (exC x)) 0), (9, .loc c 0)]) [.obj c [i64V A, i64V B]] (.cons (.refl _) (.cons (.refl _) (.nil _))) (List.Sublist.refl _) ?_
      by_cases c3 : op ≤ 5 ∧ A = 1
      · have e3 : decide (x.op ≤ 5) = true := by rw [← hop]; exact decide_eq_true c3.1
        have e4 : (A == 1) = true := by simpa using c3.2
        rw [if_pos c3]
        (conv=>arg 2;whnf);refine wp_it e3 ?_
        (conv=>arg 2;whnf);refine wp_need (by decide) ?_
        (conv=>arg 2;whnf);refine wp_load (cs := [i64V A, i64V B]) 0 rfl rfl ?_
        (conv=>arg 2;whnf);refine wp_it e4 ?_
        (conv=>arg 2;whnf);refine w_ret2 rfl (Vle.refl _) (Vle.refl _) (List.nil_sublist _) rfl
      rw [if_neg c3]
      apply wp_joinT
      case h1 =>
        intro rest
        (conv=>arg 2;whnf);refine wp_ite (fun h3 => ?_) (fun h3 => ?_)
        · have e4 : (A == 1) = false := by
            have h3 : op ≤ 5 := by rw [hop]; exact of_decide_eq_true h3
            have : A ≠ 1 := fun e => c3 ⟨h3, e⟩
            simpa using this
          (conv=>arg 2;whnf);refine wp_need (by decide) ?_
          (conv=>arg 2;whnf);refine wp_load (cs := [i64V A, i64V B]) 0 rfl rfl ?_
          (conv=>arg 2;whnf);refine wp_if e4 ?_
          (conv=>arg 2;whnf)
          exact wp_cutR (frL [(5, .pt (some 7) (.agg (exC x)) 0), (9, .loc c 0)]) [.obj c [i64V A, i64V B]] (.cons (.refl _) (.cons (.refl _) (.nil _))) (List.Sublist.refl _) rest
        · (repeat ((conv=>arg 2;whnf);first|refine wp_it rfl ?_|refine wp_if rfl ?_))
          exact wp_cutR (frL [(5, .pt (some 7) (.agg (exC x)) 0), (9, .loc c 0)]) [.obj c [i64V A, i64V B]] (.cons (.refl _) (.cons (.refl _) (.nil _))) (List.Sublist.refl _) rest
      case rest =>
        by_cases c4 : op = 6 ∨ op = 7
        · rw [if_pos c4]
          (conv=>arg 2;whnf);refine wp_ite (fun h3 => ?_) (fun h3 => ?_)
          · (repeat ((conv=>arg 2;whnf);first|refine wp_it rfl ?_|refine wp_if rfl ?_))
            (conv=>arg 2;whnf);refine w_ret2 rfl (Vle.refl _) (Vle.refl _) (List.nil_sublist _) rfl
          · have e4 : (x.op == 7) = true := by
              have h3 : op ≠ 6 := by rw [hop]; simpa using h3
              have := c4.resolve_left h3
              rw [← hop]; simpa using this
            (conv=>arg 2;whnf);refine wp_it e4 ?_
            (conv=>arg 2;whnf);refine w_ret2 rfl (Vle.refl _) (Vle.refl _) (List.nil_sublist _) rfl
        rw [if_neg c4]
        have e3 : (x.op == 6) = false := by rw [← hop]; have := fun e => c4 (.inl e); simpa using this
        have e4 : (x.op == 7) = false := by rw [← hop]; have := fun e => c4 (.inr e); simpa using this
        (conv=>arg 2;whnf);refine wp_if e3 ?_
        (conv=>arg 2;whnf);refine wp_if e4 ?_
        (conv=>arg 2;whnf)
        refine wp_cutR (frL [(5, .pt (some 7) (.agg (exC x)) 0), (9, .loc c 0)]) [.obj c [i64V A, i64V B]] (.cons (.refl _) (.cons (.refl _) (.nil _))) (List.Sublist.refl _) ?_
        by_cases c5 : (op = 8 ∨ op = 9) ∧ A ≠ 3
        · rw [if_pos c5]
          have e5 : (A != 3) = true := by simpa using c5.2
          (conv=>arg 2;whnf);refine wp_ite (fun h3 => ?_) (fun h3 => ?_)
          · (repeat ((conv=>arg 2;whnf);first|refine wp_it rfl ?_|refine wp_if rfl ?_))
            (conv=>arg 2;whnf);refine wp_need (by decide) ?_
            (conv=>arg 2;whnf);refine wp_load (cs := [i64V A, i64V B]) 0 rfl rfl ?_
            (conv=>arg 2;whnf);refine wp_it e5 ?_
            (conv=>arg 2;whnf);refine w_ret2 rfl (Vle.refl _) (Vle.refl _) (List.nil_sublist _) rfl
          · have e4 : (x.op == 9) = true := by
              have h3 : op ≠ 8 := by rw [hop]; simpa using h3
              have := c5.1.resolve_left h3
              rw [← hop]; simpa using this
            (conv=>arg 2;whnf);refine wp_it e4 ?_
            (conv=>arg 2;whnf);refine wp_need (by decide) ?_
            (conv=>arg 2;whnf);refine wp_load (cs := [i64V A, i64V B]) 0 rfl rfl ?_
            (conv=>arg 2;whnf);refine wp_it e5 ?_
            (conv=>arg 2;whnf);refine w_ret2 rfl (Vle.refl _) (Vle.refl _) (List.nil_sublist _) rfl
        rw [if_neg c5]
        apply wp_joinT
        case h1 =>
          intro rest
          have e5 : op = 8 ∨ op = 9 → (A != 3) = false := fun h => by
            have : ¬ A ≠ 3 := fun e => c5 ⟨h, e⟩
            simpa using this
          (conv=>arg 2;whnf);refine wp_ite (fun h3 => ?_) (fun h3 => ?_)
          · have h3 : op = 8 := by rw [hop]; simpa using h3
            have e5 := e5 (.inl h3)
            (repeat ((conv=>arg 2;whnf);first|refine wp_it rfl ?_|refine wp_if rfl ?_))
            (conv=>arg 2;whnf);refine wp_need (by decide) ?_
            (conv=>arg 2;whnf);refine wp_load (cs := [i64V A, i64V B]) 0 rfl rfl ?_
            (conv=>arg 2;whnf);refine wp_if e5 ?_
            (conv=>arg 2;whnf)
            exact wp_cutR (frL [(5, .pt (some 7) (.agg (exC x)) 0), (9, .loc c 0)]) [.obj c [i64V A, i64V B]] (.cons (.refl _) (.cons (.refl _) (.nil _))) (List.Sublist.refl _) rest
          · (conv=>arg 2;whnf);refine wp_ite (fun h4 => ?_) (fun h4 => ?_)
            · have h4 : op = 9 := by rw [hop]; simpa using h4
              have e5 := e5 (.inr h4)
              (conv=>arg 2;whnf);refine wp_need (by decide) ?_
              (conv=>arg 2;whnf);refine wp_load (cs := [i64V A, i64V B]) 0 rfl rfl ?_
              (conv=>arg 2;whnf);refine wp_if e5 ?_
              (conv=>arg 2;whnf)
              exact wp_cutR (frL [(5, .pt (some 7) (.agg (exC x)) 0), (9, .loc c 0)]) [.obj c [i64V A, i64V B]] (.cons (.refl _) (.cons (.refl _) (.nil _))) (List.Sublist.refl _) rest
            · (repeat ((conv=>arg 2;whnf);first|refine wp_it rfl ?_|refine wp_if rfl ?_))
              exact wp_cutR (frL [(5, .pt (some 7) (.agg (exC x)) 0), (9, .loc c 0)]) [.obj c [i64V A, i64V B]] (.cons (.refl _) (.cons (.refl _) (.nil _))) (List.Sublist.refl _) rest
        case rest =>
          by_cases c6 : (op = 10 ∨ op = 11) ∧ A = 3
          · rw [if_pos c6]
            have e5 : (A == 3) = true := by simpa using c6.2
            (conv=>arg 2;whnf);refine wp_ite (fun h3 => ?_) (fun h3 => ?_)
            · (repeat ((conv=>arg 2;whnf);first|refine wp_it rfl ?_|refine wp_if rfl ?_))
              (conv=>arg 2;whnf);refine wp_need (by decide) ?_
              (conv=>arg 2;whnf);refine wp_load (cs := [i64V A, i64V B]) 0 rfl rfl ?_
              (conv=>arg 2;whnf);refine wp_it e5 ?_
              (conv=>arg 2;whnf);refine w_ret2 rfl (Vle.refl _) (Vle.refl _) (List.nil_sublist _) rfl
            · have e4 : (x.op == 11) = true := by
                have h3 : op ≠ 10 := by rw [hop]; simpa using h3
                have := c6.1.resolve_left h3
                rw [← hop]; simpa using this
              (conv=>arg 2;whnf);refine wp_it e4 ?_
              (conv=>arg 2;whnf);refine wp_need (by decide) ?_
              (conv=>arg 2;whnf);refine wp_load (cs := [i64V A, i64V B]) 0 rfl rfl ?_
              (conv=>arg 2;whnf);refine wp_it e5 ?_
              (conv=>arg 2;whnf);refine w_ret2 rfl (Vle.refl _) (Vle.refl _) (List.nil_sublist _) rfl
          rw [if_neg c6]
          apply wp_joinT
          case h1 =>
            intro rest
            have e5 : op = 10 ∨ op = 11 → (A == 3) = false := fun h => by
              have : ¬ A = 3 := fun e => c6 ⟨h, e⟩
              simpa using this
            (conv=>arg 2;whnf);refine wp_ite (fun h3 => ?_) (fun h3 => ?_)
            · have h3 : op = 10 := by rw [hop]; simpa using h3
              have e5 := e5 (.inl h3)
              (repeat ((conv=>arg 2;whnf);first|refine wp_it rfl ?_|refine wp_if rfl ?_))
              (conv=>arg 2;whnf);refine wp_need (by decide) ?_
              (conv=>arg 2;whnf);refine wp_load (cs := [i64V A, i64V B]) 0 rfl rfl ?_
              (conv=>arg 2;whnf);refine wp_if e5 ?_
              (conv=>arg 2;whnf)
              exact wp_cutR (frL []) [] (.nil _) (List.nil_sublist _) rest
            · (conv=>arg 2;whnf);refine wp_ite (fun h4 => ?_) (fun h4 => ?_)
              · have h4 : op = 11 := by rw [hop]; simpa using h4
                have e5 := e5 (.inr h4)
                (conv=>arg 2;whnf);refine wp_need (by decide) ?_
                (conv=>arg 2;whnf);refine wp_load (cs := [i64V A, i64V B]) 0 rfl rfl ?_
                (conv=>arg 2;whnf);refine wp_if e5 ?_
                (conv=>arg 2;whnf)
                exact wp_cutR (frL []) [] (.nil _) (List.nil_sublist _) rest
              · (repeat ((conv=>arg 2;whnf);first|refine wp_it rfl ?_|refine wp_if rfl ?_))
                exact wp_cutR (frL []) [] (.nil _) (List.nil_sublist _) rest
          case rest =>
            (conv=>arg 2;whnf);refine w_ret2 rfl (Vle.refl _) (Vle.refl _) (List.nil_sublist _) rfl
set_option maxRecDepth 100000 in
set_option maxHeartbeats 2000000 in
theorem rkind_call (s : Sc) (hs : ScOk s) (l : List El) (hl : l.length < 2 ^ 60) (hty : ∀ e ∈ l, e.ty.length < 2 ^ 60) : ∀ (k : Nat) (x : Ex), shapedN k x = true → PCall Tryz.prog 47 [scV s, elsV l, .agg (exC x)] (pairI (kindE s l k x))
  | 0, _, h => by cases h
  | k + 1, .mk o xv xa xf ks, hsh => by
    by_cases h1 : o = 1
    · subst h1
      refine scall_of (live := []) (ords := []) Tryz.func47 rfl (by kernel_rfl) (by kernel_rfl) (Nat.le_of_ble_eq_true rfl) ?_
      (repeat ((conv=>arg 2;whnf);first|refine wp_it rfl ?_|refine wp_if rfl ?_))
      (conv=>arg 2;whnf);refine w_ret2 rfl (Vle.refl _) (Vle.refl _) (List.nil_sublist _) rfl
    by_cases h2 : o = 2
    · subst h2
      have fa := alias_call l xa hl
      have hr : kindE s l (k + 1) (.mk 2 xv xa xf ks) = (if aliasI l xa < 0 then (0, 13) else fieldKindE s (l.getD (aliasI l xa).toNat el0) xf) := by
        rw [kindE, if_neg (show ¬ Ex.op (.mk 2 xv xa xf ks) = 1 from (by decide : ¬ (2 : Int) = 1)), if_pos (show Ex.op _ = 2 from rfl)]; rfl
      rw [hr]
      refine scall_of (live := []) (ords := []) Tryz.func47 rfl (by kernel_rfl) (by kernel_rfl) (Nat.le_of_ble_eq_true rfl) ?_
      (repeat ((conv=>arg 2;whnf);first|refine wp_it rfl ?_|refine wp_if rfl ?_))
      (conv=>arg 2;whnf);refine wp_pcall fa ?_
      (conv=>arg 2;whnf);refine wp_ite (fun h3 => ?_) (fun h3 => ?_)
      · have h3 : aliasI l xa < 0 := of_decide_eq_true h3
        rw [if_pos h3]
        (conv=>arg 2;whnf);refine w_ret2 rfl (Vle.refl _) (Vle.refl _) (List.nil_sublist _) rfl
      · have h3 : ¬ aliasI l xa < 0 := of_decide_eq_false h3
        obtain ⟨e, he, hel, hn⟩ := alias_at h3
        have ff := rfieldkind_call s hs e (hty e hel) xf
        rw [if_neg h3, getD_at he]
        (conv=>arg 2;whnf);refine wp_elem (aliasI l xa).toNat (elV e) hn (els_at2 he) (Vle.refl _) ?_
        (conv=>arg 2;whnf);refine wp_pc ff ?_
        (conv=>arg 2;whnf);refine w_ret2 rfl (Vle.refl _) (Vle.refl _) (List.nil_sublist _) rfl
    · have hk2 : ks.length ≤ 2 ∧ ∀ y ∈ ks, shapedN k y = true := by
        rcases shape_cases hsh with h | h | ⟨_, a, rfl, ha⟩ | ⟨_, _, a, b, rfl, ha, hb⟩
        · exact absurd h h1
        · exact absurd h h2
        · exact ⟨by simp, fun y hy => by rw [List.mem_singleton.1 hy]; exact ha⟩
        · refine ⟨by simp, fun y hy => ?_⟩
          have : y = a ∨ y = b := by simpa using hy
          rcases this with rfl | rfl
          · exact ha
          · exact hb
      have := rkind_kids s l (.mk o xv xa xf ks) h1 h2 hk2.1 (kindE s l k) (fun y hy => rkind_call s hs l hl hty k y (hk2.2 y hy))
      have hr : kindE s l (k + 1) (.mk o xv xa xf ks) = opK o (ks.map (kindE s l k)) := by
        rw [kindE, if_neg (show ¬ Ex.op (.mk o xv xa xf ks) = 1 from h1), if_neg (show ¬ Ex.op (.mk o xv xa xf ks) = 2 from h2)]; rfl
      rw [hr]; exact this
set_option maxRecDepth 100000 in
theorem rkindtop_call (s : Sc) (hs : ScOk s) (l : List El) (hl : l.length < 2 ^ 60) (hty : ∀ e ∈ l, e.ty.length < 2 ^ 60) (x : Ex) (hx : ExBd x) : PCall Tryz.prog 23 [scV s, elsV l, .agg (exC x)] (pairI (kindTop s l x)) := by
  have f1 := refisexpr_call x hx.1 hx.2.1 hx.2.2.2
  rw [isEx_same] at f1
  refine scall_of (live := []) (ords := []) Tryz.func23 rfl (by kernel_rfl) (by kernel_rfl) (Nat.le_of_ble_eq_true rfl) ?_
  cases hi : isExB x with
  | false =>
    rw [hi] at f1
    rw [show kindTop s l x = (0, 10) by rw [kindTop, hi]; rfl]
    (conv=>arg 2;whnf);refine wp_pcall f1 ?_
    (repeat ((conv=>arg 2;whnf);first|refine wp_it rfl ?_|refine wp_if rfl ?_))
    (conv=>arg 2;whnf);refine w_ret2 rfl (Vle.refl _) (Vle.refl _) (List.nil_sublist _) rfl
  | true =>
    rw [hi] at f1
    have hsh : shapedN 5 x = true := by
      rw [← isEx_same, isExR, Bool.and_eq_true] at hi
      exact hi.1
    have f2 := rkind_call s hs l hl hty 5 x hsh
    rw [show kindTop s l x = kindE s l 5 x by rw [kindTop, if_pos hi]]
    (conv=>arg 2;whnf);refine wp_pcall f1 ?_
    (repeat ((conv=>arg 2;whnf);first|refine wp_it rfl ?_|refine wp_if rfl ?_))
    (conv=>arg 2;whnf);refine wp_pcall f2 ?_
    (conv=>arg 2;whnf);refine w_ret2 rfl (Vle.refl _) (Vle.refl _) (List.nil_sublist _) rfl
end Go.Sv
