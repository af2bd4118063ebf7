/- Parts of the proof, one behind the other. -/
import Derived.Test.YtonnbjcbjjigiaaGreatMgRowStepMeans11
import Derived.Test.YtonnbjcbjjigiaaGreatMgRowStepMeans7
import Derived.Test.YtonnbjcbjjigiaaGreatMgRowStepMeans8
namespace Go.Sv
open Go Go.Proofs
theorem goesR_none {s : Sc} {p : Pa} {l : List Kp} {b : List Bd} {k : Nat} {x : Kp} (hb : b ≠ []) (h : atE l (b.headD bd0).at_ = none) : goesR s p l b k x = false := by
  rw [goesR, if_neg hb, h]
theorem goesR_some {s : Sc} {p : Pa} {l : List Kp} {b : List Bd} {k : Nat} {x : Kp} {f : Ev} (hb : b ≠ []) (h : atE l (b.headD bd0).at_ = some f) : goesR s p l b k x = (if x.at_ ≤ (lastBd b).at_ then false
      else if sameR p b k = false ∧ nextI p (lastBd b).elem ≠ k then false
      else if x.e.ts - f.ts > p.within then false
      else takesR s p l b k x.e && (sameR p b k || freeR s p l b k (lastBd b).at_ x.at_)) := by
  rw [goesR, if_neg hb, h]
theorem sameR_eq {p : Pa} {b : List Bd} {k : Nat} {y : El} (hy : p.els[k]? = some y) : sameR p b k = (((k : Int) == ((lastBd b).elem : Int)) && y.plus) := by
  have e : elAt p k = y := by rw [elAt, getD_at hy]
  rw [sameR, e, beq_dec]
  congr 1
  rw [Bool.eq_iff_iff, decide_eq_true_iff, decide_eq_true_iff]; omega
set_option maxRecDepth 100000 in
set_option maxHeartbeats 2000000 in
theorem rgoes_nil (s : Sc) (hs : ScOk s) (p : Pa) (hp : RfOkP p) (l : List Kp) (hl : RfOkL l) (bv : V) (hbv : bv = .sl (some 2) [] .no ∨ bv = .sl none [] .zero) (k : Nat) (hk : 0 < p.els.length) (x : Kp) (hx : EvIs x.e) :
    PCall Tryz.prog 39 [scV s, .agg (paC p), kpsV l, bv, i64V k, kpV x] (bV (goesR s p l [] k x)) := by
  have ft := rtakes_call s hs p hp l hl [] (by decide) (fun y hy => by cases hy) (.sl none [] .zero) (Vle.nil _ _ _) 0 hk x.e hx
  have hr : goesR s p l [] k x = (decide (k = 0) && takesR s p l [] 0 x.e) := rfl
  rw [hr]
  rcases hbv with rfl | rfl
  all_goals
    refine scall_of (live := []) (ords := []) Tryz.func39 rfl (by kernel_rfl) (by kernel_rfl) (Nat.le_of_ble_eq_true rfl) ?_
    (repeat ((conv=>arg 2;whnf);first|refine wp_it rfl ?_|refine wp_if rfl ?_))
    (conv=>arg 2;whnf);refine wp_ite (fun h1 => ?_) (fun h1 => ?_)
    · have h1 : decide (k = 0) = true := by rw [decide_eq_true_iff]; have := beq_iff_eq.1 h1; omega
      rw [h1, Bool.true_and]
      (conv=>arg 2;whnf);refine wp_pcall ft ?_
      (conv=>arg 2;whnf);refine w_ret1 rfl (Vle.refl _) (List.nil_sublist _) rfl
    · have h1 : decide (k = 0) = false := by rw [decide_eq_false_iff_not]; have := beq_eq_false_iff_ne.1 h1; omega
      rw [h1, Bool.false_and]
      (repeat ((conv=>arg 2;whnf);first|refine wp_it rfl ?_|refine wp_if rfl ?_))
      (conv=>arg 2;whnf);refine w_ret1 rfl (Vle.refl _) (List.nil_sublist _) rfl
set_option maxRecDepth 100000 in
set_option maxHeartbeats 4000000 in
theorem rgoes_cons (s : Sc) (hs : ScOk s) (p : Pa) (hp : RfOkP p) (l : List Kp) (hl : RfOkL l) (b : List Bd) (hb : b.length < 2 ^ 29) (hbe : ∀ y ∈ b, y.elem < p.els.length) (hb0 : b ≠ []) (k : Nat) (hk : k < p.els.length) (x : Kp) (hx : EvIs x.e) :
    PCall Tryz.prog 39 [scV s, .agg (paC p), kpsV l, bdsV b, i64V k, kpV x] (bV (goesR s p l b k x)) := by
  have hpn := hp.n
  have hlast : (lastBd b).elem < p.els.length := hbe _ (List.mem_of_getElem? (last_at hb0))
  have hbl := List.length_pos_iff.2 hb0
  have e0 : (((b.map bdV).length : Int) == 0) = false := len_ne hb0
  have hw : IntKind.i64.wrap (((b.map bdV).length : Int) - 1) = ((b.length - 1 : Nat) : Int) := len_pred hb0 (by omega)
  have fa := rat_call l (b.headD bd0).at_ hl.n
  have fn := rnext_call p (lastBd b).elem hpn (by omega)
  have ft := rtakes_call s hs p hp l hl b hb hbe (bdsV b) (Vle.refl _) k hk x.e hx
  have ff := rfree_call s hs p hp l hl b hb hbe k hk (lastBd b).at_ x.at_
  obtain ⟨y, hy, _, hey⟩ := nt_at p hk
  have hsm := sameR_eq (b := b) hy
  refine scall_of (live := []) (ords := [(6, []), (8, [])]) Tryz.func39 rfl (by kernel_rfl) (by kernel_rfl) (Nat.le_of_ble_eq_true rfl) ?_
  (conv=>arg 2;whnf);refine wp_if e0 ?_
  (conv=>arg 2;whnf);refine wp_elem (b.length - 1) (bdV (lastBd b)) hw (bds_at (last_at hb0)) (Vle.refl _) ?_
  (conv=>arg 2;whnf);refine wp_allocE bdZ rfl fun q => ?_
  (conv=>arg 2;whnf);refine wp_storeE (cs := bdZ) 0 0 (bdC (lastBd b)) rfl rfl (VleL.refl _) (Nat.le_refl _) rfl (R' := [.obj q (bdC (lastBd b))]) rfl ?_
  (conv=>arg 2;whnf);refine wp_elem 0 (bdV (b.headD bd0)) rfl (bds_at (head_at hb0)) (Vle.refl _) ?_
  cases ha : atE l (b.headD bd0).at_ with
  | none =>
    rw [ha] at fa
    have hr := goesR_none (s := s) (p := p) (k := k) (x := x) hb0 ha
    rw [hr]
    (conv=>arg 2;whnf);refine wp_pcall fa ?_
    (conv=>arg 2;whnf);refine wp_allocE evZ rfl fun u => ?_
    (conv=>arg 2;whnf);refine wp_storeE (cs := evZ) 1 0 (evC ev0) rfl rfl (VleL.refl _) (Nat.le_refl _) rfl (R' := [.obj q (bdC (lastBd b)), .obj u (evC ev0)]) rfl ?_
    (conv=>arg 2;whnf);refine wp_load (cs := bdC (lastBd b)) 0 rfl rfl ?_
    apply wp_joinT
    case h1 =>
      intro rest
      (conv=>arg 2;whnf);refine wp_ite (fun h1 => ?_) (fun h1 => ?_)
      · (conv=>arg 2;whnf);refine wp_elem k (elV y) rfl (els_at2 hy) (Vle.refl _) ?_
        (conv=>arg 2;whnf)
        exact wp_cutR (frL [(15, bV false)]) [] (.cons (.refl _) (.nil _)) (List.nil_sublist _) rest
      · (repeat ((conv=>arg 2;whnf);first|refine wp_it rfl ?_|refine wp_if rfl ?_))
        exact wp_cutR (frL [(15, bV false)]) [] (.cons (.refl _) (.nil _)) (List.nil_sublist _) rest
    case rest =>
      (repeat ((conv=>arg 2;whnf);first|refine wp_it rfl ?_|refine wp_if rfl ?_))
      (conv=>arg 2;whnf);refine w_ret1 rfl (Vle.refl _) (List.nil_sublist _) rfl
  | some f =>
    rw [ha] at fa
    have hr := goesR_some (s := s) (p := p) (k := k) (x := x) hb0 ha
    (conv=>arg 2;whnf);refine wp_pcall fa ?_
    (conv=>arg 2;whnf);refine wp_allocE evZ rfl fun u => ?_
    (conv=>arg 2;whnf);refine wp_storeE (cs := evZ) 1 0 (evC f) rfl rfl (VleL.refl _) (Nat.le_refl _) rfl (R' := [.obj q (bdC (lastBd b)), .obj u (evC f)]) rfl ?_
    (conv=>arg 2;whnf);refine wp_load (cs := bdC (lastBd b)) 0 rfl rfl ?_
    apply wp_joinT
    case h1 =>
      intro rest
      (conv=>arg 2;whnf);refine wp_ite (fun h1 => ?_) (fun h1 => ?_)
      · have hs2 : y.plus = sameR p b k := by rw [hsm, h1]; rfl
        (conv=>arg 2;whnf);refine wp_elem k (elV y) rfl (els_at2 hy) (Vle.refl _) ?_
        (conv=>arg 2;whnf)
        exact wp_cutP (frL [(2, kpsV l), (3, bdsV b), (4, i64V k), (6, .pt (some 1) (scV s) 0), (7, .pt (some 4) (.agg (paC p)) 0), (11, .pt (some 4) (kpV x) 0), (13, .pt (some 2) (bdV (lastBd b)) 0), (14, .pt (some 3) (evV f) 0), (15, bV true), (16, bV (sameR p b k))]) [] [.obj q (bdC (lastBd b)), .obj u (evC f)] (.cons (.refl _) (.cons (.refl _) (.cons (.refl _) (.cons (.refl _) (.cons (.refl _) (.cons (.refl _) (.cons (.all (List.Mem.head _) rfl (by decide) (VleL.refl _)) (.cons (.all (List.Mem.tail _ (List.Mem.head _)) rfl (by decide) (VleL.refl _)) (.cons (.refl _) (.cons (.vle (Vle.eq (cBool hs2))) (.nil _))))))))))) rest
      · have hs2 : false = sameR p b k := by rw [hsm, h1]; rfl
        (repeat ((conv=>arg 2;whnf);first|refine wp_it rfl ?_|refine wp_if rfl ?_))
        exact wp_cutP (frL [(2, kpsV l), (3, bdsV b), (4, i64V k), (6, .pt (some 1) (scV s) 0), (7, .pt (some 4) (.agg (paC p)) 0), (11, .pt (some 4) (kpV x) 0), (13, .pt (some 2) (bdV (lastBd b)) 0), (14, .pt (some 3) (evV f) 0), (15, bV true), (16, bV (sameR p b k))]) [] [.obj q (bdC (lastBd b)), .obj u (evC f)] (.cons (.refl _) (.cons (.refl _) (.cons (.refl _) (.cons (.refl _) (.cons (.refl _) (.cons (.refl _) (.cons (.all (List.Mem.head _) rfl (by decide) (VleL.refl _)) (.cons (.all (List.Mem.tail _ (List.Mem.head _)) rfl (by decide) (VleL.refl _)) (.cons (.refl _) (.cons (.vle (Vle.eq (cBool hs2))) (.nil _))))))))))) rest
    case rest =>
      obtain ⟨sm, hsmE⟩ : ∃ sm, sm = sameR p b k := ⟨_, rfl⟩
      rw [← hsmE] at hr ⊢
      have hts : ∀ {c : Bool}, goesR s p l b k x = (if x.e.ts - f.ts > p.within then false else c) → ¬ x.e.ts - f.ts > p.within → goesR s p l b k x = c := fun h h1 => by rw [h, if_neg h1]
      (repeat ((conv=>arg 2;whnf);first|refine wp_it rfl ?_|refine wp_if rfl ?_))
      (conv=>arg 2;whnf);refine wp_ite (fun h1 => ?_) (fun h1 => ?_)
      · have h1 : x.at_ ≤ (lastBd b).at_ := of_decide_eq_true h1
        rw [hr, if_pos h1]
        (repeat ((conv=>arg 2;whnf);first|refine wp_it rfl ?_|refine wp_if rfl ?_))
        (conv=>arg 2;whnf);refine w_ret1 rfl (Vle.refl _) (List.nil_sublist _) rfl
      · have h1 : ¬ x.at_ ≤ (lastBd b).at_ := of_decide_eq_false h1
        rw [if_neg h1] at hr
        have e4 : decide ((k : Int) < 0) = false := decide_eq_false (by omega)
        have hin : InR x.e.ts ∧ -1073741825 ≤ x.e.ts ∧ x.e.ts ≤ 1073741825 := ⟨by have := hx.1.2; unfold InR; omega, hx.1.2⟩
        have hfin := (hl.at_ ha).1.2
        have hsub : IntKind.i64.wrap (x.e.ts - f.ts) = x.e.ts - f.ts := w_i64_small (by omega) (by omega)
        clear fa ha
        cases sm with
        | true =>
          rw [if_neg (fun h => Bool.noConfusion h.1)] at hr
          (repeat ((conv=>arg 2;whnf);first|refine wp_it rfl ?_|refine wp_if rfl ?_))
          (conv=>arg 2;whnf);refine wp_ite (fun h5 => ?_) (fun h5 => ?_)
          · have h5 : IntKind.i64.wrap (x.e.ts - f.ts) > p.within := of_decide_eq_true h5
            rw [hsub] at h5
            rw [hr, if_pos h5]
            (conv=>arg 2;whnf);refine w_ret1 rfl (Vle.refl _) (List.nil_sublist _) rfl
          · have h5 : ¬ IntKind.i64.wrap (x.e.ts - f.ts) > p.within := of_decide_eq_false h5
            rw [hsub] at h5
            rw [if_neg h5, Bool.true_or, Bool.and_true] at hr
            (conv=>arg 2;whnf)
            refine wp_cutR (frL [(2, kpsV l), (3, bdsV b), (4, i64V k), (6, .pt (some 1) (scV s) 0), (7, .pt (some 4) (.agg (paC p)) 0), (11, .pt (some 4) (kpV x) 0), (16, bV true)]) [] (.cons (.refl _) (.cons (.refl _) (.cons (.refl _) (.cons (.refl _) (.cons (.refl _) (.cons (.refl _) (.cons (.refl _) (.nil _)))))))) (List.nil_sublist _) ?_
            (conv=>arg 2;whnf);refine wp_pcall ft ?_
            cases ht : takesR s p l b k x.e with
            | true =>
              (repeat ((conv=>arg 2;whnf);first|refine wp_it rfl ?_|refine wp_if rfl ?_))
              (conv=>arg 2;whnf);refine w_ret1 rfl (Vle.eq (cBool (by rw [hr, ht]))) (List.nil_sublist _) rfl
            | false =>
              (repeat ((conv=>arg 2;whnf);first|refine wp_it rfl ?_|refine wp_if rfl ?_))
              (conv=>arg 2;whnf);refine w_ret1 rfl (Vle.eq (cBool (by rw [hr, ht]))) (List.nil_sublist _) rfl
        | false =>
          (repeat ((conv=>arg 2;whnf);first|refine wp_it rfl ?_|refine wp_if rfl ?_))
          (conv=>arg 2;whnf);refine wp_pcall fn ?_
          (conv=>arg 2;whnf);refine wp_ite (fun h3 => ?_) (fun h3 => ?_)
          · have h3 : nextI p (lastBd b).elem ≠ k := by have := bne_iff_ne.1 h3; exact fun e => this e.symm
            rw [if_pos ⟨rfl, h3⟩] at hr
            rw [hr]
            (repeat ((conv=>arg 2;whnf);first|refine wp_it rfl ?_|refine wp_if rfl ?_))
            (conv=>arg 2;whnf);refine w_ret1 rfl (Vle.refl _) (List.nil_sublist _) rfl
          · have h3 : ¬ nextI p (lastBd b).elem ≠ k := by
              have := bne_eq_false_iff_eq.1 h3
              exact fun hc => hc this.symm
            rw [if_neg (fun h => h3 h.2)] at hr
            (conv=>arg 2;whnf);refine wp_if e4 ?_
            (conv=>arg 2;whnf);refine wp_ite (fun h5 => ?_) (fun h5 => ?_)
            · have h5 : IntKind.i64.wrap (x.e.ts - f.ts) > p.within := of_decide_eq_true h5
              rw [hsub] at h5
              rw [hr, if_pos h5]
              (conv=>arg 2;whnf);refine w_ret1 rfl (Vle.refl _) (List.nil_sublist _) rfl
            · have h5 : ¬ IntKind.i64.wrap (x.e.ts - f.ts) > p.within := of_decide_eq_false h5
              rw [hsub] at h5
              rw [if_neg h5, Bool.false_or] at hr
              (conv=>arg 2;whnf)
              refine wp_cutR (frL [(2, kpsV l), (3, bdsV b), (4, i64V k), (6, .pt (some 1) (scV s) 0), (7, .pt (some 4) (.agg (paC p)) 0), (11, .pt (some 4) (kpV x) 0), (13, .pt (some 2) (bdV (lastBd b)) 0), (16, bV false)]) [] (.cons (.refl _) (.cons (.refl _) (.cons (.refl _) (.cons (.refl _) (.cons (.refl _) (.cons (.refl _) (.cons (.refl _) (.cons (.refl _) (.nil _))))))))) (List.nil_sublist _) ?_
              (conv=>arg 2;whnf);refine wp_pcall ft ?_
              cases ht : takesR s p l b k x.e with
              | true =>
                (repeat ((conv=>arg 2;whnf);first|refine wp_it rfl ?_|refine wp_if rfl ?_))
                (conv=>arg 2;whnf);refine wp_pcall ff ?_
                (conv=>arg 2;whnf);refine w_ret1 rfl (Vle.eq (cBool (by rw [hr, ht]; rfl))) (List.nil_sublist _) rfl
              | false =>
                (repeat ((conv=>arg 2;whnf);first|refine wp_it rfl ?_|refine wp_if rfl ?_))
                (conv=>arg 2;whnf);refine w_ret1 rfl (Vle.eq (cBool (by rw [hr, ht]; rfl))) (List.nil_sublist _) rfl
set_option maxRecDepth 100000 in
set_option maxHeartbeats 4000000 in
theorem rgoes_neg (s : Sc) (p : Pa) (hpn : p.els.length < 2 ^ 60) (l : List Kp) (hl : l.length < 2 ^ 60) (b : List Bd) (hb : b.length < 2 ^ 29) (hbe : ∀ y ∈ b, y.elem < p.els.length) (hb0 : b ≠ []) (x : Kp) :
    PCall Tryz.prog 39 [scV s, .agg (paC p), kpsV l, bdsV b, i64V (-1), kpV x] (bV false) := by
  have hlast : (lastBd b).elem < p.els.length := hbe _ (List.mem_of_getElem? (last_at hb0))
  have e0 : (((b.map bdV).length : Int) == 0) = false := len_ne hb0
  have hw : IntKind.i64.wrap (((b.map bdV).length : Int) - 1) = ((b.length - 1 : Nat) : Int) := len_pred hb0 (by omega)
  obtain ⟨ok, fa⟩ := firstR_call l hl b
  have fn := rnext_call p (lastBd b).elem hpn (by omega)
  have e1 : ((-1 : Int) == ((lastBd b).elem : Int)) = false := by rw [beq_eq_false_iff_ne]; omega
  refine scall_of (live := []) (ords := [(6, [])]) Tryz.func39 rfl (by kernel_rfl) (by kernel_rfl) (Nat.le_of_ble_eq_true rfl) ?_
  (conv=>arg 2;whnf);refine wp_if e0 ?_
  (conv=>arg 2;whnf);refine wp_elem (b.length - 1) (bdV (lastBd b)) hw (bds_at (last_at hb0)) (Vle.refl _) ?_
  (conv=>arg 2;whnf);refine wp_allocE bdZ rfl fun q => ?_
  (conv=>arg 2;whnf);refine wp_storeE (cs := bdZ) 0 0 (bdC (lastBd b)) rfl rfl (VleL.refl _) (Nat.le_refl _) rfl (R' := [.obj q (bdC (lastBd b))]) rfl ?_
  (conv=>arg 2;whnf);refine wp_elem 0 (bdV (b.headD bd0)) rfl (bds_at (head_at hb0)) (Vle.refl _) ?_
  (conv=>arg 2;whnf);refine wp_pcall fa ?_
  (conv=>arg 2;whnf);refine wp_allocE evZ rfl fun u => ?_
  (conv=>arg 2;whnf);refine wp_storeE (cs := evZ) 1 0 (evC (firstEv l b)) rfl rfl (VleL.refl _) (Nat.le_refl _) rfl (R' := [.obj q (bdC (lastBd b)), .obj u (evC (firstEv l b))]) rfl ?_
  (conv=>arg 2;whnf);refine wp_load (cs := bdC (lastBd b)) 0 rfl rfl ?_
  (conv=>arg 2;whnf);refine wp_if e1 ?_
  (conv=>arg 2;whnf)
  refine wp_cutP (frL [(4, i64V (-1)), (7, .pt (some 4) (.agg (paC p)) 0), (11, .pt (some 4) (kpV x) 0), (13, .pt (some 2) (bdV (lastBd b)) 0), (15, bV ok), (16, bV false)]) [] [.obj q (bdC (lastBd b)), .obj u (evC (firstEv l b))] (.cons (.refl _) (.cons (.refl _) (.cons (.refl _) (.cons (.all (List.Mem.head _) rfl (by decide) (VleL.refl _)) (.cons (.refl _) (.cons (.refl _) (.nil _))))))) ?_
  cases ok with
  | false =>
    (repeat ((conv=>arg 2;whnf);first|refine wp_it rfl ?_|refine wp_if rfl ?_))
    (conv=>arg 2;whnf);refine w_ret1 rfl (Vle.refl _) (List.nil_sublist _) rfl
  | true =>
    (repeat ((conv=>arg 2;whnf);first|refine wp_it rfl ?_|refine wp_if rfl ?_))
    (conv=>arg 2;whnf);refine wp_ite (fun h1 => ?_) (fun h1 => ?_)
    · (repeat ((conv=>arg 2;whnf);first|refine wp_it rfl ?_|refine wp_if rfl ?_))
      (conv=>arg 2;whnf);refine w_ret1 rfl (Vle.refl _) (List.nil_sublist _) rfl
    · (repeat ((conv=>arg 2;whnf);first|refine wp_it rfl ?_|refine wp_if rfl ?_))
      (conv=>arg 2;whnf);refine wp_pcall fn ?_
      (conv=>arg 2;whnf);refine wp_ite (fun h3 => ?_) (fun h3 => ?_)
      · (repeat ((conv=>arg 2;whnf);first|refine wp_it rfl ?_|refine wp_if rfl ?_))
        (conv=>arg 2;whnf);refine w_ret1 rfl (Vle.refl _) (List.nil_sublist _) rfl
      · (repeat ((conv=>arg 2;whnf);first|refine wp_it rfl ?_|refine wp_if rfl ?_))
        (conv=>arg 2;whnf);refine w_ret1 rfl (Vle.refl _) (List.nil_sublist _) rfl
end Go.Sv
namespace Go.Sv
open Go Go.Proofs
def fitR (s : Sc) (p : Pa) (l : List Kp) (b : List Bd) (i : Nat) : Bool :=
  match atE l (b.getD i bd0).at_ with
  | none => false
  | some e => decide ((b.getD i bd0).elem < p.els.length) && (!ntAt p.els (b.getD i bd0).elem && goesR s p l (b.take i) (b.getD i bd0).elem ⟨(b.getD i bd0).at_, e⟩)
def goesI (s : Sc) (p : Pa) (l : List Kp) (b : List Bd) (k : Int) (x : Kp) : Bool := if k < 0 then false else goesR s p l b k.toNat x
def skip1 (s : Sc) (p : Pa) (l : List Kp) (b : List Bd) (i : Nat) (y : Kp) : Bool :=
  (decide ((b.getD (i - 1) bd0).at_ < y.at_) && decide (y.at_ < (b.getD i bd0).at_)) && (goesR s p l (b.take i) (b.getD (i - 1) bd0).elem y || goesI s p l (b.take i) (nextI p (b.getD (i - 1) bd0).elem) y)
def skipR (s : Sc) (p : Pa) (l : List Kp) (b : List Bd) (i : Nat) : Bool := l.any (skip1 s p l b i)
def preR (s : Sc) (p : Pa) (l : List Kp) (b : List Bd) : Bool :=
  decide (b ≠ []) && (List.range b.length).all fun i => fitR s p l b i && (decide (i = 0) || p.any || !skipR s p l b i)
theorem rgoes_call (s : Sc) (hs : ScOk s) (p : Pa) (hp : RfOkP p) (l : List Kp) (hl : RfOkL l) (b : List Bd) (hb : b.length < 2 ^ 29) (hbe : ∀ y ∈ b, y.elem < p.els.length) (k : Nat) (hk : k < p.els.length) (x : Kp) (hx : EvIs x.e) :
    PCall Tryz.prog 39 [scV s, .agg (paC p), kpsV l, bdsV b, i64V k, kpV x] (bV (goesR s p l b k x)) := by
  by_cases h : b = []
  · subst h; exact rgoes_nil s hs p hp l hl _ (.inl rfl) k (by omega) x hx
  · exact rgoes_cons s hs p hp l hl b hb hbe h k hk x hx
theorem rgoesI_call (s : Sc) (hs : ScOk s) (p : Pa) (hp : RfOkP p) (l : List Kp) (hl : RfOkL l) (b : List Bd) (hb : b.length < 2 ^ 29) (hbe : ∀ y ∈ b, y.elem < p.els.length) (h0 : b ≠ []) (k : Nat) (x : Kp) (hx : EvIs x.e) :
    PCall Tryz.prog 39 [scV s, .agg (paC p), kpsV l, bdsV b, i64V (nextI p k), kpV x] (bV (goesI s p l b (nextI p k) x)) := by
  unfold nextI
  cases h : nextE p k with
  | none => exact rgoes_neg s p hp.n l hl.n b hb hbe h0 x
  | some n =>
    have hn := (nextE_some h).2.1
    have e : goesI s p l b (n : Int) x = goesR s p l b n x := by rw [goesI, if_neg (by omega)]; rfl
    simp only [e]
    exact rgoes_call s hs p hp l hl b hb hbe n hn x hx
set_option maxRecDepth 100000 in
set_option maxHeartbeats 4000000 in
theorem rprefix_call (s : Sc) (hs : ScOk s) (p : Pa) (hp : RfOkP p) (l : List Kp) (hl : RfOkL l) (b : List Bd) (hb : b.length < 2 ^ 29) (hbe : ∀ y ∈ b, y.elem < 2 ^ 60) :
    PCall Tryz.prog 15 [scV s, .agg (paC p), kpsV l, bdsV b] (bV (preR s p l b)) := by
  have hpn := hp.n
  have hln := hl.n
  refine scall_of (live := []) (ords := [(7, []), (9, []), (13, [])]) Tryz.func15 rfl (by kernel_rfl) (by kernel_rfl) (Nat.le_of_ble_eq_true rfl) ?_
  by_cases hb0 : b = []
  · subst hb0
    (repeat ((conv=>arg 2;whnf);first|refine wp_it rfl ?_|refine wp_if rfl ?_))
    (conv=>arg 2;whnf);refine w_ret1 rfl (Vle.refl _) (List.nil_sublist _) rfl
  have e0 : (((b.map bdV).length : Int) == 0) = false := len_ne hb0
  have hpr : preR s p l b = (List.range b.length).all fun i => fitR s p l b i && (decide (i = 0) || p.any || !skipR s p l b i) := by rw [preR, decide_eq_true hb0, Bool.true_and]
  (conv=>arg 2;whnf);refine wp_if e0 ?_
  (conv=>arg 2;whnf);refine wp_loop (fun m fr R => ∃ n : Nat, m = b.length - n ∧ n ≤ b.length ∧ R = [] ∧ (List.range n).all (fun i => fitR s p l b i && (decide (i = 0) || p.any || !skipR s p l b i)) = true ∧ fr = frL [(2, kpsV l), (3, bdsV b), (4, .pt (some 1) (scV s) 0), (5, .pt (some 4) (.agg (paC p)) 0), (9, i64V n)])
    b.length _ _ (.cons (.refl _) (.cons (.refl _) (.cons (.refl _) (.cons (.refl _) (.cons (.refl _) (.nil _)))))) (List.Sublist.refl _) ⟨0, rfl, Nat.zero_le _, rfl, rfl, rfl⟩ ?_
  rintro m fr R ⟨n, rfl, hn, rfl, ha, rfl⟩
  (conv=>arg 2;whnf);refine wp_ite (fun h => ?_) (fun h => ?_)
  · have h : n < b.length := by
      have := of_decide_eq_true h
      rw [List.length_map] at this; omega
    obtain ⟨x, hx⟩ : ∃ x, b[n]? = some x := ⟨_, List.getElem?_eq_getElem h⟩
    have hxe := hbe x (List.mem_of_getElem? hx)
    have hgx : b.getD n bd0 = x := getD_at hx
    have fa := rat_call l x.at_ hl.n
    have htk : ∀ y ∈ b.take n, y.elem < p.els.length := by
      intro y hy
      obtain ⟨i, hi⟩ := List.mem_iff_getElem?.1 hy
      have hin : i < n := by have := (List.getElem?_eq_some_iff.1 hi).1; rw [List.length_take] at this; omega
      have hbi : b[i]? = some y := by rw [List.getElem?_take] at hi; rw [if_pos hin] at hi; exact hi
      have := List.all_eq_true.1 ha i (List.mem_range.2 hin)
      rw [Bool.and_eq_true] at this
      have h1 := this.1
      unfold fitR at h1
      split at h1
      · cases h1
      · rw [Bool.and_eq_true, decide_eq_true_iff, getD_at hbi] at h1
        exact h1.1
    have hmiss : (fitR s p l b n && (decide (n = 0) || p.any || !skipR s p l b n)) = false → false = preR s p l b := fun e => by rw [hpr]; exact (rng_miss h e).symm
    have hnext : (fitR s p l b n && (decide (n = 0) || p.any || !skipR s p l b n)) = true → (List.range (n + 1)).all (fun i => fitR s p l b i && (decide (i = 0) || p.any || !skipR s p l b i)) = true := fun e => rng_next ha e
    have hneed : (0 : Int) ≤ n ∧ (n : Int) ≤ (b.map bdV).length := by rw [List.length_map]; omega
    obtain ⟨r, hrE⟩ : ∃ r, r = fitR s p l b n := ⟨_, rfl⟩
    rw [← hrE] at hmiss hnext
    (conv=>arg 2;whnf);refine wp_elem n (bdV x) rfl (bds_at hx) (Vle.refl _) ?_
    cases hat : atE l x.at_ with
    | none =>
      rw [hat] at fa
      have hok : r = false := by rw [hrE, fitR, hgx, hat]
      (conv=>arg 2;whnf);refine wp_pcall fa ?_
      (conv=>arg 2;whnf);refine wp_allocE evZ rfl fun u => ?_
      (conv=>arg 2;whnf);refine wp_storeE (cs := evZ) 0 0 (evC ev0) rfl rfl (VleL.refl _) (Nat.le_refl _) rfl (R' := [.obj u (evC ev0)]) rfl ?_
      (conv=>arg 2;whnf)
      refine wp_cutR (frL [(11, bV false)]) [] (.cons (.refl _) (.nil _)) (List.nil_sublist _) ?_
      (repeat ((conv=>arg 2;whnf);first|refine wp_it rfl ?_|refine wp_if rfl ?_))
      (conv=>arg 2;whnf)
      refine wp_leaf (loop_ret ?_)
      (conv=>arg 2;whnf);refine w_ret1 rfl (Vle.eq (cBool (hmiss (by rw [hok]; rfl)))) (List.nil_sublist _) rfl
    | some e =>
      rw [hat] at fa
      have hev := hl.at_ hat
      have hok : r = (decide (x.elem < p.els.length) && (!ntAt p.els x.elem && goesR s p l (b.take n) x.elem ⟨x.at_, e⟩)) := by rw [hrE, fitR, hgx, hat]
      clear hrE
      (conv=>arg 2;whnf);refine wp_pcall fa ?_
      (conv=>arg 2;whnf);refine wp_allocE evZ rfl fun u => ?_
      (conv=>arg 2;whnf);refine wp_storeE (cs := evZ) 0 0 (evC e) rfl rfl (VleL.refl _) (Nat.le_refl _) rfl (R' := [.obj u (evC e)]) rfl ?_
      (conv=>arg 2;whnf)
      refine wp_cutP (frL [(2, kpsV l), (3, bdsV b), (4, .pt (some 1) (scV s) 0), (5, .pt (some 4) (.agg (paC p)) 0), (9, i64V n), (10, .pt (some 3) (evV e) 0), (11, bV true)]) [] [.obj u (evC e)] (.cons (.refl _) (.cons (.refl _) (.cons (.refl _) (.cons (.refl _) (.cons (.refl _) (.cons (.all (List.Mem.head _) rfl (by decide) (VleL.refl _)) (.cons (.refl _) (.nil _)))))))) ?_
      clear fa
      (repeat ((conv=>arg 2;whnf);first|refine wp_it rfl ?_|refine wp_if rfl ?_))
      (conv=>arg 2;whnf);refine wp_elem n (bdV x) rfl (bds_at hx) (Vle.refl _) ?_
      (conv=>arg 2;whnf);refine wp_ite (fun h => absurd (of_decide_eq_true h) (by omega)) (fun _ => ?_)
      (conv=>arg 2;whnf);refine wp_elem n (bdV x) rfl (bds_at hx) (Vle.refl _) ?_
      (conv=>arg 2;whnf);refine wp_ite (fun h2 => ?_) (fun h2 => ?_)
      · have h2 : decide (x.elem < p.els.length) = false := decide_eq_false (by have := of_decide_eq_true h2; rw [List.length_map] at this; omega)
        rw [h2] at hok
        (repeat ((conv=>arg 2;whnf);first|refine wp_it rfl ?_|refine wp_if rfl ?_))
        (conv=>arg 2;whnf)
        refine wp_leaf (loop_ret ?_)
        (conv=>arg 2;whnf);refine w_ret1 rfl (Vle.eq (cBool (hmiss (by rw [hok]; rfl)))) (List.nil_sublist _) rfl
      · have h2 : x.elem < p.els.length := by have := of_decide_eq_false h2; rw [List.length_map] at this; omega
        obtain ⟨y, hy, hnt, _⟩ := nt_at p h2
        rw [decide_eq_true h2, Bool.true_and] at hok
        (conv=>arg 2;whnf);refine wp_elem n (bdV x) rfl (bds_at hx) (Vle.refl _) ?_
        (conv=>arg 2;whnf);refine wp_elem x.elem (elV y) rfl (els_at2 hy) (Vle.refl _) ?_
        (conv=>arg 2;whnf);refine wp_ite (fun h3 => ?_) (fun h3 => ?_)
        · have h3 : ntAt p.els x.elem = true := hnt ▸ h3
          rw [h3] at hok
          (repeat ((conv=>arg 2;whnf);first|refine wp_it rfl ?_|refine wp_if rfl ?_))
          (conv=>arg 2;whnf)
          refine wp_leaf (loop_ret ?_)
          (conv=>arg 2;whnf);refine w_ret1 rfl (Vle.eq (cBool (hmiss (by rw [hok]; rfl)))) (List.nil_sublist _) rfl
        · have h3 : ntAt p.els x.elem = false := hnt ▸ h3
          rw [h3] at hok
          have hok : r = goesR s p l (b.take n) x.elem ⟨x.at_, e⟩ := hok
          have hbl : (b.take n).length < 2 ^ 29 := by rw [List.length_take]; omega
          have fg := rgoes_call s hs p hp l hl (b.take n) hbl htk x.elem h2 ⟨x.at_, e⟩ hev
          rw [← hok] at fg
          (conv=>arg 2;whnf);refine wp_need hneed ?_
          (conv=>arg 2;whnf);refine wp_elem n (bdV x) rfl (bds_at hx) (Vle.refl _) ?_
          (conv=>arg 2;whnf);refine wp_elem n (bdV x) rfl (bds_at hx) (Vle.refl _) ?_
          (conv=>arg 2;whnf);refine wp_pcV (.cons (.refl _) (.cons (.refl _) (.cons (.refl _) (.cons (bds_take b n) (.cons (.refl _) (.cons (.refl _) .nil)))))) fg ?_
          clear hok fg
          cases r with
          | false =>
            (repeat ((conv=>arg 2;whnf);first|refine wp_it rfl ?_|refine wp_if rfl ?_))
            (conv=>arg 2;whnf)
            refine wp_leaf (loop_ret ?_)
            (conv=>arg 2;whnf);refine w_ret1 rfl (Vle.eq (cBool (hmiss rfl))) (List.nil_sublist _) rfl
          | true =>
            rw [Bool.true_and] at hmiss hnext
            (repeat ((conv=>arg 2;whnf);first|refine wp_it rfl ?_|refine wp_if rfl ?_))
            refine wp_cutR (frL [(2, kpsV l), (3, bdsV b), (4, .pt (some 1) (scV s) 0), (5, .pt (some 4) (.agg (paC p)) 0), (9, i64V n)]) [] (.cons (.refl _) (.cons (.refl _) (.cons (.refl _) (.cons (.refl _) (.cons (.refl _) (.nil _)))))) (List.nil_sublist _) ?_
            (conv=>arg 2;whnf);refine wp_ite (fun h4 => ?_) (fun h4 => ?_)
            · have h4 : n = 0 := by have := beq_iff_eq.1 h4; omega
              (repeat ((conv=>arg 2;whnf);first|refine wp_it rfl ?_|refine wp_if rfl ?_))
              (conv=>arg 2;whnf)
              exact wp_leaf (loop_next (b.length - (n + 1)) _ [] (by omega) (.cons (.refl _) (.cons (.refl _) (.cons (.refl _) (.cons (.refl _) (.cons (Vle.inc n rfl (by omega)) (.nil _)))))) (List.Sublist.refl _) ⟨n + 1, rfl, h, rfl, hnext (by rw [decide_eq_true h4]; rfl), rfl⟩)
            · have h4 : n ≠ 0 := by have := beq_eq_false_iff_ne.1 h4; omega
              (conv=>arg 2;whnf);refine wp_ite (fun h5 => ?_) (fun h5 => ?_)
              · have h5 : p.any = true := h5
                (conv=>arg 2;whnf)
                exact wp_leaf (loop_next (b.length - (n + 1)) _ [] (by omega) (.cons (.refl _) (.cons (.refl _) (.cons (.refl _) (.cons (.refl _) (.cons (Vle.inc n rfl (by omega)) (.nil _)))))) (List.Sublist.refl _) ⟨n + 1, rfl, h, rfl, hnext (by rw [h5]; simp), rfl⟩)
              · have h5 : p.any = false := h5
                have hnext : (!skipR s p l b n) = true → _ := fun e => hnext (by rw [h5, decide_eq_false h4, Bool.false_or, Bool.false_or]; exact e)
                rw [h5, decide_eq_false h4, Bool.false_or, Bool.false_or] at hmiss
                obtain ⟨z, hz⟩ : ∃ z, b[n - 1]? = some z := ⟨_, List.getElem?_eq_getElem (by omega)⟩
                have hze : z.elem < p.els.length := htk z (List.mem_of_getElem? (i := n - 1) (by rw [List.getElem?_take, if_pos (by omega)]; exact hz))
                have hgz : b.getD (n - 1) bd0 = z := getD_at hz
                have hne0 : b.take n ≠ [] := fun e => by
                  have := congrArg List.length e
                  rw [List.length_take] at this
                  simp only [List.length_nil] at this; omega
                have hw : IntKind.i64.wrap ((n : Int) - 1) = ((n - 1 : Nat) : Int) := by rw [w_i64_small (by omega) (by omega)]; omega
                have hsk : ∀ y, skip1 s p l b n y = ((decide (z.at_ < y.at_) && decide (y.at_ < x.at_)) && (goesR s p l (b.take n) z.elem y || goesI s p l (b.take n) (nextI p z.elem) y)) := fun y => by rw [skip1, hgx, hgz]
                have fn := rnext_call p z.elem hpn (by omega)
                (conv=>arg 2;whnf);refine wp_loop (fun m' fr R => ∃ k : Nat, m' = l.length - k ∧ k ≤ l.length ∧ R = [] ∧ (l.take k).any (skip1 s p l b n) = false ∧ fr = frL [(2, kpsV l), (3, bdsV b), (4, .pt (some 1) (scV s) 0), (5, .pt (some 4) (.agg (paC p)) 0), (9, i64V n), (12, i64V k)])
                  l.length _ _ (.cons (.refl _) (.cons (.refl _) (.cons (.refl _) (.cons (.refl _) (.cons (.refl _) (.cons (.refl _) (.nil _))))))) (List.Sublist.refl _) ⟨0, rfl, Nat.zero_le _, rfl, rfl, rfl⟩ ?_
                rintro m' fr R ⟨k, rfl, hk, rfl, hak, rfl⟩
                (conv=>arg 2;whnf);refine wp_ite (fun h6 => ?_) (fun h6 => ?_)
                · have h6 : k < l.length := by
                    have := of_decide_eq_true h6
                    rw [List.length_map] at this; omega
                  obtain ⟨y, hy2⟩ : ∃ y, l[k]? = some y := ⟨_, List.getElem?_eq_getElem h6⟩
                  have hyi := hl.ev (List.mem_of_getElem? hy2)
                  have fg1 := rgoes_call s hs p hp l hl (b.take n) hbl htk z.elem hze y hyi
                  have fg2 := rgoesI_call s hs p hp l hl (b.take n) hbl htk hne0 z.elem y hyi
                  have hsy := hsk y
                  obtain ⟨r1, hr1⟩ : ∃ r1, r1 = goesR s p l (b.take n) z.elem y := ⟨_, rfl⟩
                  obtain ⟨r2, hr2⟩ : ∃ r2, r2 = goesI s p l (b.take n) (nextI p z.elem) y := ⟨_, rfl⟩
                  rw [← hr1] at fg1 hsy
                  rw [← hr2] at fg2 hsy
                  clear hr1 hr2
                  have hgo : skip1 s p l b n y = false → (l.take (k + 1)).any (skip1 s p l b n) = false := fun e => any_next hak hy2 e
                  have hstop : skip1 s p l b n y = true → false = preR s p l b := fun e => hmiss (by
                    have : skipR s p l b n = true := List.any_eq_true.2 ⟨y, List.mem_of_getElem? hy2, e⟩
                    rw [this]; rfl)
                  (conv=>arg 2;whnf)
                  refine wp_cutR (frL [(2, kpsV l), (3, bdsV b), (4, .pt (some 1) (scV s) 0), (5, .pt (some 4) (.agg (paC p)) 0), (9, i64V n), (12, i64V k)]) [] (.cons (.refl _) (.cons (.refl _) (.cons (.refl _) (.cons (.refl _) (.cons (.refl _) (.cons (.refl _) (.nil _))))))) (List.nil_sublist _) ?_
                  (conv=>arg 2;whnf);refine wp_elem k (kpV y) rfl (kps_at hy2) (Vle.refl _) ?_
                  (conv=>arg 2;whnf);refine wp_elem (n - 1) (bdV z) hw (bds_at hz) (Vle.refl _) ?_
                  (conv=>arg 2;whnf);refine wp_ite (fun h7 => ?_) (fun h7 => ?_)
                  · have h7 : decide (z.at_ < y.at_) = true := h7
                    (conv=>arg 2;whnf);refine wp_elem k (kpV y) rfl (kps_at hy2) (Vle.refl _) ?_
                    (conv=>arg 2;whnf);refine wp_elem n (bdV x) rfl (bds_at hx) (Vle.refl _) ?_
                    (conv=>arg 2;whnf);refine wp_ite (fun h8 => ?_) (fun h8 => ?_)
                    · have h8 : decide (y.at_ < x.at_) = true := h8
                      rw [h7, h8, Bool.and_self, Bool.true_and] at hsy
                      (conv=>arg 2;whnf);refine wp_need hneed ?_
                      (conv=>arg 2;whnf);refine wp_elem (n - 1) (bdV z) hw (bds_at hz) (Vle.refl _) ?_
                      (conv=>arg 2;whnf);refine wp_elem k (kpV y) rfl (kps_at hy2) (Vle.refl _) ?_
                      (conv=>arg 2;whnf);refine wp_pcV (.cons (.refl _) (.cons (.refl _) (.cons (.refl _) (.cons (bds_take b n) (.cons (.refl _) (.cons (.refl _) .nil)))))) fg1 ?_
                      clear fg1
                      cases r1 with
                      | true =>
                        rw [Bool.true_or] at hsy
                        (repeat ((conv=>arg 2;whnf);first|refine wp_it rfl ?_|refine wp_if rfl ?_))
                        (conv=>arg 2;whnf)
                        refine wp_leaf (loop_ret (loop_ret ?_))
                        (conv=>arg 2;whnf);refine w_ret1 rfl (Vle.eq (cBool (hstop hsy))) (List.nil_sublist _) rfl
                      | false =>
                        rw [Bool.false_or] at hsy
                        (repeat ((conv=>arg 2;whnf);first|refine wp_it rfl ?_|refine wp_if rfl ?_))
                        (conv=>arg 2;whnf);refine wp_need hneed ?_
                        (conv=>arg 2;whnf);refine wp_elem (n - 1) (bdV z) hw (bds_at hz) (Vle.refl _) ?_
                        (conv=>arg 2;whnf);refine wp_pc fn ?_
                        (conv=>arg 2;whnf);refine wp_elem k (kpV y) rfl (kps_at hy2) (Vle.refl _) ?_
                        (conv=>arg 2;whnf);refine wp_pcV (.cons (.refl _) (.cons (.refl _) (.cons (.refl _) (.cons (bds_take b n) (.cons (.refl _) (.cons (.refl _) .nil)))))) fg2 ?_
                        clear fg2
                        cases r2 with
                        | true =>
                          (repeat ((conv=>arg 2;whnf);first|refine wp_it rfl ?_|refine wp_if rfl ?_))
                          (conv=>arg 2;whnf)
                          refine wp_leaf (loop_ret (loop_ret ?_))
                          (conv=>arg 2;whnf);refine w_ret1 rfl (Vle.eq (cBool (hstop hsy))) (List.nil_sublist _) rfl
                        | false =>
                          (repeat ((conv=>arg 2;whnf);first|refine wp_it rfl ?_|refine wp_if rfl ?_))
                          (conv=>arg 2;whnf)
                          exact wp_leaf (loop_next (l.length - (k + 1)) _ [] (by omega) (.cons (.refl _) (.cons (.refl _) (.cons (.refl _) (.cons (.refl _) (.cons (.refl _) (.cons (Vle.inc k rfl (by omega)) (.nil _))))))) (List.Sublist.refl _) ⟨k + 1, rfl, h6, rfl, hgo hsy, rfl⟩)
                    · have h8 : decide (y.at_ < x.at_) = false := h8
                      rw [h8, Bool.and_false, Bool.false_and] at hsy
                      (repeat ((conv=>arg 2;whnf);first|refine wp_it rfl ?_|refine wp_if rfl ?_))
                      (conv=>arg 2;whnf)
                      exact wp_leaf (loop_next (l.length - (k + 1)) _ [] (by omega) (.cons (.refl _) (.cons (.refl _) (.cons (.refl _) (.cons (.refl _) (.cons (.refl _) (.cons (Vle.inc k rfl (by omega)) (.nil _))))))) (List.Sublist.refl _) ⟨k + 1, rfl, h6, rfl, hgo hsy, rfl⟩)
                  · have h7 : decide (z.at_ < y.at_) = false := h7
                    rw [h7, Bool.false_and, Bool.false_and] at hsy
                    (repeat ((conv=>arg 2;whnf);first|refine wp_it rfl ?_|refine wp_if rfl ?_))
                    (conv=>arg 2;whnf)
                    exact wp_leaf (loop_next (l.length - (k + 1)) _ [] (by omega) (.cons (.refl _) (.cons (.refl _) (.cons (.refl _) (.cons (.refl _) (.cons (.refl _) (.cons (Vle.inc k rfl (by omega)) (.nil _))))))) (List.Sublist.refl _) ⟨k + 1, rfl, h6, rfl, hgo hsy, rfl⟩)
                · have h6 : k = l.length := by
                    have := of_decide_eq_false h6
                    rw [List.length_map] at this; omega
                  rw [h6, List.take_length] at hak
                  have hn2 := hnext (by rw [skipR, hak]; rfl)
                  (conv=>arg 2;whnf)
                  refine wp_leaf (loop_exit ?_)
                  (conv=>arg 2;whnf)
                  exact wp_leaf (loop_next (b.length - (n + 1)) _ [] (by omega) (.cons (.refl _) (.cons (.refl _) (.cons (.refl _) (.cons (.refl _) (.cons (Vle.inc n rfl (by omega)) (.nil _)))))) (List.Sublist.refl _) ⟨n + 1, rfl, h, rfl, hn2, rfl⟩)
  · have h : n = b.length := by
      have := of_decide_eq_false h
      rw [List.length_map] at this; omega
    rw [h] at ha
    have hend : true = preR s p l b := by rw [hpr]; exact ha.symm
    (conv=>arg 2;whnf)
    refine wp_leaf (loop_exit ?_)
    (conv=>arg 2;whnf);refine w_ret1 rfl (Vle.eq (cBool hend)) (List.nil_sublist _) rfl
end Go.Sv
namespace Go.Sv
open Go Go.Proofs
theorem cmpI_lt {x y : Int} : cmpI x y < 0 ↔ x < y := by
  rcases cmpI_cases x y with ⟨h, e⟩ | ⟨h, e⟩ | ⟨h, e⟩ <;> rw [e] <;> simp <;> omega
theorem cmpI_ne {x y : Int} : cmpI x y ≠ 0 ↔ x ≠ y := by
  rcases cmpI_cases x y with ⟨h, e⟩ | ⟨h, e⟩ | ⟨h, e⟩ <;> rw [e] <;> simp <;> omega
theorem ordR_cons (x y : Bd) (a b : List Bd) : ordR (x :: a) (y :: b) = orI (ordBd x y) (ordR a b) := rfl
theorem less_at {x y : Bd} {a b : List Bd} (h : x.at_ ≠ y.at_) : lessR (x :: a) (y :: b) = decide (x.at_ < y.at_) := by
  have h1 : cmpI x.at_ y.at_ ≠ 0 := cmpI_ne.2 h
  have h2 : ordBd x y = cmpI x.at_ y.at_ := if_pos h1
  rw [lessR, ordR_cons, h2, show orI (cmpI x.at_ y.at_) (ordR a b) = cmpI x.at_ y.at_ from if_pos h1]
  rw [Bool.eq_iff_iff, decide_eq_true_iff, decide_eq_true_iff, cmpI_lt]
theorem less_el {x y : Bd} {a b : List Bd} (h : x.at_ = y.at_) (h' : x.elem ≠ y.elem) : lessR (x :: a) (y :: b) = decide ((x.elem : Int) < y.elem) := by
  have h0 : ¬ cmpI x.at_ y.at_ ≠ 0 := fun e => cmpI_ne.1 e h
  have h1 : cmpI (x.elem : Int) y.elem ≠ 0 := cmpI_ne.2 (by omega)
  have h2 : ordBd x y = cmpI x.elem y.elem := if_neg h0
  rw [lessR, ordR_cons, h2, show orI (cmpI (x.elem : Int) y.elem) (ordR a b) = cmpI x.elem y.elem from if_pos h1]
  rw [Bool.eq_iff_iff, decide_eq_true_iff, decide_eq_true_iff, cmpI_lt]
theorem less_eq {x y : Bd} {a b : List Bd} (h : x.at_ = y.at_) (h' : x.elem = y.elem) : lessR (x :: a) (y :: b) = lessR a b := by
  have h2 : ordBd x y = 0 := ordBd_zero.2 (by cases x; cases y; simp at h h'; simp [h, h'])
  rw [lessR, ordR_cons, h2]; rfl
theorem less_end {a b : List Bd} (h : a = [] ∨ b = []) : lessR a b = decide ((a.length : Int) < b.length) := by
  rcases h with rfl | rfl
  · cases b with
    | nil => rfl
    | cons y b =>
      have : ((0 : Nat) : Int) < ((y :: b).length : Int) := by simp only [List.length_cons]; omega
      rw [List.length_nil, decide_eq_true this]; rfl
  · cases a with
    | nil => rfl
    | cons x a =>
      have : ¬ ((x :: a).length : Int) < ((0 : Nat) : Int) := by simp only [List.length_cons]; omega
      rw [List.length_nil, decide_eq_false this]; rfl
set_option maxRecDepth 100000 in
set_option maxHeartbeats 2000000 in
theorem rless_call (a b : List Bd) (ha : a.length < 2 ^ 60) (hb : b.length < 2 ^ 60) : PCall Tryz.prog 16 [bdsV a, bdsV b] (bV (lessR a b)) := by
  refine scall_of (live := []) (ords := [(4, []), (8, [])]) Tryz.func16 rfl (by kernel_rfl) (by kernel_rfl) (Nat.le_of_ble_eq_true rfl) ?_
  (conv=>arg 2;whnf);refine wp_loop (fun m fr R => ∃ n : Nat, m = a.length - n ∧ n ≤ a.length ∧ n ≤ b.length ∧ R = [] ∧ lessR a b = lessR (a.drop n) (b.drop n) ∧ fr = frL [(0, bdsV a), (1, bdsV b), (5, i64V n)])
    a.length _ _ (.cons (.refl _) (.cons (.refl _) (.cons (.refl _) (.nil _)))) (List.Sublist.refl _) ⟨0, rfl, Nat.zero_le _, Nat.zero_le _, rfl, rfl, rfl⟩ ?_
  rintro m fr R ⟨n, rfl, hna, hnb, rfl, hl, rfl⟩
  have hend : n = a.length ∨ n = b.length → decide (((a.map bdV).length : Int) < ((b.map bdV).length : Int)) = lessR a b := fun h => by
    rw [hl, less_end (h.imp (fun e => by rw [e, List.drop_length]) (fun e => by rw [e, List.drop_length])), List.length_drop, List.length_drop, List.length_map, List.length_map]
    rw [Bool.eq_iff_iff, decide_eq_true_iff, decide_eq_true_iff]; omega
  apply @wp_joinT _ (decide (((a.map bdV).length : Int) < ((b.map bdV).length : Int)) = lessR a b → _)
  case h1 =>
    intro rest
    (conv=>arg 2;whnf);refine wp_ite (fun h => ?_) (fun h => ?_)
    · have h : n < a.length := by
        have := of_decide_eq_true h
        rw [List.length_map] at this; omega
      (conv=>arg 2;whnf);refine wp_ite (fun hq => ?_) (fun hq => ?_)
      · have h' : n < b.length := by
          have := of_decide_eq_true hq
          rw [List.length_map] at this; omega
        obtain ⟨x, hx⟩ : ∃ x, a[n]? = some x := ⟨_, List.getElem?_eq_getElem h⟩
        obtain ⟨y, hy⟩ : ∃ y, b[n]? = some y := ⟨_, List.getElem?_eq_getElem h'⟩
        rw [drop_at hx, drop_at hy] at hl
        (conv=>arg 2;whnf)
        refine wp_cutR (frL [(0, bdsV a), (1, bdsV b), (5, i64V n)]) [] (.cons (.refl _) (.cons (.refl _) (.cons (.refl _) (.nil _)))) (List.nil_sublist _) ?_
        (conv=>arg 2;whnf);refine wp_elem n (bdV x) rfl (bds_at hx) (Vle.refl _) ?_
        (conv=>arg 2;whnf);refine wp_elem n (bdV y) rfl (bds_at hy) (Vle.refl _) ?_
        (conv=>arg 2;whnf);refine wp_ite (fun h1 => ?_) (fun h1 => ?_)
        · have h1 : x.at_ ≠ y.at_ := bne_iff_ne.1 h1
          have hr := hl.trans (less_at h1)
          (conv=>arg 2;whnf);refine wp_elem n (bdV x) rfl (bds_at hx) (Vle.refl _) ?_
          (conv=>arg 2;whnf);refine wp_elem n (bdV y) rfl (bds_at hy) (Vle.refl _) ?_
          (conv=>arg 2;whnf)
          refine wp_leaf (loop_ret ?_)
          (conv=>arg 2;whnf);refine w_ret1 rfl (Vle.eq (cBool hr.symm)) (List.nil_sublist _) rfl
        · have h1 : x.at_ = y.at_ := bne_eq_false_iff_eq.1 h1
          (conv=>arg 2;whnf);refine wp_elem n (bdV x) rfl (bds_at hx) (Vle.refl _) ?_
          (conv=>arg 2;whnf);refine wp_elem n (bdV y) rfl (bds_at hy) (Vle.refl _) ?_
          (conv=>arg 2;whnf);refine wp_ite (fun h2 => ?_) (fun h2 => ?_)
          · have h2 : x.elem ≠ y.elem := fun e => bne_iff_ne.1 h2 (by rw [e])
            have hr := hl.trans (less_el h1 h2)
            (conv=>arg 2;whnf);refine wp_elem n (bdV x) rfl (bds_at hx) (Vle.refl _) ?_
            (conv=>arg 2;whnf);refine wp_elem n (bdV y) rfl (bds_at hy) (Vle.refl _) ?_
            (conv=>arg 2;whnf)
            refine wp_leaf (loop_ret ?_)
            (conv=>arg 2;whnf);refine w_ret1 rfl (Vle.eq (cBool hr.symm)) (List.nil_sublist _) rfl
          · have h2 : x.elem = y.elem := by have := bne_eq_false_iff_eq.1 h2; omega
            have hr := hl.trans (less_eq h1 h2)
            (conv=>arg 2;whnf)
            exact wp_leaf (loop_next (a.length - (n + 1)) _ [] (by omega) (.cons (.refl _) (.cons (.refl _) (.cons (Vle.inc n rfl (by omega)) (.nil _)))) (List.Sublist.refl _) ⟨n + 1, rfl, h, h', rfl, hr, rfl⟩)
      · have h' : n = b.length := by
          have := of_decide_eq_false hq
          rw [List.length_map] at this; omega
        (conv=>arg 2;whnf)
        refine wp_leaf (loop_exit ?_)
        (conv=>arg 2;whnf)
        exact wp_cutR (frL [(0, bdsV a), (1, bdsV b)]) [] (.cons (.refl _) (.cons (.refl _) (.nil _))) (List.nil_sublist _) (rest (hend (.inr h')))
    · have h : n = a.length := by
        have := of_decide_eq_false h
        rw [List.length_map] at this; omega
      (repeat ((conv=>arg 2;whnf);first|refine wp_it rfl ?_|refine wp_if rfl ?_))
      (conv=>arg 2;whnf)
      refine wp_leaf (loop_exit ?_)
      (conv=>arg 2;whnf)
      exact wp_cutR (frL [(0, bdsV a), (1, bdsV b)]) [] (.cons (.refl _) (.cons (.refl _) (.nil _))) (List.nil_sublist _) (rest (hend (.inl h)))
  case rest =>
    intro hr
    (conv=>arg 2;whnf);refine w_ret1 rfl (Vle.eq (cBool hr)) (List.nil_sublist _) rfl
theorem bdEqB : structEqB Tryz.prog 47 = true := by kernel_rfl
theorem bd_eq (a b : Bd) : (((a.elem : Int) == (b.elem : Int)) && ((a.at_ == b.at_) && true)) = decide (a = b) := by
  cases a; cases b
  rw [Bool.eq_iff_iff]; simp
  omega
theorem takes_next {α : Type} {a b : List α} {n : Nat} {x y : α} (h : a.take n = b.take n) (hx : a[n]? = some x) (hy : b[n]? = some y) (e : x = y) : a.take (n + 1) = b.take (n + 1) := by
  rw [List.take_add_one, List.take_add_one, h, hx, hy, e]
theorem ne_at {α : Type} {a b : List α} {n : Nat} {x y : α} (hx : a[n]? = some x) (hy : b[n]? = some y) (e : x ≠ y) : a ≠ b := fun h => by
  rw [h, hy] at hx; exact e (Option.some.inj hx).symm
set_option maxRecDepth 100000 in
theorem rsameb_call (a b : List Bd) (ha : a.length < 2 ^ 60) (hb : b.length < 2 ^ 60) : PCall Tryz.prog 28 [bdsV a, bdsV b] (bV (decide (a = b))) := by
  refine scall_of (live := []) (ords := []) Tryz.func28 rfl (by kernel_rfl) (by kernel_rfl) (Nat.le_of_ble_eq_true rfl) ?_
  (conv=>arg 2;whnf);refine wp_ite (fun h0 => ?_) (fun h0 => ?_)
  · have h0 : a.length ≠ b.length := fun e => by
      have := bne_iff_ne.1 h0
      rw [List.length_map, List.length_map, e] at this
      exact this rfl
    have hr : decide (a = b) = false := decide_eq_false fun e => h0 (by rw [e])
    (conv=>arg 2;whnf);refine w_ret1 rfl (Vle.eq (cBool hr.symm)) (List.nil_sublist _) rfl
  · have h0 : a.length = b.length := by
      have := bne_eq_false_iff_eq.1 h0
      rw [List.length_map, List.length_map] at this
      omega
    (conv=>arg 2;whnf);refine wp_loop (fun m fr R => ∃ n : Nat, m = a.length - n ∧ n ≤ a.length ∧ R = [] ∧ a.take n = b.take n ∧ fr = frL [(0, bdsV a), (1, bdsV b), (5, i64V n)])
      a.length _ _ (.cons (.refl _) (.cons (.refl _) (.cons (.refl _) (.nil _)))) (List.Sublist.refl _) ⟨0, rfl, Nat.zero_le _, rfl, rfl, rfl⟩ ?_
    rintro m fr R ⟨n, rfl, hn, rfl, he, rfl⟩
    (conv=>arg 2;whnf);refine wp_ite (fun h => ?_) (fun h => ?_)
    · have h : n < a.length := by
        have := of_decide_eq_true h
        rw [List.length_map] at this; omega
      obtain ⟨x, hx⟩ : ∃ x, a[n]? = some x := ⟨_, List.getElem?_eq_getElem h⟩
      obtain ⟨y, hy⟩ : ∃ y, b[n]? = some y := ⟨_, List.getElem?_eq_getElem (by omega)⟩
      (conv=>arg 2;whnf);refine wp_elem n (bdV x) rfl (bds_at hx) (Vle.refl _) ?_
      (conv=>arg 2;whnf);refine wp_elem n (bdV y) rfl (bds_at hy) (Vle.refl _) ?_
      (conv=>arg 2;whnf);refine wp_need bdEqB ?_
      (conv=>arg 2;whnf);refine wp_ite (fun h1 => ?_) (fun h1 => ?_)
      · have h1 : (!(((x.elem : Int) == (y.elem : Int)) && ((x.at_ == y.at_) && true))) = true := h1
        rw [bd_eq] at h1
        have hr : decide (a = b) = false := decide_eq_false (ne_at hx hy (by simpa using h1))
        (conv=>arg 2;whnf)
        refine wp_leaf (loop_ret ?_)
        (conv=>arg 2;whnf);refine w_ret1 rfl (Vle.eq (cBool hr.symm)) (List.nil_sublist _) rfl
      · have h1 : (!(((x.elem : Int) == (y.elem : Int)) && ((x.at_ == y.at_) && true))) = false := h1
        rw [bd_eq] at h1
        have hn' := takes_next he hx hy (by simpa using h1)
        (conv=>arg 2;whnf)
        exact wp_leaf (loop_next (a.length - (n + 1)) _ [] (by omega) (.cons (.refl _) (.cons (.refl _) (.cons (Vle.inc n rfl (by omega)) (.nil _)))) (List.Sublist.refl _) ⟨n + 1, rfl, h, rfl, hn', rfl⟩)
    · have h : n = a.length := by
        have := of_decide_eq_false h
        rw [List.length_map] at this; omega
      have hr : decide (a = b) = true := decide_eq_true (by rw [h, List.take_length, h0, List.take_length] at he; exact he)
      (conv=>arg 2;whnf)
      refine wp_leaf (loop_exit ?_)
      (conv=>arg 2;whnf);refine w_ret1 rfl (Vle.eq (cBool hr.symm)) (List.nil_sublist _) rfl
set_option maxRecDepth 100000 in
theorem rsamem_call (a b : List (List Bd)) (ha : a.length < 2 ^ 60) (hb : b.length < 2 ^ 60) (ha' : ∀ x ∈ a, x.length < 2 ^ 60) (hb' : ∀ x ∈ b, x.length < 2 ^ 60) : PCall Tryz.prog 12 [runsV a, runsV b] (bV (decide (a = b))) := by
  refine scall_of (live := []) (ords := []) Tryz.func12 rfl (by kernel_rfl) (by kernel_rfl) (Nat.le_of_ble_eq_true rfl) ?_
  (conv=>arg 2;whnf);refine wp_ite (fun h0 => ?_) (fun h0 => ?_)
  · have h0 : a.length ≠ b.length := fun e => by
      have := bne_iff_ne.1 h0
      rw [List.length_map, List.length_map, e] at this
      exact this rfl
    have hr : decide (a = b) = false := decide_eq_false fun e => h0 (by rw [e])
    (conv=>arg 2;whnf);refine w_ret1 rfl (Vle.eq (cBool hr.symm)) (List.nil_sublist _) rfl
  · have h0 : a.length = b.length := by
      have := bne_eq_false_iff_eq.1 h0
      rw [List.length_map, List.length_map] at this
      omega
    (conv=>arg 2;whnf);refine wp_loop (fun m fr R => ∃ n : Nat, m = a.length - n ∧ n ≤ a.length ∧ R = [] ∧ a.take n = b.take n ∧ fr = frL [(0, runsV a), (1, runsV b), (5, i64V n)])
      a.length _ _ (.cons (.refl _) (.cons (.refl _) (.cons (.refl _) (.nil _)))) (List.Sublist.refl _) ⟨0, rfl, Nat.zero_le _, rfl, rfl, rfl⟩ ?_
    rintro m fr R ⟨n, rfl, hn, rfl, he, rfl⟩
    (conv=>arg 2;whnf);refine wp_ite (fun h => ?_) (fun h => ?_)
    · have h : n < a.length := by
        have := of_decide_eq_true h
        rw [List.length_map] at this; omega
      obtain ⟨x, hx⟩ : ∃ x, a[n]? = some x := ⟨_, List.getElem?_eq_getElem h⟩
      obtain ⟨y, hy⟩ : ∃ y, b[n]? = some y := ⟨_, List.getElem?_eq_getElem (by omega)⟩
      have fs := rsameb_call x y (ha' x (List.mem_of_getElem? hx)) (hb' y (List.mem_of_getElem? hy))
      obtain ⟨r, hr0⟩ : ∃ r, r = decide (x = y) := ⟨_, rfl⟩
      rw [← hr0] at fs
      (conv=>arg 2;whnf);refine wp_elem n (runV x) rfl (runs_at hx) (Vle.refl _) ?_
      (conv=>arg 2;whnf);refine wp_elem n (runV y) rfl (runs_at hy) (Vle.refl _) ?_
      (conv=>arg 2;whnf);refine wp_pc fs ?_
      cases r with
      | false =>
        have hr : decide (a = b) = false := decide_eq_false (ne_at hx hy (of_decide_eq_false hr0.symm))
        (repeat ((conv=>arg 2;whnf);first|refine wp_it rfl ?_|refine wp_if rfl ?_))
        (conv=>arg 2;whnf)
        refine wp_leaf (loop_ret ?_)
        (conv=>arg 2;whnf);refine w_ret1 rfl (Vle.eq (cBool hr.symm)) (List.nil_sublist _) rfl
      | true =>
        have hn' := takes_next he hx hy (of_decide_eq_true hr0.symm)
        (repeat ((conv=>arg 2;whnf);first|refine wp_it rfl ?_|refine wp_if rfl ?_))
        (conv=>arg 2;whnf)
        exact wp_leaf (loop_next (a.length - (n + 1)) _ [] (by omega) (.cons (.refl _) (.cons (.refl _) (.cons (Vle.inc n rfl (by omega)) (.nil _)))) (List.Sublist.refl _) ⟨n + 1, rfl, h, rfl, hn', rfl⟩)
    · have h : n = a.length := by
        have := of_decide_eq_false h
        rw [List.length_map] at this; omega
      have hr : decide (a = b) = true := decide_eq_true (by rw [h, List.take_length, h0, List.take_length] at he; exact he)
      (conv=>arg 2;whnf)
      refine wp_leaf (loop_exit ?_)
      (conv=>arg 2;whnf);refine w_ret1 rfl (Vle.eq (cBool hr.symm)) (List.nil_sublist _) rfl
end Go.Sv
namespace Go.Sv
open Go Go.Proofs
def befB (y m : List Bd) : Bool := decide ((lastBd y).at_ < (lastBd m).at_) || (decide ((lastBd y).at_ = (lastBd m).at_) && lessR y m)
def putR : List (List Bd) → List Bd → List (List Bd)
  | [], m => [m]
  | y :: l, m => if befB y m then y :: putR l m else if y = m then y :: l else m :: y :: l
theorem putR_at : ∀ {l : List (List Bd)} {m : List Bd} {k : Nat}, (l.take k).all (fun y => befB y m) = true → k ≤ l.length → (∀ y, l[k]? = some y → befB y m = false) → putR l m = if l[k]? = some m then l else l.take k ++ m :: l.drop k
  | [], m, k, _, hk, _ => by simp [putR]
  | y :: l, m, 0, _, _, hs => by
    have := hs y rfl
    rw [putR, this]
    simp
  | y :: l, m, k + 1, h, hk, hs => by
    rw [List.take_succ_cons, List.all_cons, Bool.and_eq_true] at h
    rw [putR, if_pos h.1, putR_at h.2 (by simpa using hk) (fun z hz => hs z (by simpa using hz))]
    simp only [List.getElem?_cons_succ, List.take_succ_cons, List.drop_succ_cons]
    split <;> simp
theorem putR_len : ∀ (l : List (List Bd)) (m : List Bd), (putR l m).length ≤ l.length + 1
  | [], m => Nat.le_refl _
  | y :: l, m => by
    have := putR_len l m
    rw [putR]
    split
    · simp only [List.length_cons]; omega
    · split <;> simp
theorem putR_mem : ∀ {l : List (List Bd)} {m z : List Bd}, z ∈ putR l m → z = m ∨ z ∈ l
  | [], m, z, h => by simp [putR] at h; exact .inl h
  | y :: l, m, z, h => by
    rw [putR] at h
    split at h
    · rcases List.mem_cons.1 h with h | h
      · exact .inr (by simp [h])
      · rcases putR_mem h with h | h
        · exact .inl h
        · exact .inr (by simp [h])
    · split at h
      · exact .inr h
      · rcases List.mem_cons.1 h with h | h
        · exact .inl h
        · exact .inr h
set_option maxRecDepth 100000 in
set_option maxHeartbeats 4000000 in
theorem rput_call (l : List (List Bd)) (m : List Bd) (hl : l.length < 2 ^ 42) (hn : ∀ y ∈ l, y ≠ [] ∧ y.length < 2 ^ 60) (hm0 : m ≠ []) (hm : m.length < 2 ^ 60) : PCall Tryz.prog 48 [runsV l, runV m] (runsV (putR l m)) := by
  have hwm : IntKind.i64.wrap (((m.map bdV).length : Int) - 1) = ((m.length - 1 : Nat) : Int) := len_pred hm0 hm
  refine scall_of (live := []) (ords := [(4, []), (6, [0, 1, 2, 4, 5, 7, 8, 9, 3, 6, 10, 11])]) Tryz.func48 rfl (by kernel_rfl) (by kernel_rfl) (Nat.le_of_ble_eq_true rfl) ?_
  (conv=>arg 2;whnf);refine wp_loop (fun m' fr R => ∃ n : Nat, m' = l.length - n ∧ n ≤ l.length ∧ R = [] ∧ (l.take n).all (fun y => befB y m) = true ∧ fr = frL [(0, runsV l), (3, .pt (some 1) (runV m) 0), (5, i64V n)])
    l.length _ _ (.cons (.refl _) (.cons (.refl _) (.cons (.refl _) (.nil _)))) (List.Sublist.refl _) ⟨0, rfl, Nat.zero_le _, rfl, rfl, rfl⟩ ?_
  rintro m' fr R ⟨n, rfl, hnl, rfl, ha, rfl⟩
  have hnone : n = l.length → l[n]? = none := fun h => List.getElem?_eq_none (Nat.le_of_eq h.symm)
  apply @wp_joinT _ ((∀ y, l[n]? = some y → befB y m = false) → _)
  case h1 =>
    intro rest
    (conv=>arg 2;whnf);refine wp_ite (fun h => ?_) (fun h => ?_)
    · have h : n < l.length := by
        have := of_decide_eq_true h
        rw [List.length_map] at this; omega
      obtain ⟨y, hy⟩ : ∃ y, l[n]? = some y := ⟨_, List.getElem?_eq_getElem h⟩
      obtain ⟨hy0, hyn⟩ := hn y (List.mem_of_getElem? hy)
      have hwy : IntKind.i64.wrap (((y.map bdV).length : Int) - 1) = ((y.length - 1 : Nat) : Int) := len_pred hy0 hyn
      have fl := rless_call y m hyn hm
      obtain ⟨r, hr⟩ : ∃ r, r = lessR y m := ⟨_, rfl⟩
      have hbef : befB y m = (decide ((lastBd y).at_ < (lastBd m).at_) || (decide ((lastBd y).at_ = (lastBd m).at_) && r)) := by rw [hr]; rfl
      rw [← hr] at fl
      clear hr
      have hnext : befB y m = true → (l.take (n + 1)).all (fun y => befB y m) = true := fun e => all_next ha hy e
      have hstop : befB y m = false → ∀ z, l[n]? = some z → befB z m = false := fun e z hz => by
        rw [hy] at hz; cases hz; exact e
      (conv=>arg 2;whnf);refine wp_elem n (runV y) rfl (runs_at hy) (Vle.refl _) ?_
      (conv=>arg 2;whnf);refine wp_elem n (runV y) rfl (runs_at hy) (Vle.refl _) ?_
      (conv=>arg 2;whnf);refine wp_elem (y.length - 1) (bdV (lastBd y)) hwy (bds_at (last_at hy0)) (Vle.refl _) ?_
      (conv=>arg 2;whnf);refine wp_elem (m.length - 1) (bdV (lastBd m)) hwm (bds_at (last_at hm0)) (Vle.refl _) ?_
      (conv=>arg 2;whnf);refine wp_ite (fun h1 => ?_) (fun h1 => ?_)
      · have h1 : decide ((lastBd y).at_ < (lastBd m).at_) = true := h1
        rw [h1, Bool.true_or] at hbef
        have hnx := hnext hbef
        (repeat ((conv=>arg 2;whnf);first|refine wp_it rfl ?_|refine wp_if rfl ?_))
        (conv=>arg 2;whnf)
        exact wp_leaf (loop_next (l.length - (n + 1)) _ [] (by omega) (.cons (.refl _) (.cons (.refl _) (.cons (Vle.inc n rfl (by omega)) (.nil _)))) (List.Sublist.refl _) ⟨n + 1, rfl, h, rfl, hnx, rfl⟩)
      · have h1 : decide ((lastBd y).at_ < (lastBd m).at_) = false := h1
        rw [h1, Bool.false_or] at hbef
        (conv=>arg 2;whnf);refine wp_elem n (runV y) rfl (runs_at hy) (Vle.refl _) ?_
        (conv=>arg 2;whnf);refine wp_elem n (runV y) rfl (runs_at hy) (Vle.refl _) ?_
        (conv=>arg 2;whnf);refine wp_elem (y.length - 1) (bdV (lastBd y)) hwy (bds_at (last_at hy0)) (Vle.refl _) ?_
        (conv=>arg 2;whnf);refine wp_elem (m.length - 1) (bdV (lastBd m)) hwm (bds_at (last_at hm0)) (Vle.refl _) ?_
        (conv=>arg 2;whnf);refine wp_ite (fun h2 => ?_) (fun h2 => ?_)
        · have h2 : decide ((lastBd y).at_ = (lastBd m).at_) = true := by rw [← beq_dec]; exact h2
          rw [h2, Bool.true_and] at hbef
          (conv=>arg 2;whnf);refine wp_elem n (runV y) rfl (runs_at hy) (Vle.refl _) ?_
          (conv=>arg 2;whnf);refine wp_pc fl ?_
          clear fl
          cases r with
          | true =>
            have hnx := hnext hbef
            (repeat ((conv=>arg 2;whnf);first|refine wp_it rfl ?_|refine wp_if rfl ?_))
            (conv=>arg 2;whnf)
            exact wp_leaf (loop_next (l.length - (n + 1)) _ [] (by omega) (.cons (.refl _) (.cons (.refl _) (.cons (Vle.inc n rfl (by omega)) (.nil _)))) (List.Sublist.refl _) ⟨n + 1, rfl, h, rfl, hnx, rfl⟩)
          | false =>
            (repeat ((conv=>arg 2;whnf);first|refine wp_it rfl ?_|refine wp_if rfl ?_))
            (conv=>arg 2;whnf)
            refine wp_leaf (loop_exit ?_)
            (conv=>arg 2;whnf)
            exact wp_cutR (frL [(0, runsV l), (3, .pt (some 1) (runV m) 0), (5, i64V n)]) [] (.cons (.refl _) (.cons (.refl _) (.cons (.refl _) (.nil _)))) (List.nil_sublist _) (rest (hstop hbef))
        · have h2 : decide ((lastBd y).at_ = (lastBd m).at_) = false := by rw [← beq_dec]; exact h2
          rw [h2, Bool.false_and] at hbef
          (repeat ((conv=>arg 2;whnf);first|refine wp_it rfl ?_|refine wp_if rfl ?_))
          (conv=>arg 2;whnf)
          refine wp_leaf (loop_exit ?_)
          (conv=>arg 2;whnf)
          exact wp_cutR (frL [(0, runsV l), (3, .pt (some 1) (runV m) 0), (5, i64V n)]) [] (.cons (.refl _) (.cons (.refl _) (.cons (.refl _) (.nil _)))) (List.nil_sublist _) (rest (hstop hbef))
    · have h : n = l.length := by
        have := of_decide_eq_false h
        rw [List.length_map] at this; omega
      have hno : ∀ z, l[n]? = some z → befB z m = false := fun z hz => by rw [hnone h] at hz; cases hz
      (repeat ((conv=>arg 2;whnf);first|refine wp_it rfl ?_|refine wp_if rfl ?_))
      (conv=>arg 2;whnf)
      refine wp_leaf (loop_exit ?_)
      (conv=>arg 2;whnf)
      exact wp_cutR (frL [(0, runsV l), (3, .pt (some 1) (runV m) 0), (5, i64V n)]) [] (.cons (.refl _) (.cons (.refl _) (.cons (.refl _) (.nil _)))) (List.nil_sublist _) (rest hno)
  case rest =>
    intro hstop
    have hput := putR_at ha hnl hstop
    apply @wp_joinT _ (l[n]? ≠ some m → _)
    case h1 =>
      intro rest
      (conv=>arg 2;whnf);refine wp_ite (fun h => ?_) (fun h => ?_)
      · have h : n < l.length := by
          have := of_decide_eq_true h
          rw [List.length_map] at this; omega
        obtain ⟨y, hy⟩ : ∃ y, l[n]? = some y := ⟨_, List.getElem?_eq_getElem h⟩
        have fs := rsameb_call y m (hn y (List.mem_of_getElem? hy)).2 hm
        obtain ⟨r, hr⟩ : ∃ r, r = decide (y = m) := ⟨_, rfl⟩
        rw [← hr] at fs
        (conv=>arg 2;whnf);refine wp_elem n (runV y) rfl (runs_at hy) (Vle.refl _) ?_
        (conv=>arg 2;whnf);refine wp_pc fs ?_
        clear fs
        cases r with
        | true =>
          have hym : y = m := of_decide_eq_true hr.symm
          rw [if_pos (hym ▸ hy)] at hput
          (repeat ((conv=>arg 2;whnf);first|refine wp_it rfl ?_|refine wp_if rfl ?_))
          (conv=>arg 2;whnf);refine w_ret1 rfl (Vle.eq (congrArg runsV hput.symm)) (List.nil_sublist _) rfl
        | false =>
          have hym : y ≠ m := of_decide_eq_false hr.symm
          (repeat ((conv=>arg 2;whnf);first|refine wp_it rfl ?_|refine wp_if rfl ?_))
          exact wp_cutR (frL [(0, runsV l), (3, .pt (some 1) (runV m) 0), (5, i64V n)]) [] (.cons (.refl _) (.cons (.refl _) (.cons (.refl _) (.nil _)))) (List.nil_sublist _) (rest fun e => hym (Option.some.inj (hy.symm.trans e)))
      · have h : n = l.length := by
          have := of_decide_eq_false h
          rw [List.length_map] at this; omega
        have hno : l[n]? ≠ some m := fun e => by rw [hnone h] at e; cases e
        (repeat ((conv=>arg 2;whnf);first|refine wp_it rfl ?_|refine wp_if rfl ?_))
        exact wp_cutR (frL [(0, runsV l), (3, .pt (some 1) (runV m) 0), (5, i64V n)]) [] (.cons (.refl _) (.cons (.refl _) (.cons (.refl _) (.nil _)))) (List.nil_sublist _) (rest hno)
    case rest =>
      intro hne
      rw [if_neg hne] at hput
      have hneed1 : (0 : Int) ≤ n ∧ (n : Int) ≤ (l.map runV).length := by rw [List.length_map]; omega
      have ok1 : ∀ y ∈ (l.map runV).take n, okE (some 1) y := fun y hy => okE_run l y (List.mem_of_mem_take hy)
      have ok2 : ∀ y ∈ (l.map runV).drop n, okE (some 1) y := fun y hy => okE_run l y (List.mem_of_mem_drop hy)
      have hv : ∀ t3, Vle (.sl (some 1) (((l.map runV).take n ++ [runV m]) ++ (l.map runV).drop n) (.t t3)) (runsV (putR l m)) := fun t3 => by
        rw [hput]
        refine Vle.trans (Vle.sl _ _ _) (Vle.eq ?_)
        rw [runsV, List.map_append, List.map_cons, List.map_take, List.map_drop, List.append_assoc]; rfl
      (conv=>arg 2;whnf);refine wp_need hneed1 ?_
      (conv=>arg 2;whnf);refine wp_need hneed1 ?_
      (conv=>arg 2;whnf);refine wp_append_nil ok1 (show List.length ((l.map runV).take n) * 24 ≤ _ by rw [List.length_take, List.length_map]; omega) fun t1 => ?_
      (conv=>arg 2;whnf);refine wp_append_tok 0 rfl (okE_run [m]) (show (List.length ((l.map runV).take n) + 1) * 24 ≤ _ by rw [List.length_take, List.length_map]; omega) fun t2 => ?_
      (conv=>arg 2;whnf);refine wp_append_tok 0 rfl ok2 (show (List.length ((l.map runV).take n ++ [runV m]) + List.length ((l.map runV).drop n)) * 24 ≤ _ by rw [List.length_append, List.length_take, List.length_drop, List.length_map, List.length_singleton]; omega) fun t3 => ?_
      (conv=>arg 2;whnf);refine w_ret1 rfl (Vle.gotL (hv t3) rfl) (List.nil_sublist _) rfl
end Go.Sv
namespace Go.Sv
open Go Go.Proofs
def cand (s : Sc) (p : Pa) (l : List Kp) (b : List Bd) (x : Kp) (k : Nat) : Option (List Bd) :=
  if (b ≠ [] ∧ x.at_ ≤ (lastBd b).at_) ∨ ntAt p.els k = true then none
  else if preR s p l (b ++ [⟨k, x.at_⟩]) then some (b ++ [⟨k, x.at_⟩]) else none
def stepG (g : List Bd → List (List Bd) → List (List Bd)) (s : Sc) (p : Pa) (l : List Kp) (b : List Bd) (x : Kp) (out : List (List Bd)) (k : Nat) : List (List Bd) :=
  match cand s p l b x k with
  | none => out
  | some c => g c (if k + 1 = p.els.length then putR out c else out)
def rowG (g : List Bd → List (List Bd) → List (List Bd)) (s : Sc) (p : Pa) (l : List Kp) (b : List Bd) (out : List (List Bd)) (x : Kp) : List (List Bd) :=
  (List.range p.els.length).foldl (stepG g s p l b x) out
def grownR (s : Sc) (p : Pa) (l : List Kp) : Nat → List Bd → List (List Bd) → List (List Bd)
  | 0, _, out => out
  | f + 1, b, out => l.foldl (rowG (grownR s p l f) s p l b) out
theorem foldl_len {α β : Type} {h : List β → α → List β} {c : Nat} (hh : ∀ o a, (h o a).length ≤ o.length + c) : ∀ (l : List α) (o : List β), (l.foldl h o).length ≤ o.length + l.length * c
  | [], o => by simp
  | a :: l, o => by
    have h1 := foldl_len hh l (h o a)
    have h2 := hh o a
    rw [List.foldl_cons, List.length_cons, Nat.succ_mul]; omega
theorem foldl_inv {α β : Type} {h : β → α → β} {C : β → Prop} (hh : ∀ o a, C o → C (h o a)) : ∀ (l : List α) (o : β), C o → C (l.foldl h o)
  | [], _, h0 => h0
  | a :: l, o, h0 => foldl_inv hh l (h o a) (hh o a h0)
theorem cand_some {s : Sc} {p : Pa} {l : List Kp} {b : List Bd} {x : Kp} {k : Nat} {c : List Bd} (h : cand s p l b x k = some c) : c = b ++ [⟨k, x.at_⟩] ∧ ntAt p.els k = false ∧ (b = [] ∨ (lastBd b).at_ < x.at_) ∧ preR s p l c = true := by
  unfold cand at h
  split at h
  · cases h
  · rename_i h1
    split at h
    · rename_i h2
      cases h
      refine ⟨rfl, by simpa using fun e => h1 (.inr e), ?_, h2⟩
      by_cases hb : b = []
      · exact .inl hb
      · exact .inr (Int.not_le.1 fun e => h1 (.inl ⟨hb, e⟩))
    · cases h
theorem stepG_len {g : List Bd → List (List Bd) → List (List Bd)} {P : Nat} (hg : ∀ c o, (g c o).length + 1 ≤ o.length + P) {s : Sc} {p : Pa} {l : List Kp} {b : List Bd} {x : Kp} (out : List (List Bd)) (k : Nat) : (stepG g s p l b x out k).length ≤ out.length + P := by
  unfold stepG
  split
  · omega
  · rename_i c _
    have := hg c (if k + 1 = p.els.length then putR out c else out)
    have h2 : (if k + 1 = p.els.length then putR out c else out).length ≤ out.length + 1 := by
      split
      · exact putR_len _ _
      · omega
    omega
theorem rowG_len {g : List Bd → List (List Bd) → List (List Bd)} {P : Nat} (hg : ∀ c o, (g c o).length + 1 ≤ o.length + P) {s : Sc} {p : Pa} {l : List Kp} {b : List Bd} (out : List (List Bd)) (x : Kp) : (rowG g s p l b out x).length ≤ out.length + p.els.length * P := by
  have := foldl_len (h := stepG g s p l b x) (c := P) (stepG_len hg) (List.range p.els.length) out
  rwa [List.length_range] at this
theorem grown_len {s : Sc} {p : Pa} {l : List Kp} (hn : l.length * p.els.length ≤ 35) : ∀ (f : Nat) (b : List Bd) (out : List (List Bd)), (grownR s p l f b out).length + 1 ≤ out.length + 36 ^ f
  | 0, _, out => Nat.le_refl _
  | f + 1, b, out => by
    have h1 := foldl_len (h := rowG (grownR s p l f) s p l b) (c := p.els.length * 36 ^ f) (rowG_len (grown_len hn f)) l out
    have h2 : l.length * (p.els.length * 36 ^ f) ≤ 35 * 36 ^ f := by rw [← Nat.mul_assoc]; exact Nat.mul_le_mul_right _ hn
    have h3 : 1 ≤ 36 ^ f := Nat.pow_pos (n := f) (by decide : 0 < 36)
    rw [grownR, Nat.pow_succ]
    omega
def RowsR (n : Nat) (out : List (List Bd)) : Prop := ∀ y ∈ out, y ≠ [] ∧ y.length ≤ n
theorem RowsR.put {n : Nat} {out : List (List Bd)} (h : RowsR n out) {c : List Bd} (hc : c ≠ [] ∧ c.length ≤ n) : RowsR n (putR out c) := fun y hy => by
  rcases putR_mem hy with rfl | hy
  · exact hc
  · exact h y hy
theorem grown_rows {s : Sc} {p : Pa} {l : List Kp} {n : Nat} : ∀ (f : Nat) (b : List Bd) (out : List (List Bd)), b.length + f ≤ n → RowsR n out → RowsR n (grownR s p l f b out)
  | 0, _, _, _, h => h
  | f + 1, b, out, hb, h => by
    refine foldl_inv (fun o x ho => ?_) l out h
    refine foldl_inv (fun o k ho => ?_) _ o ho
    unfold stepG
    split
    · exact ho
    · rename_i c hc
      obtain ⟨rfl, _⟩ := cand_some hc
      refine grown_rows f _ _ (by rw [List.length_append, List.length_singleton]; omega) ?_
      split
      · exact ho.put ⟨by simp, by rw [List.length_append, List.length_singleton]; omega⟩
      · exact ho
def remE (l : List Kp) (b : List Bd) : Nat := if b = [] then l.length else (l.filter fun x => decide ((lastBd b).at_ < x.at_)).length
theorem filt_lt {α : Type} {q q' : α → Bool} : ∀ {l : List α} {x : α}, x ∈ l → q x = true → q' x = false → (∀ y, q' y = true → q y = true) → (l.filter q').length < (l.filter q).length
  | [], _, hx, _, _, _ => by cases hx
  | y :: l, x, hx, h1, h2, h3 => by
    have hle : (l.filter q').length ≤ (l.filter q).length := by
      clear hx
      induction l with
      | nil => exact Nat.le_refl _
      | cons z l ih =>
        cases hz : q' z with
        | true => simp [hz, h3 z hz, ih]
        | false =>
          cases hz2 : q z with
          | true => simp [hz, hz2]; omega
          | false => simp [hz, hz2, ih]
    rcases List.mem_cons.1 hx with rfl | hx
    · simp [h1, h2]; omega
    · have := filt_lt hx h1 h2 h3
      cases hz : q' y with
      | true => simp [hz, h3 y hz, this]
      | false =>
        cases hz2 : q y with
        | true => simp [hz, hz2]; omega
        | false => simp [hz, hz2, this]
theorem rem_lt {l : List Kp} {b : List Bd} {x : Kp} {k : Nat} (hx : x ∈ l) (h : b = [] ∨ (lastBd b).at_ < x.at_) : remE l (b ++ [⟨k, x.at_⟩]) < remE l b := by
  unfold remE
  rw [if_neg (by simp), lastBd_snoc]
  by_cases hb : b = []
  · rw [if_pos hb]
    have := filt_lt (q := fun _ => true) (q' := fun y : Kp => decide (x.at_ < y.at_)) hx rfl (by simp) (fun _ _ => rfl)
    rwa [List.filter_eq_self.2 (fun _ _ => rfl)] at this
  · rw [if_neg hb]
    have h := h.resolve_left hb
    exact filt_lt hx (by simpa using h) (by simp) (fun y hy => by simp only [decide_eq_true_iff] at hy ⊢; omega)
theorem snoc_bds (b : List Bd) (y : Bd) (t : Nat) : Vle (.sl (some 2) (b.map bdV ++ [bdV y]) (.t t)) (bdsV (b ++ [y])) := bds_app b y t
set_option maxRecDepth 100000 in
set_option maxHeartbeats 4000000 in
theorem rgrown_call (s : Sc) (hs : ScOk s) (p : Pa) (hp : RfOkP p) (l : List Kp) (hl : RfOkL l) (hn : l.length * p.els.length ≤ 35) : ∀ (f : Nat) (b : List Bd) (out : List (List Bd)), remE l b < f → b.length + f ≤ 100 → (∀ y ∈ b, y.elem < 2 ^ 60) → RowsR 200 out → out.length + 36 ^ f ≤ 2 ^ 42 →
    PCall Tryz.prog 29 [scV s, .agg (paC p), kpsV l, bdsV b, runsV out] (runsV (grownR s p l f b out))
  | 0, _, _, h, _, _, _, _ => by omega
  | f + 1, b, out, hrem, hbf, hbe, hrow, hcap => by
    have hpn := hp.n
    have hln := hl.n
    have hP : 1 ≤ 36 ^ f := Nat.pow_pos (n := f) (by decide : 0 < 36)
    rw [Nat.pow_succ] at hcap
    obtain ⟨P, hPe⟩ : ∃ P, P = 36 ^ f := ⟨_, rfl⟩
    have hgl : ∀ c o, (grownR s p l f c o).length + 1 ≤ o.length + P := by rw [hPe]; exact grown_len hn f
    rw [← hPe] at hP hcap
    have hwn : IntKind.i64.wrap (((p.els.map elV).length : Int) - 1) = (p.els.length : Int) - 1 := by rw [List.length_map, w_i64_small (by omega) (by omega)]
    refine scall_of (live := []) (ords := [(7, []), (8, [0, 2, 3, 4, 5, 6, 7, 8, 9, 1, 10, 11]), (9, []), (12, [])]) Tryz.func29 rfl (by kernel_rfl) (by kernel_rfl) (Nat.le_of_ble_eq_true rfl) ?_
    (conv=>arg 2;whnf);refine wp_loop (fun m fr R => ∃ i : Nat, m = l.length - i ∧ i ≤ l.length ∧ R = [] ∧ fr = frL [(2, kpsV l), (3, bdsV b), (4, runsV ((l.take i).foldl (rowG (grownR s p l f) s p l b) out)), (5, .pt (some 1) (scV s) 0), (6, .pt (some 4) (.agg (paC p)) 0), (11, i64V i)])
      l.length _ _ (.cons (.refl _) (.cons (.refl _) (.cons (.refl _) (.cons (.refl _) (.cons (.refl _) (.cons (.refl _) (.nil _))))))) (List.Sublist.refl _) ⟨0, rfl, Nat.zero_le _, rfl, rfl⟩ ?_
    rintro m fr R ⟨i, rfl, hi, rfl, rfl⟩
    (conv=>arg 2;whnf);refine wp_ite (fun h => ?_) (fun h => ?_)
    · have h : i < l.length := by
        have := of_decide_eq_true h
        rw [List.length_map] at this; omega
      obtain ⟨x, hx⟩ : ∃ x, l[i]? = some x := ⟨_, List.getElem?_eq_getElem h⟩
      have hxm := List.mem_of_getElem? hx
      obtain ⟨o1, ho1⟩ : ∃ o1, o1 = (l.take i).foldl (rowG (grownR s p l f) s p l b) out := ⟨_, rfl⟩
      have hnext : (l.take (i + 1)).foldl (rowG (grownR s p l f) s p l b) out = rowG (grownR s p l f) s p l b o1 x := by
        rw [List.take_add_one, hx, List.foldl_append, ← ho1]; rfl
      have hl1 : o1.length ≤ out.length + i * (p.els.length * P) := by
        have := foldl_len (h := rowG (grownR s p l f) s p l b) (c := p.els.length * P) (rowG_len hgl) (l.take i) out
        rw [← ho1, List.length_take, Nat.min_eq_left hi] at this
        exact this
      have hr1 : RowsR 200 o1 := by
        rw [ho1]
        refine foldl_inv (fun o x ho => ?_) _ out hrow
        refine foldl_inv (fun o k ho => ?_) _ o ho
        unfold stepG
        split
        · exact ho
        · rename_i c hc
          obtain ⟨rfl, _⟩ := cand_some hc
          refine grown_rows f _ _ (by rw [List.length_append, List.length_singleton]; omega) ?_
          split
          · exact ho.put ⟨by simp, by rw [List.length_append, List.length_singleton]; omega⟩
          · exact ho
      rw [← ho1]
      (conv=>arg 2;whnf);refine wp_loop (fun m fr R => ∃ k : Nat, m = p.els.length - k ∧ k ≤ p.els.length ∧ R = [] ∧ fr = frL [(2, kpsV l), (3, bdsV b), (4, runsV ((List.range k).foldl (stepG (grownR s p l f) s p l b x) o1)), (5, .pt (some 1) (scV s) 0), (6, .pt (some 4) (.agg (paC p)) 0), (11, i64V i), (12, i64V k)])
        p.els.length _ _ (.cons (.refl _) (.cons (.refl _) (.cons (.refl _) (.cons (.refl _) (.cons (.refl _) (.cons (.refl _) (.cons (.refl _) (.nil _)))))))) (List.Sublist.refl _) ⟨0, rfl, Nat.zero_le _, rfl, rfl⟩ ?_
      rintro m fr R ⟨k, rfl, hk, rfl, rfl⟩
      (conv=>arg 2;whnf);refine wp_ite (fun hq => ?_) (fun hq => ?_)
      · have hq : k < p.els.length := by
          have := of_decide_eq_true hq
          rw [List.length_map] at this; omega
        obtain ⟨o2, ho2⟩ : ∃ o2, o2 = (List.range k).foldl (stepG (grownR s p l f) s p l b x) o1 := ⟨_, rfl⟩
        have hnx : (List.range (k + 1)).foldl (stepG (grownR s p l f) s p l b x) o1 = stepG (grownR s p l f) s p l b x o2 k := by
          rw [List.range_succ, List.foldl_append, ← ho2]; rfl
        have hl2 : o2.length ≤ out.length + 34 * P := by
          have h1 := foldl_len (h := stepG (grownR s p l f) s p l b x) (c := P) (stepG_len hgl) (List.range k) o1
          rw [← ho2, List.length_range] at h1
          have h2 : (i + 1) * p.els.length ≤ l.length * p.els.length := Nat.mul_le_mul_right _ h
          rw [Nat.succ_mul] at h2
          have h3 : (i * p.els.length + k) * P ≤ 34 * P := Nat.mul_le_mul_right _ (by omega)
          rw [Nat.add_mul, Nat.mul_assoc] at h3
          omega
        have hr2 : RowsR 200 o2 := by
          rw [ho2]
          refine foldl_inv (fun o k ho => ?_) _ o1 hr1
          unfold stepG
          split
          · exact ho
          · rename_i c hc
            obtain ⟨rfl, _⟩ := cand_some hc
            refine grown_rows f _ _ (by rw [List.length_append, List.length_singleton]; omega) ?_
            split
            · exact ho.put ⟨by simp, by rw [List.length_append, List.length_singleton]; omega⟩
            · exact ho
        obtain ⟨y, hy, hnt, _⟩ := nt_at p hq
        rw [← ho2]
        clear ho1 ho2 hl1
        have hskip : cand s p l b x k = none → runsV o2 = runsV ((List.range (k + 1)).foldl (stepG (grownR s p l f) s p l b x) o1) := fun e => by rw [hnx, stepG, e]
        refine wp_cutR (frL [(2, kpsV l), (3, bdsV b), (4, runsV o2), (5, .pt (some 1) (scV s) 0), (6, .pt (some 4) (.agg (paC p)) 0), (11, i64V i), (12, i64V k)]) [] (.cons (.refl _) (.cons (.refl _) (.cons (.refl _) (.cons (.refl _) (.cons (.refl _) (.cons (.refl _) (.cons (.refl _) (.nil _)))))))) (List.nil_sublist _) ?_
        apply @wp_joinT _ (¬ ((b ≠ [] ∧ x.at_ ≤ (lastBd b).at_) ∨ ntAt p.els k = true) → _)
        case h1 =>
          intro rest
          by_cases hb0 : b = []
          · have e1 : decide (((b.map bdV).length : Int) > 0) = false := decide_eq_false (by rw [hb0]; decide)
            (conv=>arg 2;whnf);refine wp_if e1 ?_
            (repeat ((conv=>arg 2;whnf);first|refine wp_it rfl ?_|refine wp_if rfl ?_))
            (conv=>arg 2;whnf);refine wp_elem k (elV y) rfl (els_at2 hy) (Vle.refl _) ?_
            (conv=>arg 2;whnf);refine wp_ite (fun h3 => ?_) (fun h3 => ?_)
            · have h3 : ntAt p.els k = true := hnt ▸ h3
              have hc : cand s p l b x k = none := by rw [cand, if_pos (.inr h3)]
              (conv=>arg 2;whnf)
              exact wp_leaf (loop_next (p.els.length - (k + 1)) _ [] (by omega) (.cons (.refl _) (.cons (.refl _) (.cons (Vle.of (runsV o2) rfl (hskip hc)) (.cons (.refl _) (.cons (.refl _) (.cons (.refl _) (.cons (Vle.inc k rfl (by omega)) (.nil _)))))))) (List.Sublist.refl _) ⟨k + 1, rfl, hq, rfl, rfl⟩)
            · have h3 : ntAt p.els k = false := hnt ▸ h3
              have hno : ¬ ((b ≠ [] ∧ x.at_ ≤ (lastBd b).at_) ∨ ntAt p.els k = true) := fun h => h.elim (fun h => h.1 hb0) fun h => by rw [h3] at h; cases h
              (conv=>arg 2;whnf)
              exact wp_cutR (frL [(2, kpsV l), (3, bdsV b), (4, runsV o2), (5, .pt (some 1) (scV s) 0), (6, .pt (some 4) (.agg (paC p)) 0), (11, i64V i), (12, i64V k)]) [] (.cons (.refl _) (.cons (.refl _) (.cons (.refl _) (.cons (.refl _) (.cons (.refl _) (.cons (.refl _) (.cons (.refl _) (.nil _)))))))) (List.nil_sublist _) (rest hno)
          · have e1 : decide (((b.map bdV).length : Int) > 0) = true := decide_eq_true (by rw [List.length_map]; have := List.length_pos_iff.2 hb0; omega)
            have hw : IntKind.i64.wrap (((b.map bdV).length : Int) - 1) = ((b.length - 1 : Nat) : Int) := len_pred hb0 (by omega)
            (conv=>arg 2;whnf);refine wp_it e1 ?_
            (conv=>arg 2;whnf);refine wp_elem i (kpV x) rfl (kps_at hx) (Vle.refl _) ?_
            (conv=>arg 2;whnf);refine wp_elem (b.length - 1) (bdV (lastBd b)) hw (bds_at (last_at hb0)) (Vle.refl _) ?_
            (conv=>arg 2;whnf);refine wp_ite (fun h2 => ?_) (fun h2 => ?_)
            · have h2 : x.at_ ≤ (lastBd b).at_ := of_decide_eq_true h2
              have hc : cand s p l b x k = none := by rw [cand, if_pos (.inl ⟨hb0, h2⟩)]
              (repeat ((conv=>arg 2;whnf);first|refine wp_it rfl ?_|refine wp_if rfl ?_))
              (conv=>arg 2;whnf)
              exact wp_leaf (loop_next (p.els.length - (k + 1)) _ [] (by omega) (.cons (.refl _) (.cons (.refl _) (.cons (Vle.of (runsV o2) rfl (hskip hc)) (.cons (.refl _) (.cons (.refl _) (.cons (.refl _) (.cons (Vle.inc k rfl (by omega)) (.nil _)))))))) (List.Sublist.refl _) ⟨k + 1, rfl, hq, rfl, rfl⟩)
            · have h2 : ¬ x.at_ ≤ (lastBd b).at_ := of_decide_eq_false h2
              (conv=>arg 2;whnf);refine wp_elem k (elV y) rfl (els_at2 hy) (Vle.refl _) ?_
              (conv=>arg 2;whnf);refine wp_ite (fun h3 => ?_) (fun h3 => ?_)
              · have h3 : ntAt p.els k = true := hnt ▸ h3
                have hc : cand s p l b x k = none := by rw [cand, if_pos (.inr h3)]
                (conv=>arg 2;whnf)
                exact wp_leaf (loop_next (p.els.length - (k + 1)) _ [] (by omega) (.cons (.refl _) (.cons (.refl _) (.cons (Vle.of (runsV o2) rfl (hskip hc)) (.cons (.refl _) (.cons (.refl _) (.cons (.refl _) (.cons (Vle.inc k rfl (by omega)) (.nil _)))))))) (List.Sublist.refl _) ⟨k + 1, rfl, hq, rfl, rfl⟩)
              · have h3 : ntAt p.els k = false := hnt ▸ h3
                have hno : ¬ ((b ≠ [] ∧ x.at_ ≤ (lastBd b).at_) ∨ ntAt p.els k = true) := fun h => h.elim (fun h => h2 h.2) fun h => by rw [h3] at h; cases h
                (conv=>arg 2;whnf)
                exact wp_cutR (frL [(2, kpsV l), (3, bdsV b), (4, runsV o2), (5, .pt (some 1) (scV s) 0), (6, .pt (some 4) (.agg (paC p)) 0), (11, i64V i), (12, i64V k)]) [] (.cons (.refl _) (.cons (.refl _) (.cons (.refl _) (.cons (.refl _) (.cons (.refl _) (.cons (.refl _) (.cons (.refl _) (.nil _)))))))) (List.nil_sublist _) (rest hno)
        case rest =>
          intro hno
          obtain ⟨c, hc⟩ : ∃ c, c = b ++ [(⟨k, x.at_⟩ : Bd)] := ⟨_, rfl⟩
          have hcl : c.length = b.length + 1 := by rw [hc, List.length_append, List.length_singleton]
          have hc0 : c ≠ [] := by rw [hc]; simp
          have hce : ∀ y ∈ c, y.elem < 2 ^ 60 := fun y hy => by
            rw [hc] at hy
            rcases List.mem_append.1 hy with hy | hy
            · exact hbe y hy
            · rw [List.mem_singleton.1 hy]; exact Nat.lt_trans hq hpn
          have hcand : cand s p l b x k = if preR s p l c then some c else none := by rw [cand, if_neg hno, hc]
          have fp := rprefix_call s hs p hp l hl c (by omega) hce
          have hvc : ∀ t2, Vle (.sl (some 2) (b.map bdV ++ [bdV ⟨k, x.at_⟩]) (.t t2)) (bdsV c) := fun t2 => by rw [hc]; exact snoc_bds b _ t2
          obtain ⟨r, hr⟩ : ∃ r, r = preR s p l c := ⟨_, rfl⟩
          rw [← hr] at fp hcand
          (conv=>arg 2;whnf);refine wp_elem i (kpV x) rfl (kps_at hx) (Vle.refl _) ?_
          (conv=>arg 2;whnf);refine wp_append_nil (okE_bd b) (show List.length (b.map bdV) * 16 ≤ _ by rw [List.length_map]; omega) fun t1 => ?_
          (conv=>arg 2;whnf);refine wp_append_tok 0 rfl (okE_bd [⟨k, x.at_⟩]) (show (List.length (b.map bdV) + 1) * 16 ≤ _ by rw [List.length_map]; omega) fun t2 => ?_
          (conv=>arg 2;whnf)
          refine wp_cutR (frL [(2, kpsV l), (3, bdsV b), (4, runsV o2), (5, .pt (some 1) (scV s) 0), (6, .pt (some 4) (.agg (paC p)) 0), (11, i64V i), (12, i64V k), (13, bdsV c)]) [] (.cons (.refl _) (.cons (.refl _) (.cons (.refl _) (.cons (.refl _) (.cons (.refl _) (.cons (.refl _) (.cons (.refl _) (.cons (Vle.gotL (hvc t2) rfl) (.nil _))))))))) (List.nil_sublist _) ?_
          (conv=>arg 2;whnf);refine wp_pcall fp ?_
          clear fp
          cases r with
          | false =>
            have hcn : cand s p l b x k = none := hcand
            (repeat ((conv=>arg 2;whnf);first|refine wp_it rfl ?_|refine wp_if rfl ?_))
            (conv=>arg 2;whnf)
            exact wp_leaf (loop_next (p.els.length - (k + 1)) _ [] (by omega) (.cons (.refl _) (.cons (.refl _) (.cons (Vle.of (runsV o2) rfl (hskip hcn)) (.cons (.refl _) (.cons (.refl _) (.cons (.refl _) (.cons (Vle.inc k rfl (by omega)) (.nil _)))))))) (List.Sublist.refl _) ⟨k + 1, rfl, hq, rfl, rfl⟩)
          | true =>
            have hcs : cand s p l b x k = some c := hcand
            have hremc : remE l c < f := by
              have := rem_lt (k := k) hxm (cand_some hcs).2.2.1
              rw [← hc] at this; omega
            by_cases hlast : k + 1 = p.els.length
            · have e3 : ((k : Int) == IntKind.i64.wrap (((p.els.map elV).length : Int) - 1)) = true := by rw [hwn, beq_dec]; exact decide_eq_true (by omega)
              have fput := rput_call o2 c (by omega) (fun y hy => ⟨(hr2 y hy).1, by have := (hr2 y hy).2; omega⟩) hc0 (by omega)
              have hlp := putR_len o2 c
              have hst : stepG (grownR s p l f) s p l b x o2 k = grownR s p l f c (putR o2 c) := by rw [stepG, hcs]; simp only [if_pos hlast]
              have fg := rgrown_call s hs p hp l hl hn f c (putR o2 c) hremc (by omega) hce (hr2.put ⟨hc0, by omega⟩) (by omega)
              rw [← hst, ← hnx] at fg
              (repeat ((conv=>arg 2;whnf);first|refine wp_it rfl ?_|refine wp_if rfl ?_))
              (conv=>arg 2;whnf);refine wp_it e3 ?_
              (conv=>arg 2;whnf);refine wp_pcall fput ?_
              (conv=>arg 2;whnf)
              refine wp_cutR (frL [(2, kpsV l), (3, bdsV b), (4, runsV (putR o2 c)), (5, .pt (some 1) (scV s) 0), (6, .pt (some 4) (.agg (paC p)) 0), (11, i64V i), (12, i64V k), (13, bdsV c)]) [] (.cons (.refl _) (.cons (.refl _) (.cons (.refl _) (.cons (.refl _) (.cons (.refl _) (.cons (.refl _) (.cons (.refl _) (.cons (.refl _) (.nil _))))))))) (List.nil_sublist _) ?_
              (conv=>arg 2;whnf);refine wp_pcall fg ?_
              (conv=>arg 2;whnf)
              exact wp_leaf (loop_next (p.els.length - (k + 1)) _ [] (by omega) (.cons (.refl _) (.cons (.refl _) (.cons (.refl _) (.cons (.refl _) (.cons (.refl _) (.cons (.refl _) (.cons (Vle.inc k rfl (by omega)) (.nil _)))))))) (List.Sublist.refl _) ⟨k + 1, rfl, hq, rfl, rfl⟩)
            · have e3 : ((k : Int) == IntKind.i64.wrap (((p.els.map elV).length : Int) - 1)) = false := by rw [hwn, beq_dec]; exact decide_eq_false (by omega)
              have hst : stepG (grownR s p l f) s p l b x o2 k = grownR s p l f c o2 := by rw [stepG, hcs]; simp only [if_neg hlast]
              have fg := rgrown_call s hs p hp l hl hn f c o2 hremc (by omega) hce hr2 (by omega)
              rw [← hst, ← hnx] at fg
              (repeat ((conv=>arg 2;whnf);first|refine wp_it rfl ?_|refine wp_if rfl ?_))
              (conv=>arg 2;whnf);refine wp_if e3 ?_
              (conv=>arg 2;whnf)
              refine wp_cutR (frL [(2, kpsV l), (3, bdsV b), (4, runsV o2), (5, .pt (some 1) (scV s) 0), (6, .pt (some 4) (.agg (paC p)) 0), (11, i64V i), (12, i64V k), (13, bdsV c)]) [] (.cons (.refl _) (.cons (.refl _) (.cons (.refl _) (.cons (.refl _) (.cons (.refl _) (.cons (.refl _) (.cons (.refl _) (.cons (.refl _) (.nil _))))))))) (List.nil_sublist _) ?_
              (conv=>arg 2;whnf);refine wp_pcall fg ?_
              (conv=>arg 2;whnf)
              exact wp_leaf (loop_next (p.els.length - (k + 1)) _ [] (by omega) (.cons (.refl _) (.cons (.refl _) (.cons (.refl _) (.cons (.refl _) (.cons (.refl _) (.cons (.refl _) (.cons (Vle.inc k rfl (by omega)) (.nil _)))))))) (List.Sublist.refl _) ⟨k + 1, rfl, hq, rfl, rfl⟩)
      · have hq : k = p.els.length := by
          have := of_decide_eq_false hq
          rw [List.length_map] at this; omega
        have hout : runsV ((List.range k).foldl (stepG (grownR s p l f) s p l b x) o1) = runsV ((l.take (i + 1)).foldl (rowG (grownR s p l f) s p l b) out) := by rw [hnext, rowG, hq]
        (conv=>arg 2;whnf)
        refine wp_leaf (loop_exit ?_)
        (conv=>arg 2;whnf)
        exact wp_leaf (loop_next (l.length - (i + 1)) _ [] (by omega) (.cons (.refl _) (.cons (.refl _) (.cons (Vle.gotL (Vle.eq hout) rfl) (.cons (.refl _) (.cons (.refl _) (.cons (Vle.inc i rfl (by omega)) (.nil _))))))) (List.Sublist.refl _) ⟨i + 1, rfl, h, rfl, rfl⟩)
    · have h : i = l.length := by
        have := of_decide_eq_false h
        rw [List.length_map] at this; omega
      have hout : runsV ((l.take i).foldl (rowG (grownR s p l f) s p l b) out) = runsV (grownR s p l (f + 1) b out) := by rw [h, List.take_length]; rfl
      (conv=>arg 2;whnf)
      refine wp_leaf (loop_exit ?_)
      (conv=>arg 2;whnf);refine w_ret1 rfl (Vle.eq hout) (List.nil_sublist _) rfl
def matchesR (s : Sc) (p : Pa) (l : List Kp) : List (List Bd) := grownR s p l (l.length + 1) [] []
set_option maxRecDepth 100000 in
theorem rmatches_call (s : Sc) (hs : ScOk s) (p : Pa) (hp : RfOkP p) (l : List Kp) (hl : RfOkL l) (hn : l.length * p.els.length ≤ 35) (h7 : l.length ≤ 7) : PCall Tryz.prog 13 [scV s, .agg (paC p), kpsV l] (runsV (matchesR s p l)) := by
  have hc : 36 ^ (l.length + 1) ≤ 36 ^ 8 := Nat.pow_le_pow_right (by decide) (by omega)
  have fg := rgrown_call s hs p hp l hl hn (l.length + 1) [] [] (by unfold remE; rw [if_pos rfl]; omega) (by rw [List.length_nil]; omega) (fun y hy => by cases hy) (fun y hy => by cases hy) (by rw [List.length_nil]; have : 36 ^ 8 ≤ 2 ^ 42 := by decide
                                                                                                                                                                                                  omega)
  refine scall_of (live := []) (ords := []) Tryz.func13 rfl (by kernel_rfl) (by kernel_rfl) (Nat.le_of_ble_eq_true rfl) ?_
  (conv=>arg 2;whnf);refine wp_pcallV (.cons (.refl _) (.cons (.refl _) (.cons (.refl _) (.cons (Vle.nil _ _ _) (.cons (Vle.nil _ _ _) .nil))))) fg ?_
  (conv=>arg 2;whnf);refine w_ret1 rfl (Vle.refl _) (List.nil_sublist _) rfl
end Go.Sv
namespace Go.Sv
open Go Go.Proofs
theorem nilS_ne {l : List UInt8} : (!((S l).toList == (⟨#[]⟩ : ByteArray).toList)) = !decide (l = []) := by rw [nilS]
end Go.Sv
namespace Go.Sv
open Go Go.Proofs
def aliasI (l : List El) (a : List UInt8) : Int := if l.any (fun x => decide (x.al = a)) then (l.findIdx (fun x => decide (x.al = a)) : Nat) else -1
theorem aliasI_hit {l : List El} {a : List UInt8} {n : Nat} {e : El} (h : l[n]? = some e) (ha : (l.take n).any (fun x => decide (x.al = a)) = false) (he : e.al = a) : aliasI l a = n := by
  have hi := (List.getElem?_eq_some_iff.1 h).1
  have hany : l.any (fun x => decide (x.al = a)) = true := List.any_eq_true.2 ⟨e, List.mem_of_getElem? h, decide_eq_true he⟩
  rw [aliasI, if_pos hany, (List.findIdx_eq hi).2]
  refine ⟨?_, fun j hj => ?_⟩
  · rw [(List.getElem?_eq_some_iff.1 h).2]; exact decide_eq_true he
  · have hj' : l[j]? = some l[j] := List.getElem?_eq_getElem (by omega)
    have hm : l[j] ∈ l.take n := by
      have : (l.take n)[j]? = some l[j] := by rw [List.getElem?_take, if_pos hj, hj']
      exact List.mem_of_getElem? this
    exact Bool.eq_false_iff.2 (fun h1 => List.any_eq_false.1 ha _ hm h1)
theorem aliasI_miss {l : List El} {a : List UInt8} (ha : l.any (fun x => decide (x.al = a)) = false) : aliasI l a = -1 := by rw [aliasI, ha]; rfl
theorem aliasI_iff {l : List El} {n : Nat} {e : El} (h : l[n]? = some e) : aliasI l e.al = n ↔ twiceB l n e.al = false := by
  have hi := (List.getElem?_eq_some_iff.1 h).1
  constructor
  · intro ha
    have hany : l.any (fun x => decide (x.al = e.al)) = true := List.any_eq_true.2 ⟨e, List.mem_of_getElem? h, decide_eq_true rfl⟩
    rw [aliasI, if_pos hany] at ha
    have ha : l.findIdx (fun x => decide (x.al = e.al)) = n := by omega
    obtain ⟨_, h2⟩ := (List.findIdx_eq hi).1 ha
    rw [twiceB, List.any_eq_false]
    intro y hy
    obtain ⟨j, hj⟩ := List.mem_iff_getElem?.1 hy
    rw [List.getElem?_take] at hj
    split at hj
    · rename_i hjn
      have := h2 j hjn
      have e3 := (List.getElem?_eq_some_iff.1 hj).2
      rw [e3] at this
      rw [this]; exact Bool.noConfusion
    · cases hj
  · intro ht
    exact aliasI_hit h ht rfl
set_option maxRecDepth 100000 in
theorem alias_call (l : List El) (a : List UInt8) (hl : l.length < 2 ^ 60) : PCall Tryz.prog 43 [elsV l, str a] (i64V (aliasI l a)) := by
  refine scall_of (live := []) (ords := []) Tryz.func43 rfl (by kernel_rfl) (by kernel_rfl) (Nat.le_of_ble_eq_true rfl) ?_
  (conv=>arg 2;whnf);refine wp_loop (fun m fr R => ∃ n : Nat, m = l.length - n ∧ n ≤ l.length ∧ R = [] ∧ (l.take n).any (fun x => decide (x.al = a)) = false ∧ fr = frL [(0, elsV l), (1, str a), (5, i64V n)])
    l.length _ _ (.cons (.refl _) (.cons (.refl _) (.cons (.refl _) (.nil _)))) (List.Sublist.refl _) ⟨0, rfl, Nat.zero_le _, rfl, rfl, rfl⟩ ?_
  rintro m fr R ⟨n, rfl, hn, rfl, ha, rfl⟩
  (conv=>arg 2;whnf);refine wp_ite (fun h => ?_) (fun h => ?_)
  · have h : n < l.length := by have := of_decide_eq_true h; rw [List.length_map] at this; omega
    obtain ⟨y, hy⟩ : ∃ y, l[n]? = some y := ⟨_, List.getElem?_eq_getElem h⟩
    (conv=>arg 2;whnf);refine wp_elem n (.agg (elC y)) rfl (els_at hy) (Vle.refl _) ?_
    (conv=>arg 2;whnf);refine wp_ite (fun h1 => ?_) (fun h1 => ?_)
    · have h1 : y.al = a := of_decide_eq_true ((strEq y.al a).symm.trans h1)
      (conv=>arg 2;whnf)
      refine wp_leaf (loop_ret ?_)
      (conv=>arg 2;whnf);refine w_retp rfl (Vle.eq (congrArg i64V (aliasI_hit hy ha h1).symm))
    · have h1 : y.al ≠ a := of_decide_eq_false ((strEq y.al a).symm.trans h1)
      (conv=>arg 2;whnf)
      refine wp_leaf (loop_next (l.length - (n + 1)) _ _ (by omega) (.cons (.refl _) (.cons (.refl _) (.cons (Vle.inc n rfl (by omega)) (.nil _)))) (List.Sublist.refl _) ⟨n + 1, rfl, h, rfl, ?_, rfl⟩)
      rw [List.take_add_one, hy, List.any_append, ha]
      simp [h1]
  · have h : n = l.length := by have := of_decide_eq_false h; rw [List.length_map] at this; omega
    subst h
    rw [List.take_length] at ha
    (conv=>arg 2;whnf)
    refine wp_leaf (loop_exit ?_)
    (conv=>arg 2;whnf);refine w_retp rfl (Vle.eq (congrArg i64V (aliasI_miss ha).symm))
end Go.Sv
