/- Parts of the proof, one behind the other. -/
import Derived.Test.YtonnbjcbjjigiaaGreatDoorMgRowStepTells12
import Derived.Test.YtonnbjcbjjigiaaGreatDoorMgRowStepTells10
namespace Go.Sv
open Go Go.Proofs
def chkEl (s : Sc) (seen : List El) (x : El) : Int :=
  if x.ty.all (fun t => (findT s t).isSome) then
    (if x.cond.op ≠ 0 then (if (kindTop s (seen ++ [x]) x.cond).2 ≠ 0 then (kindTop s (seen ++ [x]) x.cond).2 else if (kindTop s (seen ++ [x]) x.cond).1 ≠ 3 then 14 else 0) else 0)
  else 13
def seenE (l : List El) (i : Nat) : List El := (l.take i).filter fun e => !e.nt
def chkAt (s : Sc) (l : List El) (i : Nat) : Int := chkEl s (seenE l i) (l.getD i el0)
def chkEls (s : Sc) (l : List El) : Int := (((List.range l.length).map (chkAt s l)).find? fun e => decide (e ≠ 0)).getD 0
def by1 (s : Sc) (p : Pa) : Bool := p.els.all fun x => x.ty.all fun t => decide (0 ≤ fieldI ((findT s t).getD ty0) p.by_)
def by2 (s : Sc) (p : Pa) : Bool := (List.range p.els.length).all fun i => decide ((fieldKindE s (elAt p i) p.by_).2 = 0) && (decide (i = 0) || decide ((fieldKindE s (elAt p i) p.by_).1 = (fieldKindE s (elAt p (i - 1)) p.by_).1))
def chkE (s : Sc) (p : Pa) : Int :=
  if isPaB p = false then 10 else if chkEls s p.els ≠ 0 then chkEls s p.els else if p.by_ = [] then 0 else if by1 s p = false then 13 else if by2 s p = false then 14 else 0
theorem chk_hit {s : Sc} {l : List El} {n : Nat} {v : Int} (h : (List.range n).all (fun i => decide (chkAt s l i = 0)) = true) (hn : n < l.length) (hv : chkAt s l n = v) (h0 : v ≠ 0) : chkEls s l = v := by
  unfold chkEls
  have h1 : ((List.range l.length).map (chkAt s l))[n]? = some v := by rw [List.getElem?_map, List.getElem?_range hn]; simp [hv]
  rw [find_hit (n := n) (y := v) ?_ h1 (decide_eq_true h0)]
  · rfl
  · rw [List.any_eq_false]
    intro e he
    rw [← List.map_take, List.mem_map] at he
    obtain ⟨i, hi, rfl⟩ := he
    have hi' : i < n := by
      rw [List.take_range, List.mem_range] at hi; omega
    have := List.all_eq_true.1 h i (List.mem_range.2 hi')
    have := of_decide_eq_true this
    simp [this]
theorem chk_none {s : Sc} {l : List El} (h : (List.range l.length).all (fun i => decide (chkAt s l i = 0)) = true) : chkEls s l = 0 := by
  unfold chkEls
  rw [find_none]
  · rfl
  · rw [List.any_eq_false]
    intro e he
    rw [List.mem_map] at he
    obtain ⟨i, hi, rfl⟩ := he
    have := of_decide_eq_true (List.all_eq_true.1 h i hi)
    simp [this]
theorem okE_el (l : List El) : ∀ y ∈ l.map elV, okE (some 11) y := by
  intro y hy
  obtain ⟨b, _, rfl⟩ := List.mem_map.1 hy
  refine ⟨_, rfl, rfl, fun c hc => ?_⟩
  have : c = str b.al ∨ c = .sl none (b.ty.map str) .no ∨ c = bV b.plus ∨ c = bV b.nt ∨ c = i64V b.cond.op ∨ c = i64V b.cond.val.kind ∨ c = i64V b.cond.val.n ∨ c = str b.cond.val.s ∨ c = str b.cond.al ∨ c = str b.cond.fd ∨ c = exsV b.cond.kids := by
    simpa [elC, exC] using hc
  rcases this with h | h | h | h | h | h | h | h | h | h | h <;> subst h <;> rfl
theorem els_app (xs : List El) (y : El) (t : Nat) : Vle (.sl (some 11) (xs.map elV ++ [elV y]) (.t t)) (elsV (xs ++ [y])) := by
  rw [elsV, List.map_append]; exact Vle.sl _ _ _
theorem seen_next {l : List El} {n : Nat} {x : El} (h : l[n]? = some x) : seenE l (n + 1) = if x.nt then seenE l n else seenE l n ++ [x] := by
  rw [seenE, List.take_add_one, h, List.filter_append]
  cases hx : x.nt <;> simp [hx, seenE]
theorem seen_len (l : List El) (n : Nat) : (seenE l n).length ≤ l.length := Nat.le_trans (List.length_filter_le _ _) (by rw [List.length_take]; omega)
theorem seen_mem {l : List El} {n : Nat} {e : El} (h : e ∈ seenE l n) : e ∈ l := List.mem_of_mem_take (List.mem_filter.1 h).1
theorem findD_call (s : Sc) (hs : s.length < 2 ^ 60) (t : List UInt8) : ∃ ok, PCall Tryz.prog 19 [scV s, str t] (.tup [tyV ((findT s t).getD ty0), bV ok]) := by
  have fa := rfind_call s hs t
  cases h : findT s t with
  | none => rw [h] at fa; exact ⟨false, fa⟩
  | some e => rw [h] at fa; exact ⟨true, fa⟩
set_option maxRecDepth 100000 in
set_option maxHeartbeats 8000000 in
theorem rcheck_call (s : Sc) (hs : ScOk s) (p : Pa) (hp : PaBd p) : PCall Tryz.prog 7 [scV s, .agg (paC p)] (i64V (chkE s p)) := by
  have f0 := refpattern_call p hp
  have hpl : p.els.length < 2 ^ 40 := hp.1
  have htl : ∀ e ∈ p.els, e.ty.length < 2 ^ 60 := fun e he => by have := (hp.2.1 e he).2.1; omega
  refine scall_of (live := []) (ords := [(3, []), (8, []), (14, [0, 2, 3, 1, 4, 5]), (15, []), (21, []), (23, []), (33, []), (35, [])]) Tryz.func7 rfl (by kernel_rfl) (by kernel_rfl) (Nat.le_of_ble_eq_true rfl) ?_
  cases hip : isPaB p with
  | false =>
    rw [hip] at f0
    rw [show chkE s p = 10 by rw [chkE, if_pos hip]]
    (conv=>arg 2;whnf);refine wp_pcall f0 ?_
    (repeat ((conv=>arg 2;whnf);first|refine wp_it rfl ?_|refine wp_if rfl ?_))
    (conv=>arg 2;whnf);refine w_retp rfl (Vle.refl _)
  | true =>
    have h5 : p.els.length ≤ 5 := by
      have hip2 := hip
      rw [isPaB, Bool.and_eq_true, Bool.and_eq_true] at hip2
      exact of_decide_eq_true hip2.2.1
    rw [hip] at f0
    have hr0 : chkE s p = if chkEls s p.els ≠ 0 then chkEls s p.els else if p.by_ = [] then 0 else if by1 s p = false then 13 else if by2 s p = false then 14 else 0 := by rw [chkE, if_neg (by rw [hip]; decide)]
    (conv=>arg 2;whnf);refine wp_pcall f0 ?_
    (repeat ((conv=>arg 2;whnf);first|refine wp_it rfl ?_|refine wp_if rfl ?_))
    refine wp_cutR (frL [(2, .pt (some 1) (scV s) 0), (3, .pt (some 4) (.agg (paC p)) 0)]) [] (.cons (.refl _) (.cons (.refl _) (.nil _))) (List.nil_sublist _) ?_
    (conv=>arg 2;whnf);refine wp_loop (fun m fr R => ∃ n : Nat, m = p.els.length - n ∧ n ≤ p.els.length ∧ R = [] ∧ (List.range n).all (fun i => decide (chkAt s p.els i = 0)) = true ∧ fr = frL [(2, .pt (some 1) (scV s) 0), (3, .pt (some 4) (.agg (paC p)) 0), (5, elsV (seenE p.els n)), (6, i64V n)])
      p.els.length _ _ (.cons (.refl _) (.cons (.refl _) (.cons (Vle.gotL (b := elsV (seenE p.els 0)) (Vle.nil none (some 11) .zero) rfl) (.cons (.refl _) (.nil _))))) (List.Sublist.refl _) ⟨0, rfl, Nat.zero_le _, rfl, rfl, rfl⟩ ?_
    rintro m fr R ⟨n, rfl, hn, rfl, ha, rfl⟩
    (conv=>arg 2;whnf);refine wp_ite (fun h => ?_) (fun h => ?_)
    · have h : n < p.els.length := by
        have := of_decide_eq_true h
        rw [List.length_map] at this; omega
      obtain ⟨x, hx⟩ : ∃ x, p.els[n]? = some x := ⟨_, List.getElem?_eq_getElem h⟩
      have hxm := List.mem_of_getElem? hx
      have hxt := htl x hxm
      have hsl := seen_len p.els n
      have hck : chkAt s p.els n = chkEl s (seenE p.els n) x := by rw [chkAt, getD_at hx]
      have hstop : ∀ v, chkAt s p.els n = v → v ≠ 0 → i64V v = i64V (chkE s p) := fun v e h0 => by
        have := chk_hit ha h e h0
        rw [hr0, if_pos (by rw [this]; exact h0), this]
      have hnext : chkAt s p.els n = 0 → (List.range (n + 1)).all (fun i => decide (chkAt s p.els i = 0)) = true := fun e => rng_next ha (decide_eq_true e)
      have hsn := seen_next hx
      obtain ⟨sn, hsnE⟩ : ∃ sn, sn = seenE p.els n := ⟨_, rfl⟩
      rw [← hsnE] at hck hsn hsl ⊢
      (conv=>arg 2;whnf);refine wp_elem n (elV x) rfl (els_at2 hx) (Vle.refl _) ?_
      (conv=>arg 2;whnf);refine wp_allocE elZ rfl fun q => ?_
      (conv=>arg 2;whnf);refine wp_storeE (cs := elZ) 0 0 (elC x) rfl rfl (VleL.refl _) (Nat.le_refl _) rfl (R' := [.obj q (elC x)]) rfl ?_
      (conv=>arg 2;whnf)
      refine wp_cutP (frL [(2, .pt (some 1) (scV s) 0), (3, .pt (some 4) (.agg (paC p)) 0), (5, elsV sn), (6, i64V n), (7, .pt (some 11) (elV x) 0)]) [] [.obj q (elC x)] (.cons (.refl _) (.cons (.refl _) (.cons (.refl _) (.cons (.refl _) (.cons (.all (List.Mem.head _) rfl (by decide) (VleL.refl _)) (.nil _)))))) ?_
      (conv=>arg 2;whnf);refine wp_loop (fun m fr R => ∃ k : Nat, m = x.ty.length - k ∧ k ≤ x.ty.length ∧ R = [] ∧ (x.ty.take k).all (fun t => (findT s t).isSome) = true ∧ fr = frL [(2, .pt (some 1) (scV s) 0), (3, .pt (some 4) (.agg (paC p)) 0), (5, elsV sn), (6, i64V n), (7, .pt (some 11) (elV x) 0), (8, i64V k)])
        x.ty.length _ _ (.cons (.refl _) (.cons (.refl _) (.cons (.refl _) (.cons (.refl _) (.cons (.refl _) (.cons (.refl _) (.nil _))))))) (List.Sublist.refl _) ⟨0, rfl, Nat.zero_le _, rfl, rfl, rfl⟩ ?_
      rintro m fr R ⟨k, rfl, hk, rfl, hak, rfl⟩
      (conv=>arg 2;whnf);refine wp_ite (fun h1 => ?_) (fun h1 => ?_)
      · have h1 : k < x.ty.length := by
          have := of_decide_eq_true h1
          rw [List.length_map] at this; omega
        obtain ⟨t, ht⟩ : ∃ t, x.ty[k]? = some t := ⟨_, List.getElem?_eq_getElem h1⟩
        have f1 := rfind_call s hs.1 t
        cases hf : findT s t with
        | none =>
          rw [hf] at f1
          have h13 := hstop 13 (by rw [hck, chkEl, show (x.ty.all fun t => (findT s t).isSome) = false from all_miss ht (by rw [hf]; rfl)]; rfl) (by decide)
          (conv=>arg 2;whnf);refine wp_elem k (str t) rfl (strs_at ht) (Vle.refl _) ?_
          (conv=>arg 2;whnf);refine wp_pc f1 ?_
          (conv=>arg 2;whnf);refine wp_allocE tyZ rfl fun d => ?_
          (conv=>arg 2;whnf);refine wp_storeE (cs := tyZ) 0 0 (tyC ty0) rfl rfl (VleL.refl _) (Nat.le_refl _) rfl (R' := [.obj d (tyC ty0)]) rfl ?_
          (repeat ((conv=>arg 2;whnf);first|refine wp_it rfl ?_|refine wp_if rfl ?_))
          (conv=>arg 2;whnf)
          refine wp_leaf (loop_ret (loop_ret ?_))
          (conv=>arg 2;whnf);refine w_retp rfl (Vle.eq h13)
        | some ty =>
          rw [hf] at f1
          have hn' : (x.ty.take (k + 1)).all (fun t => (findT s t).isSome) = true := all_next hak ht (by rw [hf]; rfl)
          (conv=>arg 2;whnf);refine wp_elem k (str t) rfl (strs_at ht) (Vle.refl _) ?_
          (conv=>arg 2;whnf);refine wp_pc f1 ?_
          (conv=>arg 2;whnf);refine wp_allocE tyZ rfl fun d => ?_
          (conv=>arg 2;whnf);refine wp_storeE (cs := tyZ) 0 0 (tyC ty) rfl rfl (VleL.refl _) (Nat.le_refl _) rfl (R' := [.obj d (tyC ty)]) rfl ?_
          (repeat ((conv=>arg 2;whnf);first|refine wp_it rfl ?_|refine wp_if rfl ?_))
          (conv=>arg 2;whnf)
          exact wp_leaf (loop_next (x.ty.length - (k + 1)) _ [] (by omega) (.cons (.refl _) (.cons (.refl _) (.cons (.refl _) (.cons (.refl _) (.cons (.refl _) (.cons (Vle.inc k rfl (by omega)) (.nil _))))))) (List.nil_sublist _) ⟨k + 1, rfl, h1, rfl, hn', rfl⟩)
      · have h1 : k = x.ty.length := by
          have := of_decide_eq_false h1
          rw [List.length_map] at this; omega
        rw [h1, List.take_length] at hak
        have hck : chkAt s p.els n = (if x.cond.op ≠ 0 then (if (kindTop s (sn ++ [x]) x.cond).2 ≠ 0 then (kindTop s (sn ++ [x]) x.cond).2 else if (kindTop s (sn ++ [x]) x.cond).1 ≠ 3 then 14 else 0) else 0) := by rw [hck, chkEl, if_pos hak]
        have fk := rkindtop_call s hs (sn ++ [x]) (by rw [List.length_append, List.length_singleton]; omega) (fun e he => by
          rcases List.mem_append.1 he with he | he
          · rw [hsnE] at he; exact htl e (seen_mem he)
          · rw [List.mem_singleton.1 he]; exact hxt) x.cond (hp.2.1 x hxm).2.2.2
        obtain ⟨a, b, hab⟩ : ∃ a b, kindTop s (sn ++ [x]) x.cond = (a, b) := ⟨_, _, rfl⟩
        rw [hab] at fk hck
        have hlt : p.els.length - (n + 1) < p.els.length - n := by omega
        have hn62 : n < 2 ^ 62 := by omega
        clear hab hak h1 hk
        (conv=>arg 2;whnf)
        refine wp_leaf (loop_exit ?_)
        refine wp_cutR (frL [(2, .pt (some 1) (scV s) 0), (3, .pt (some 4) (.agg (paC p)) 0), (5, elsV sn), (6, i64V n), (7, .pt (some 11) (elV x) 0)]) [] (.cons (.refl _) (.cons (.refl _) (.cons (.refl _) (.cons (.refl _) (.cons (.refl _) (.nil _)))))) (List.nil_sublist _) ?_
        (conv=>arg 2;whnf);refine wp_append_nil (okE_el sn) (show List.length (sn.map elV) * 144 ≤ _ by rw [List.length_map]; omega) fun t1 => ?_
        (conv=>arg 2;whnf);refine wp_append_tok 0 rfl (okE_el [x]) (show (List.length (sn.map elV) + 1) * 144 ≤ _ by rw [List.length_map]; omega) fun t2 => ?_
        (conv=>arg 2;whnf)
        refine wp_cutR (frL [(2, .pt (some 1) (scV s) 0), (3, .pt (some 4) (.agg (paC p)) 0), (5, elsV sn), (6, i64V n), (7, .pt (some 11) (elV x) 0), (11, elsV (sn ++ [x]))]) [] (.cons (.refl _) (.cons (.refl _) (.cons (.refl _) (.cons (.refl _) (.cons (.refl _) (.cons (Vle.gotL (els_app sn x t2) rfl) (.nil _))))))) (List.nil_sublist _) ?_
        apply @wp_joinT _ (chkAt s p.els n = 0 → _)
        case h1 =>
          intro rest
          (conv=>arg 2;whnf);refine wp_ite (fun h2 => ?_) (fun h2 => ?_)
          · have h2 : x.cond.op ≠ 0 := bne_iff_ne.1 h2
            rw [if_pos h2] at hck
            (conv=>arg 2;whnf);refine wp_pcall fk ?_
            (conv=>arg 2;whnf);refine wp_ite (fun h3 => ?_) (fun h3 => ?_)
            · have h3 : b ≠ 0 := bne_iff_ne.1 h3
              have hv := hstop b (hck.trans (if_pos h3)) h3
              (conv=>arg 2;whnf)
              refine wp_leaf (loop_ret ?_)
              (conv=>arg 2;whnf);refine w_retp rfl (Vle.eq hv)
            · have h3 : ¬ b ≠ 0 := fun e => e (bne_eq_false_iff_eq.1 h3)
              (conv=>arg 2;whnf);refine wp_ite (fun h4 => ?_) (fun h4 => ?_)
              · have h4 : a ≠ 3 := bne_iff_ne.1 h4
                have hv := hstop 14 (hck.trans ((if_neg h3).trans (if_pos h4))) (by decide)
                (conv=>arg 2;whnf)
                refine wp_leaf (loop_ret ?_)
                (conv=>arg 2;whnf);refine w_retp rfl (Vle.eq hv)
              · have h4 : ¬ a ≠ 3 := fun e => e (bne_eq_false_iff_eq.1 h4)
                (conv=>arg 2;whnf)
                exact wp_cutR (frL [(2, .pt (some 1) (scV s) 0), (3, .pt (some 4) (.agg (paC p)) 0), (5, elsV sn), (6, i64V n), (7, .pt (some 11) (elV x) 0), (11, elsV (sn ++ [x]))]) [] (.cons (.refl _) (.cons (.refl _) (.cons (.refl _) (.cons (.refl _) (.cons (.refl _) (.cons (.refl _) (.nil _))))))) (List.nil_sublist _) (rest (hck.trans ((if_neg h3).trans (if_neg h4))))
          · have h2 : ¬ x.cond.op ≠ 0 := fun e => e (bne_eq_false_iff_eq.1 h2)
            (conv=>arg 2;whnf)
            exact wp_cutR (frL [(2, .pt (some 1) (scV s) 0), (3, .pt (some 4) (.agg (paC p)) 0), (5, elsV sn), (6, i64V n), (7, .pt (some 11) (elV x) 0), (11, elsV (sn ++ [x]))]) [] (.cons (.refl _) (.cons (.refl _) (.cons (.refl _) (.cons (.refl _) (.cons (.refl _) (.cons (.refl _) (.nil _))))))) (List.nil_sublist _) (rest (hck.trans (if_neg h2)))
        case rest =>
          intro h0
          have hn' := hnext h0
          (conv=>arg 2;whnf);refine wp_ite (fun h5 => ?_) (fun h5 => ?_)
          · have h5 : x.nt = false := by simpa using h5
            rw [h5, if_neg (by decide)] at hsn
            (conv=>arg 2;whnf)
            exact wp_leaf (loop_next (p.els.length - (n + 1)) _ [] hlt (.cons (.refl _) (.cons (.refl _) (.cons (Vle.of (elsV (sn ++ [x])) rfl (congrArg elsV hsn.symm)) (.cons (Vle.inc n rfl hn62) (.nil _))))) (List.nil_sublist _) ⟨n + 1, rfl, h, rfl, hn', rfl⟩)
          · have h5 : x.nt = true := by simpa using h5
            rw [h5, if_pos rfl] at hsn
            (conv=>arg 2;whnf)
            exact wp_leaf (loop_next (p.els.length - (n + 1)) _ [] hlt (.cons (.refl _) (.cons (.refl _) (.cons (Vle.of (elsV sn) rfl (congrArg elsV hsn.symm)) (.cons (Vle.inc n rfl hn62) (.nil _))))) (List.nil_sublist _) ⟨n + 1, rfl, h, rfl, hn', rfl⟩)
    · have h : n = p.els.length := by
        have := of_decide_eq_false h
        rw [List.length_map] at this; omega
      rw [h] at ha
      rw [if_neg (by rw [chk_none ha]; decide)] at hr0
      clear h hn ha
      (conv=>arg 2;whnf)
      refine wp_leaf (loop_exit ?_)
      refine wp_cutR (frL [(2, .pt (some 1) (scV s) 0), (3, .pt (some 4) (.agg (paC p)) 0)]) [] (.cons (.refl _) (.cons (.refl _) (.nil _))) (List.nil_sublist _) ?_
      (conv=>arg 2;whnf);refine wp_ite (fun hby => ?_) (fun hby => ?_)
      · have hby : ((S p.by_).toList == (S []).toList) = true := hby
        rw [strEq] at hby
        rw [if_pos (of_decide_eq_true hby)] at hr0
        (conv=>arg 2;whnf);refine w_retp rfl (Vle.eq (congrArg i64V hr0.symm))
      have hby : ((S p.by_).toList == (S []).toList) = false := hby
      rw [strEq] at hby
      rw [if_neg (of_decide_eq_false hby)] at hr0
      clear hby
      (conv=>arg 2;whnf);refine wp_loop (fun m fr R => ∃ n : Nat, m = p.els.length - n ∧ n ≤ p.els.length ∧ R = [] ∧ (p.els.take n).all (fun x => x.ty.all fun t => decide (0 ≤ fieldI ((findT s t).getD ty0) p.by_)) = true ∧ fr = frL [(2, .pt (some 1) (scV s) 0), (3, .pt (some 4) (.agg (paC p)) 0), (14, i64V 0), (15, i64V n)])
        p.els.length _ _ (.cons (.refl _) (.cons (.refl _) (.cons (.refl _) (.cons (.refl _) (.nil _))))) (List.Sublist.refl _) ⟨0, rfl, Nat.zero_le _, rfl, rfl, rfl⟩ ?_
      rintro m fr R ⟨n, rfl, hn, rfl, ha, rfl⟩
      (conv=>arg 2;whnf);refine wp_ite (fun h => ?_) (fun h => ?_)
      · have h : n < p.els.length := by
          have := of_decide_eq_true h
          rw [List.length_map] at this; omega
        obtain ⟨x, hx⟩ : ∃ x, p.els[n]? = some x := ⟨_, List.getElem?_eq_getElem h⟩
        have hxt := htl x (List.mem_of_getElem? hx)
        have hmiss : (x.ty.all fun t => decide (0 ≤ fieldI ((findT s t).getD ty0) p.by_)) = false → i64V 13 = i64V (chkE s p) := fun e => by
          rw [hr0, if_pos (show by1 s p = false from all_miss hx e)]
        (conv=>arg 2;whnf);refine wp_loop (fun m fr R => ∃ k : Nat, m = x.ty.length - k ∧ k ≤ x.ty.length ∧ R = [] ∧ (x.ty.take k).all (fun t => decide (0 ≤ fieldI ((findT s t).getD ty0) p.by_)) = true ∧ fr = frL [(2, .pt (some 1) (scV s) 0), (3, .pt (some 4) (.agg (paC p)) 0), (14, i64V 0), (15, i64V n), (16, i64V k)])
          x.ty.length _ _ (.cons (.refl _) (.cons (.refl _) (.cons (.refl _) (.cons (.refl _) (.cons (.refl _) (.nil _)))))) (List.Sublist.refl _) ⟨0, rfl, Nat.zero_le _, rfl, rfl, rfl⟩ ?_
        rintro m fr R ⟨k, rfl, hk, rfl, hak, rfl⟩
        (conv=>arg 2;whnf);refine wp_elem n (elV x) rfl (els_at2 hx) (Vle.refl _) ?_
        (conv=>arg 2;whnf);refine wp_ite (fun h1 => ?_) (fun h1 => ?_)
        · have h1 : k < x.ty.length := by
            have := of_decide_eq_true h1
            rw [List.length_map] at this; omega
          obtain ⟨t, ht⟩ : ∃ t, x.ty[k]? = some t := ⟨_, List.getElem?_eq_getElem h1⟩
          obtain ⟨okf, f1⟩ := findD_call s hs.1 t
          have hfl : ((findT s t).getD ty0).flds.length < 2 ^ 60 := by
            cases hf : findT s t with
            | none => exact (by decide)
            | some ty => exact hs.2 ty (findT_mem hf)
          have f2 := rfield_call ((findT s t).getD ty0) hfl p.by_
          obtain ⟨ty, hty⟩ : ∃ ty, ty = (findT s t).getD ty0 := ⟨_, rfl⟩
          rw [← hty] at f1 f2
          (conv=>arg 2;whnf);refine wp_elem n (elV x) rfl (els_at2 hx) (Vle.refl _) ?_
          (conv=>arg 2;whnf);refine wp_elem k (str t) rfl (strs_at ht) (Vle.refl _) ?_
          (conv=>arg 2;whnf);refine wp_pc f1 ?_
          (conv=>arg 2;whnf);refine wp_allocE tyZ rfl fun d => ?_
          (conv=>arg 2;whnf);refine wp_storeE (cs := tyZ) 0 0 (tyC ty) rfl rfl (VleL.refl _) (Nat.le_refl _) rfl (R' := [.obj d (tyC ty)]) rfl ?_
          (conv=>arg 2;whnf)
          refine wp_cutP (frL [(2, .pt (some 1) (scV s) 0), (3, .pt (some 4) (.agg (paC p)) 0), (14, i64V 0), (15, i64V n), (16, i64V k), (17, .pt (some 2) (tyV ty) 0)]) [] [.obj d (tyC ty)] (.cons (.refl _) (.cons (.refl _) (.cons (.refl _) (.cons (.refl _) (.cons (.refl _) (.cons (.all (List.Mem.head _) rfl (by decide) (VleL.refl _)) (.nil _))))))) ?_
          (conv=>arg 2;whnf);refine wp_pcall f2 ?_
          (conv=>arg 2;whnf);refine wp_ite (fun h2 => ?_) (fun h2 => ?_)
          · have h2 : decide (0 ≤ fieldI ((findT s t).getD ty0) p.by_) = false := decide_eq_false (by rw [← hty]; have := of_decide_eq_true h2; omega)
            have hv := hmiss (all_miss ht h2)
            (conv=>arg 2;whnf)
            refine wp_leaf (loop_ret (loop_ret ?_))
            (conv=>arg 2;whnf);refine w_retp rfl (Vle.eq hv)
          · have h2 : decide (0 ≤ fieldI ((findT s t).getD ty0) p.by_) = true := decide_eq_true (by rw [← hty]; have := of_decide_eq_false h2; omega)
            have hn' : (x.ty.take (k + 1)).all (fun t => decide (0 ≤ fieldI ((findT s t).getD ty0) p.by_)) = true := all_next hak ht h2
            (conv=>arg 2;whnf)
            exact wp_leaf (loop_next (x.ty.length - (k + 1)) _ [] (by omega) (.cons (.refl _) (.cons (.refl _) (.cons (.refl _) (.cons (.refl _) (.cons (Vle.inc k rfl (by omega)) (.nil _)))))) (List.nil_sublist _) ⟨k + 1, rfl, h1, rfl, hn', rfl⟩)
        · have h1 : k = x.ty.length := by
            have := of_decide_eq_false h1
            rw [List.length_map] at this; omega
          rw [h1, List.take_length] at hak
          have hn' : (p.els.take (n + 1)).all (fun x => x.ty.all fun t => decide (0 ≤ fieldI ((findT s t).getD ty0) p.by_)) = true := all_next ha hx hak
          (conv=>arg 2;whnf)
          refine wp_leaf (loop_exit ?_)
          (conv=>arg 2;whnf)
          exact wp_leaf (loop_next (p.els.length - (n + 1)) _ [] (by omega) (.cons (.refl _) (.cons (.refl _) (.cons (.refl _) (.cons (Vle.inc n rfl (by omega)) (.nil _))))) (List.nil_sublist _) ⟨n + 1, rfl, h, rfl, hn', rfl⟩)
      · have h : n = p.els.length := by
          have := of_decide_eq_false h
          rw [List.length_map] at this; omega
        rw [h, List.take_length] at ha
        rw [if_neg (by rw [show by1 s p = true from ha]; decide)] at hr0
        clear h hn ha
        (conv=>arg 2;whnf)
        refine wp_leaf (loop_exit ?_)
        refine wp_cutR (frL [(2, .pt (some 1) (scV s) 0), (3, .pt (some 4) (.agg (paC p)) 0), (14, i64V 0)]) [] (.cons (.refl _) (.cons (.refl _) (.cons (.refl _) (.nil _)))) (List.nil_sublist _) ?_
        (conv=>arg 2;whnf);refine wp_loop (fun m fr R => ∃ n : Nat, m = p.els.length - n ∧ n ≤ p.els.length ∧ R = [] ∧ (List.range n).all (fun i => decide ((fieldKindE s (elAt p i) p.by_).2 = 0) && (decide (i = 0) || decide ((fieldKindE s (elAt p i) p.by_).1 = (fieldKindE s (elAt p (i - 1)) p.by_).1))) = true ∧ fr = frL [(2, .pt (some 1) (scV s) 0), (3, .pt (some 4) (.agg (paC p)) 0), (14, i64V (if n = 0 then 0 else (fieldKindE s (elAt p (n - 1)) p.by_).1)), (19, i64V n)])
          p.els.length _ _ (.cons (.refl _) (.cons (.refl _) (.cons (.refl _) (.cons (.refl _) (.nil _))))) (List.Sublist.refl _) ⟨0, rfl, Nat.zero_le _, rfl, rfl, rfl⟩ ?_
        rintro m fr R ⟨n, rfl, hn, rfl, ha, rfl⟩
        (conv=>arg 2;whnf);refine wp_ite (fun h => ?_) (fun h => ?_)
        · have h : n < p.els.length := by
            have := of_decide_eq_true h
            rw [List.length_map] at this; omega
          obtain ⟨x, hx⟩ : ∃ x, p.els[n]? = some x := ⟨_, List.getElem?_eq_getElem h⟩
          have hxe : elAt p n = x := by rw [elAt, getD_at hx]
          have fk := rfieldkind_call s hs x (htl x (List.mem_of_getElem? hx)) p.by_
          obtain ⟨a, b, hab⟩ : ∃ a b, fieldKindE s x p.by_ = (a, b) := ⟨_, _, rfl⟩
          rw [hab] at fk
          obtain ⟨pk, hpk⟩ : ∃ pk, pk = (if n = 0 then 0 else (fieldKindE s (elAt p (n - 1)) p.by_).1) := ⟨_, rfl⟩
          have hq : (decide ((fieldKindE s (elAt p n) p.by_).2 = 0) && (decide (n = 0) || decide ((fieldKindE s (elAt p n) p.by_).1 = (fieldKindE s (elAt p (n - 1)) p.by_).1))) = (decide (b = 0) && (decide (n = 0) || decide (a = pk))) := by
            rw [hxe, hab]
            by_cases hn0 : n = 0
            · simp [hn0]
            · rw [hpk, if_neg hn0]
          have hmiss : (decide (b = 0) && (decide (n = 0) || decide (a = pk))) = false → i64V 14 = i64V (chkE s p) := fun e => by
            rw [hr0, if_pos (show by2 s p = false from rng_miss h (hq.trans e))]
          have hgo : (decide (b = 0) && (decide (n = 0) || decide (a = pk))) = true → _ := fun e => rng_next ha (hq.trans e)
          have hak : a = (if n + 1 = 0 then 0 else (fieldKindE s (elAt p (n + 1 - 1)) p.by_).1) := by rw [if_neg (by omega), Nat.add_sub_cancel, hxe, hab]
          rw [← hpk]
          clear hpk hq hab
          (conv=>arg 2;whnf);refine wp_elem n (elV x) rfl (els_at2 hx) (Vle.refl _) ?_
          (conv=>arg 2;whnf);refine wp_pc fk ?_
          (conv=>arg 2;whnf);refine wp_ite (fun h2 => ?_) (fun h2 => ?_)
          · have h2 : decide (b = 0) = false := decide_eq_false (bne_iff_ne.1 h2)
            have hv := hmiss (by rw [h2]; rfl)
            (repeat ((conv=>arg 2;whnf);first|refine wp_it rfl ?_|refine wp_if rfl ?_))
            (conv=>arg 2;whnf)
            refine wp_leaf (loop_ret ?_)
            (conv=>arg 2;whnf);refine w_retp rfl (Vle.eq hv)
          · have h2 : decide (b = 0) = true := decide_eq_true (bne_eq_false_iff_eq.1 h2)
            rw [h2, Bool.true_and] at hmiss hgo
            (conv=>arg 2;whnf);refine wp_ite (fun h3 => ?_) (fun h3 => ?_)
            · have h3 : decide (n = 0) = false := decide_eq_false (by have := of_decide_eq_true h3; omega)
              rw [h3, Bool.false_or] at hmiss hgo
              (conv=>arg 2;whnf);refine wp_ite (fun h4 => ?_) (fun h4 => ?_)
              · have hv := hmiss (decide_eq_false (bne_iff_ne.1 h4))
                (conv=>arg 2;whnf)
                refine wp_leaf (loop_ret ?_)
                (conv=>arg 2;whnf);refine w_retp rfl (Vle.eq hv)
              · have hn' := hgo (decide_eq_true (bne_eq_false_iff_eq.1 h4))
                (conv=>arg 2;whnf)
                exact wp_leaf (loop_next (p.els.length - (n + 1)) _ [] (by omega) (.cons (.refl _) (.cons (.refl _) (.cons (Vle.of (i64V a) rfl (congrArg i64V hak)) (.cons (Vle.inc n rfl (by omega)) (.nil _))))) (List.nil_sublist _) ⟨n + 1, rfl, h, rfl, hn', rfl⟩)
            · have h3 : decide (n = 0) = true := decide_eq_true (by have := of_decide_eq_false h3; omega)
              rw [h3, Bool.true_or] at hgo
              have hn' := hgo rfl
              (repeat ((conv=>arg 2;whnf);first|refine wp_it rfl ?_|refine wp_if rfl ?_))
              (conv=>arg 2;whnf)
              exact wp_leaf (loop_next (p.els.length - (n + 1)) _ [] (by omega) (.cons (.refl _) (.cons (.refl _) (.cons (Vle.of (i64V a) rfl (congrArg i64V hak)) (.cons (Vle.inc n rfl (by omega)) (.nil _))))) (List.nil_sublist _) ⟨n + 1, rfl, h, rfl, hn', rfl⟩)
        · have h : n = p.els.length := by
            have := of_decide_eq_false h
            rw [List.length_map] at this; omega
          rw [h] at ha
          rw [if_neg (by rw [show by2 s p = true from ha]; decide)] at hr0
          (conv=>arg 2;whnf)
          refine wp_leaf (loop_exit ?_)
          (conv=>arg 2;whnf);refine w_retp rfl (Vle.eq (congrArg i64V hr0.symm))
end Go.Sv
namespace Go.Sv
open Go
theorem chk_pf {s : Sc} {p : Pa} (h : chkE s p = 0) : isPaB p = true ∧ PfOk s p := by
  unfold chkE at h
  split at h
  · cases h
  · rename_i h1
    have hpa : isPaB p = true := by simpa using h1
    split at h
    · rename_i h2; exact absurd h h2
    · rename_i h2
      have hcz : chkEls s p.els = 0 := Classical.byContradiction h2
      have hat : ∀ i, i < p.els.length → chkAt s p.els i = 0 := by
        intro i hi
        refine Classical.byContradiction fun hne => ?_
        have hany : ((List.range p.els.length).map (chkAt s p.els)).any (fun e => decide (e ≠ 0)) = true := List.any_eq_true.2 ⟨_, List.mem_map.2 ⟨i, List.mem_range.2 hi, rfl⟩, decide_eq_true hne⟩
        obtain ⟨y, _, h3, _⟩ := idx_get hany
        unfold chkEls at hcz
        rw [h3] at hcz
        have := List.find?_some h3
        exact of_decide_eq_true this hcz
      have hfound : ∀ k, k < p.els.length → ∀ t ∈ (elAt p k).ty, (findT s t).isSome = true := by
        intro k hk t ht
        have := hat k hk
        rw [chkAt, chkEl] at this
        split at this
        · rename_i h3; exact List.all_eq_true.1 h3 t ht
        · cases this
      have hpa2 := hpa
      rw [isPaB, Bool.and_eq_true, Bool.and_eq_true, Bool.and_eq_true, Bool.and_eq_true, Bool.and_eq_true, Bool.and_eq_true, Bool.and_eq_true] at hpa2
      obtain ⟨g1, g2, g3, g4, g5, g6, g7, g8⟩ := hpa2
      have g1 := of_decide_eq_true g1
      have hok : ∀ i, i < p.els.length → okAtB p.els i (elAt p i) = true := fun i hi => List.all_eq_true.1 g8 i (List.mem_range.2 hi)
      refine ⟨hpa, ⟨by omega, by simpa using g3, by simpa using g4, fun i hi => ?_, fun i j hi hj e => ?_, fun hb k hk t ht => ?_, of_decide_eq_true g5⟩⟩
      · by_cases hlt : i + 1 < p.els.length
        · have := hok (i + 1) hlt
          rw [okAtB, Bool.and_eq_true, Bool.and_eq_true] at this
          obtain ⟨e, he, hnt, hee⟩ := nt_at p hlt
          have h3 := this.2.2
          rw [hee, hnt, hi, decide_eq_true (by omega), Nat.add_sub_cancel] at h3
          simpa using h3
        · rw [ntAt, List.getD_eq_getElem?_getD, List.getElem?_eq_none (by rw [List.length_map]; omega)] at hi
          cases hi
      · refine Classical.byContradiction fun hne => ?_
        have key : ∀ a b, a < b → b < p.els.length → (elAt p a).al = (elAt p b).al → False := fun a b hab hb e => by
          have := hok b hb
          rw [okAtB, Bool.and_eq_true, Bool.and_eq_true] at this
          have h3 := this.2.1
          rw [Bool.not_eq_true', twiceB, List.any_eq_false] at h3
          obtain ⟨ea, hea, _, hea2⟩ := nt_at p (n := a) (by omega)
          have hm : ea ∈ p.els.take b := List.mem_of_getElem? (i := a) (by rw [List.getElem?_take, if_pos hab]; exact hea)
          refine h3 ea hm (decide_eq_true ?_)
          rw [← hea2]; exact e
        rcases Nat.lt_or_gt_of_ne hne with h | h
        · exact key i j h hj e
        · exact key j i h hi e.symm
      · split at h
        · rename_i h3; exact absurd h3 hb
        · split at h
          · cases h
          · rename_i h3
            have h3 : by1 s p = true := by simpa using h3
            obtain ⟨e, he, _, hee⟩ := nt_at p hk
            have h4 := List.all_eq_true.1 h3 e (List.mem_of_getElem? he)
            have h5 := List.all_eq_true.1 h4 t (by rw [← hee]; exact ht)
            obtain ⟨ty, hty⟩ := Option.isSome_iff_exists.1 (hfound k hk t ht)
            rw [hty] at h5
            exact ⟨ty, hty, of_decide_eq_true h5⟩
structure Evx (l l' : List Kp) (t : Int) : Prop where
  ex : ∃ z, l' = l ++ z ∧ ∀ k ∈ z, t < k.at_
theorem ext_at {l l' : List Kp} {t i : Int} (h : Evx l l' t) (hi : i ≤ t) : atE l' i = atE l i := by
  obtain ⟨z, rfl, hz⟩ := h.ex
  unfold atE
  rw [List.find?_append]
  have : z.find? (fun k => decide (k.at_ = i)) = none := by
    rw [List.find?_eq_none]
    intro k hk e
    have := hz k hk
    have := of_decide_eq_true e
    omega
  rw [this]
  cases l.find? (fun k => decide (k.at_ = i)) <;> rfl
theorem ext_betw {l l' : List Kp} {t i j : Int} (h : Evx l l' t) (hj : j ≤ t + 1) : betw l' i j = betw l i j := by
  obtain ⟨z, rfl, hz⟩ := h.ex
  unfold betw
  rw [List.filter_append]
  have : z.filter (fun k => decide (i < k.at_) && decide (k.at_ < j)) = [] := by
    rw [List.filter_eq_nil_iff]
    intro k hk e
    rw [Bool.and_eq_true] at e
    have := hz k hk
    have := of_decide_eq_true e.2
    omega
  rw [this, List.append_nil]
theorem ext_bound {p : Pa} {l l' : List Kp} {t : Int} (h : Evx l l' t) {b : List Bd} (hb : ∀ y ∈ b, y.at_ ≤ t) (k : Nat) : boundE p l' b k = boundE p l b k := by
  unfold boundE
  induction b with
  | nil => rfl
  | cons y b ih =>
    rw [List.filterMap_cons, List.filterMap_cons, ext_at h (hb y (by simp)), ih fun z hz => hb z (by simp [hz])]
theorem ext_takes {s : Sc} {p : Pa} {l l' : List Kp} {t : Int} (h : Evx l l' t) {b : List Bd} (hb : ∀ y ∈ b, y.at_ ≤ t) (k : Nat) (e : Ev) : takesE s p l' b k e = takesE s p l b k e := by
  unfold takesE; rw [ext_bound h hb]
theorem ext_first {l l' : List Kp} {t : Int} (h : Evx l l' t) {b : List Bd} (h0 : b ≠ []) (hb : ∀ y ∈ b, y.at_ ≤ t) : firstEv l' b = firstEv l b := by
  cases b with
  | nil => exact absurd rfl h0
  | cons y b => unfold firstEv; rw [ext_at h (hb _ (by simp))]
theorem ext_goes {s : Sc} {p : Pa} {l l' : List Kp} {t : Int} (h : Evx l l' t) {b : List Bd} (hb : ∀ y ∈ b, y.at_ ≤ t) {x : Bd} (hx : x.at_ ≤ t) : goesE s p l' b x = goesE s p l b x := by
  unfold goesE
  rw [ext_at h hx]
  cases atE l x.at_ with
  | none => rfl
  | some e =>
    simp only
    by_cases h0 : b = []
    · subst h0
      rw [ext_takes h (fun y hy => by cases hy)]; rfl
    · rw [if_neg h0, if_neg h0, ext_first h h0 hb, ext_takes h hb]
      have : guardE s p l' b x = guardE s p l b x := by
        unfold guardE
        rw [ext_betw h (by omega), ext_first h h0 hb]
        simp only [ext_takes h hb]
      rw [this]
def SkipE (s : Sc) (p : Pa) (l : List Kp) (b : List Bd) (t : Int) : Prop :=
  ∃ y ∈ l, (lastBd b).at_ < y.at_ ∧ y.at_ < t ∧ ∃ k ∈ elemsE p (lastBd b).elem, goesE s p l b ⟨k, y.at_⟩ = true
theorem rise_at {l : List Kp} (h : RiseK l) {x : Kp} (hx : x ∈ l) : atE l x.at_ = some x.e := by
  obtain ⟨n, hn⟩ := List.mem_iff_getElem?.1 hx
  exact at_hit h hn
theorem goes_elem {s : Sc} {p : Pa} (hp : PfOk s p) {l : List Kp} {b : List Bd} (hb : Pre0 s p l b) {x : Bd} (h : goesE s p l b x = true) : x.elem < p.els.length ∧ ntAt p.els x.elem = false := by
  have h1 := bound0 hp (b ++ [x]) (.inr (pre0_snoc.2 ⟨hb, h⟩))
  have h2 := h1.nt (by simp)
  have h3 := h1.len
  rw [lastBd_snoc] at h2 h3
  exact ⟨h3, h2⟩
theorem fit_snoc {s : Sc} {p : Pa} {l : List Kp} {b : List Bd} {x : Bd} {i : Nat} (h : i < b.length) : fitR s p l (b ++ [x]) i = fitR s p l b i ∧ skipR s p l (b ++ [x]) i = skipR s p l b i := by
  have h1 : (b ++ [x]).getD i bd0 = b.getD i bd0 := by rw [List.getD_eq_getElem?_getD, List.getD_eq_getElem?_getD, List.getElem?_append_left h]
  have h2 : (b ++ [x]).getD (i - 1) bd0 = b.getD (i - 1) bd0 := by rw [List.getD_eq_getElem?_getD, List.getD_eq_getElem?_getD, List.getElem?_append_left (by omega)]
  have h3 : (b ++ [x]).take i = b.take i := List.take_append_of_le_length (by omega)
  refine ⟨by unfold fitR; rw [h1, h3], ?_⟩
  unfold skipR skip1
  rw [h1, h2, h3]
theorem preR_snoc0 {s : Sc} {p : Pa} {l : List Kp} {b : List Bd} {x : Bd} : preR s p l (b ++ [x]) = true ↔ (b = [] ∨ preR s p l b = true) ∧ fitR s p l (b ++ [x]) b.length = true ∧ (b = [] ∨ p.any = true ∨ skipR s p l (b ++ [x]) b.length = false) := by
  unfold preR
  rw [List.length_append, List.length_singleton, List.range_succ, List.all_append]
  have e : ((List.range b.length).all fun i => fitR s p l (b ++ [x]) i && (decide (i = 0) || p.any || !skipR s p l (b ++ [x]) i)) = (List.range b.length).all fun i => fitR s p l b i && (decide (i = 0) || p.any || !skipR s p l b i) := by
    rw [Bool.eq_iff_iff, List.all_eq_true, List.all_eq_true]
    constructor
    · intro h i hi
      have := h i hi
      obtain ⟨e1, e2⟩ := fit_snoc (s := s) (p := p) (l := l) (x := x) (List.mem_range.1 hi)
      rwa [e1, e2] at this
    · intro h i hi
      obtain ⟨e1, e2⟩ := fit_snoc (s := s) (p := p) (l := l) (x := x) (List.mem_range.1 hi)
      rw [e1, e2]; exact h i hi
  rw [e]
  have e2 : ([b.length].all fun i => fitR s p l (b ++ [x]) i && (decide (i = 0) || p.any || !skipR s p l (b ++ [x]) i)) = (fitR s p l (b ++ [x]) b.length && (decide (b.length = 0) || p.any || !skipR s p l (b ++ [x]) b.length)) := by simp
  rw [e2]
  have e3 : decide (b ++ [x] ≠ []) = true := decide_eq_true (by simp)
  rw [e3]
  clear e e2 e3
  simp only [Bool.true_and, Bool.and_eq_true, Bool.or_eq_true, decide_eq_true_iff, Bool.not_eq_true', List.length_eq_zero_iff]
  constructor
  · rintro ⟨h2, h3, h4⟩
    refine ⟨?_, h3, ?_⟩
    · by_cases hb : b = []
      · exact .inl hb
      · exact .inr ⟨hb, h2⟩
    · rcases h4 with (h4 | h4) | h4
      · exact .inl h4
      · exact .inr (.inl h4)
      · exact .inr (.inr h4)
  · rintro ⟨h1, h3, h4⟩
    refine ⟨?_, h3, ?_⟩
    · rcases h1 with rfl | h1
      · rfl
      · exact h1.2
    · rcases h4 with h4 | h4 | h4
      · exact .inl (.inl h4)
      · exact .inl (.inr h4)
      · exact .inr h4
theorem preR_snoc {s : Sc} {p : Pa} (hp : PfOk s p) {l : List Kp} (hl : EvsOk s l) (hr : RiseK l) {b : List Bd} (hb : b = [] ∨ prefE s p l b = true) {x : Bd} : preR s p l (b ++ [x]) = true ↔ (b = [] ∨ preR s p l b = true) ∧ goesE s p l b x = true ∧ (b = [] ∨ p.any = true ∨ ¬ SkipE s p l b x.at_) := by
  rw [preR_snoc0]
  refine and_congr Iff.rfl ?_
  have gx : (b ++ [x]).getD b.length bd0 = x := by simp [List.getD_eq_getElem?_getD]
  have gt : (b ++ [x]).take b.length = b := by simp
  have hfit : fitR s p l (b ++ [x]) b.length = true ↔ goesE s p l b x = true := by
    unfold fitR
    rw [gx, gt]
    constructor
    · intro h
      cases he : atE l x.at_ with
      | none => rw [he] at h; cases h
      | some e =>
        rw [he] at h
        rw [Bool.and_eq_true, Bool.and_eq_true, decide_eq_true_iff] at h
        obtain ⟨k, hk, hke, hka⟩ := at_mem he
        have : (⟨x.at_, e⟩ : Kp) = k := by cases k; simp at hke hka; simp [hke, hka]
        have h3 := h.2.2
        rw [goes_same hp hl hb h.1 (x := ⟨x.at_, e⟩) (by rw [this]; exact hk) he] at h3
        exact h3
    · intro h
      obtain ⟨e, he, hlen, _⟩ := goesE_some h
      obtain ⟨k, hk, hke, hka⟩ := at_mem he
      have : (⟨x.at_, e⟩ : Kp) = k := by cases k; simp at hke hka; simp [hke, hka]
      rw [he]
      simp only
      rw [Bool.and_eq_true, Bool.and_eq_true, decide_eq_true_iff, goes_same hp hl hb hlen (x := ⟨x.at_, e⟩) (by rw [this]; exact hk) he]
      exact ⟨hlen, by rw [(goes_elem hp hb h).2]; rfl, h⟩
  rw [hfit]
  refine and_congr Iff.rfl ?_
  by_cases h0 : b = []
  · simp [h0]
  · refine or_congr Iff.rfl (or_congr Iff.rfl ?_)
    have hlb := List.length_pos_iff.2 h0
    have gz : (b ++ [x]).getD (b.length - 1) bd0 = lastBd b := by
      rw [List.getD_eq_getElem?_getD, List.getElem?_append_left (by omega), last_at h0]; rfl
    have hb0 := bound0 hp b hb
    rw [← Bool.not_eq_true]
    refine not_congr ?_
    unfold skipR
    rw [List.any_eq_true]
    refine exists_congr fun y => ?_
    constructor
    · rintro ⟨hy, h⟩
      unfold skip1 at h
      rw [gz, gx, gt, Bool.and_eq_true, Bool.and_eq_true, Bool.or_eq_true, decide_eq_true_iff, decide_eq_true_iff] at h
      refine ⟨hy, h.1.1, h.1.2, ?_⟩
      rcases h.2 with h2 | h2
      · rw [goes_same hp hl hb hb0.len hy (rise_at hr hy)] at h2
        exact ⟨_, by simp [elemsE], h2⟩
      · unfold goesI at h2
        split at h2
        · cases h2
        · rename_i hn
          cases hne : nextE p (lastBd b).elem with
          | none => rw [nextI, hne] at hn; exact absurd (by decide : (-1 : Int) < 0) hn
          | some n =>
            have e : nextI p (lastBd b).elem = n := by rw [nextI, hne]
            rw [e, Int.toNat_natCast, goes_same hp hl hb (nextE_some hne).2.1 hy (rise_at hr hy)] at h2
            exact ⟨n, by simp [elemsE, hne], h2⟩
    · rintro ⟨hy, h1, h2, k, hk, h3⟩
      refine ⟨hy, ?_⟩
      unfold skip1
      rw [gz, gx, gt, Bool.and_eq_true, Bool.and_eq_true, Bool.or_eq_true, decide_eq_true_iff, decide_eq_true_iff]
      refine ⟨⟨h1, h2⟩, ?_⟩
      rw [elemsE, List.mem_cons] at hk
      rcases hk with rfl | hk
      · left
        rw [goes_same hp hl hb hb0.len hy (rise_at hr hy)]; exact h3
      · right
        have hne : nextE p (lastBd b).elem = some k := by
          cases h : nextE p (lastBd b).elem with
          | none => rw [h] at hk; cases hk
          | some n => rw [h] at hk; simp at hk; rw [hk]
        unfold goesI
        have e : nextI p (lastBd b).elem = k := by rw [nextI, hne]
        rw [e, if_neg (by omega), Int.toNat_natCast, goes_same hp hl hb (nextE_some hne).2.1 hy (rise_at hr hy)]
        exact h3
theorem preR_pref {s : Sc} {p : Pa} (hp : PfOk s p) {l : List Kp} (hl : EvsOk s l) (hr : RiseK l) (b : List Bd) : preR s p l b = true → prefE s p l b = true := by
  induction b using snoc_ind with
  | h0 => intro h; cases h
  | h1 b x ih =>
    intro h
    have hb : b = [] ∨ prefE s p l b = true := (preR_snoc0.1 h).1.imp id ih
    have := (preR_snoc hp hl hr hb).1 h
    exact pre0_snoc.2 ⟨hb, this.2.1⟩
theorem pre_ats {s : Sc} {p : Pa} (hp : PfOk s p) {l : List Kp} (hl : EvsOk s l) (hr : RiseK l) {b : List Bd} (h : preR s p l b = true) : Bound0 s p l b ∧ b ≠ [] := ⟨bound0 hp b (.inr (preR_pref hp hl hr b h)), fun e => by rw [e] at h; cases h⟩
theorem Evx.sub {l l' : List Kp} {t : Int} (h : Evx l l' t) {y : Kp} (hy : y ∈ l) : y ∈ l' := by
  obtain ⟨z, rfl, _⟩ := h.ex; exact List.mem_append_left _ hy
theorem Evx.back {l l' : List Kp} {t : Int} (h : Evx l l' t) {y : Kp} (hy : y ∈ l') (ht : y.at_ ≤ t) : y ∈ l := by
  obtain ⟨z, rfl, hz⟩ := h.ex
  rcases List.mem_append.1 hy with h | h
  · exact h
  · have := hz y h; omega
theorem ext_skip {s : Sc} {p : Pa} {l l' : List Kp} {t u : Int} (h : Evx l l' t) {b : List Bd} (hb : ∀ y ∈ b, y.at_ ≤ t) (hu : u ≤ t + 1) : SkipE s p l' b u ↔ SkipE s p l b u := by
  constructor
  · rintro ⟨y, hy, h1, h2, k, hk, h3⟩
    refine ⟨y, h.back hy (by omega), h1, h2, k, hk, ?_⟩
    rw [ext_goes h hb (show (⟨k, y.at_⟩ : Bd).at_ ≤ t by show y.at_ ≤ t; omega)] at h3; exact h3
  · rintro ⟨y, hy, h1, h2, k, hk, h3⟩
    refine ⟨y, h.sub hy, h1, h2, k, hk, ?_⟩
    rw [ext_goes h hb (show (⟨k, y.at_⟩ : Bd).at_ ≤ t by show y.at_ ≤ t; omega)]; exact h3
theorem ext_pre {s : Sc} {p : Pa} (hp : PfOk s p) {l l' : List Kp} {t : Int} (h : Evx l l' t) (hl : EvsOk s l') (hr : RiseK l') (b : List Bd) (hb : ∀ y ∈ b, y.at_ ≤ t) : preR s p l' b = true ↔ preR s p l b = true := by
  have hl0 : EvsOk s l := fun k hk => hl k (h.sub hk)
  have hr0 : RiseK l := by obtain ⟨z, rfl, _⟩ := h.ex; exact (List.pairwise_append.1 hr).1
  induction b using snoc_ind with
  | h0 => exact Iff.rfl
  | h1 b x ih =>
    have ih : preR s p l' b = true ↔ preR s p l b = true := ih fun y hy => hb y (List.mem_append_left _ hy)
    have hbb : ∀ y ∈ b, y.at_ ≤ t := fun y hy => hb y (List.mem_append_left _ hy)
    have hx : x.at_ ≤ t := hb x (by simp)
    by_cases hpre : b = [] ∨ preR s p l b = true
    · have hb1 : b = [] ∨ prefE s p l b = true := hpre.imp id (preR_pref hp hl0 hr0 b)
      have hb2 : b = [] ∨ prefE s p l' b = true := hpre.imp id fun h => preR_pref hp hl hr b (ih.2 h)
      rw [preR_snoc hp hl hr hb2, preR_snoc hp hl0 hr0 hb1, ih, ext_goes h hbb hx, ext_skip h hbb (by omega)]
    · constructor
      · intro h1
        exact absurd ((preR_snoc0.1 h1).1.imp id ih.1) hpre
      · intro h1
        exact absurd (preR_snoc0.1 h1).1 hpre
end Go.Sv
namespace Go.Sv
open Go
structure KOk (s : Sc) (p : Pa) (k : List Kp) : Prop where
  pf : PfOk s p
  ev : EvsOk s k
  rise : RiseK k
  mono : k.Pairwise fun a b => a.e.ts ≤ b.e.ts
theorem KOk.pre {s : Sc} {p : Pa} {k : List Kp} (h : KOk s p k) (n : Nat) : KOk s p (k.take n) :=
  ⟨h.pf, fun x hx => h.ev x (List.mem_of_mem_take hx), h.rise.sublist (List.take_sublist _ _), h.mono.sublist (List.take_sublist _ _)⟩
theorem KOk.init {s : Sc} {p : Pa} {l : List Kp} {x : Kp} (h : KOk s p (l ++ [x])) : KOk s p l :=
  ⟨h.pf, fun y hy => h.ev y (List.mem_append_left _ hy), (List.pairwise_append.1 h.rise).1, (List.pairwise_append.1 h.mono).1⟩
def LiveE (s : Sc) (p : Pa) (l : List Kp) (b : List Bd) : Prop :=
  preR s p l b = true ∧ goesOn p b = true ∧ (p.any = true ∨ ∀ t, ¬ SkipE s p l b t) ∧ (lastKp l).e.ts - (firstEv l b).ts ≤ p.within
def InvE (s : Sc) (p : Pa) (l : List Kp) (r : List (List Bd)) : Prop := StrictR r ∧ ∀ b, b ∈ r ↔ LiveE s p l b
theorem lastKp_snoc (l : List Kp) (x : Kp) : lastKp (l ++ [x]) = x := by unfold lastKp; simp
theorem with_iff {s : Sc} {p : Pa} {l : List Kp} {x : Kp} {c b : List Bd} {k : Nat} : withE s p (l ++ [x]) c k = some b ↔ b = c ++ [⟨k, x.at_⟩] ∧ prefE s p (l ++ [x]) b = true := by
  have hg : grown (l ++ [x]) c k = c ++ [⟨k, x.at_⟩] := by rw [grown, lastKp_snoc]
  have hp : prefE s (anyP p) (l ++ [x]) (c ++ [⟨k, x.at_⟩]) = prefE s p (l ++ [x]) (c ++ [⟨k, x.at_⟩]) := rfl
  rw [withE, if_neg (by simp), hg, hp]
  constructor
  · intro h
    split at h
    · rename_i h1; cases h; exact ⟨rfl, h1⟩
    · cases h
  · rintro ⟨rfl, h⟩; rw [if_pos h]
theorem goes_on {s : Sc} {p : Pa} {l : List Kp} {c : List Bd} {k : Nat} {t : Int} (h0 : c ≠ []) (h : goesE s p l c ⟨k, t⟩ = true) : goesOn p c = true ∧ k ∈ elemsE p (lastBd c).elem := by
  obtain ⟨e, he, hlen, h1⟩ := goesE_some h
  rcases h1 with ⟨h1, _⟩ | ⟨_, _, h2, _⟩
  · exact absurd h1 h0
  · rcases h2 with h2 | h2
    · unfold sameE at h2
      rw [Bool.and_eq_true, decide_eq_true_iff] at h2
      refine ⟨?_, by rw [elemsE, ← h2.1]; simp⟩
      unfold goesOn
      cases hd : doneE p c with
      | false => rfl
      | true =>
        rw [doneE, Bool.and_eq_true, decide_eq_true_iff, decide_eq_true_iff] at hd
        have : lastPlus p = true := by rw [lastPlus, ← hd.2, Nat.add_sub_cancel]; exact h2.2
        rw [this]; rfl
    · have hn := nextI_nat h2
      have := nextE_some hn
      refine ⟨?_, by rw [elemsE, hn]; simp⟩
      unfold goesOn
      have : doneE p c = false := by
        rw [doneE, Bool.and_eq_false_iff]
        right
        exact decide_eq_false (by omega)
      rw [this]; rfl
theorem split_last {α : Type} {b : List α} (h : b ≠ []) : ∃ c y, b = c ++ [y] := by
  induction b using snoc_ind with
  | h0 => exact absurd rfl h
  | h1 c y _ => exact ⟨c, y, rfl⟩
section
variable {s : Sc} {p : Pa} {l : List Kp} {x : Kp}
theorem lt_x (h : KOk s p (l ++ [x])) {k : Kp} (hk : k ∈ l) : k.at_ < x.at_ := (List.pairwise_append.1 h.rise).2.2 k hk x (by simp)
theorem ts_x (h : KOk s p (l ++ [x])) {k : Kp} (hk : k ∈ l) : k.e.ts ≤ x.e.ts := (List.pairwise_append.1 h.mono).2.2 k hk x (by simp)
theorem evx_x (h : KOk s p (l ++ [x])) : Evx l (l ++ [x]) (x.at_ - 1) := ⟨[x], rfl, fun k hk => by rw [List.mem_singleton.1 hk]; omega⟩
theorem ats_x (h : KOk s p (l ++ [x])) {i : Int} (hi : (atE (l ++ [x]) i).isSome = true) : i ≤ x.at_ := by
  obtain ⟨e, he⟩ := Option.isSome_iff_exists.1 hi
  obtain ⟨k, hk, _, rfl⟩ := at_mem he
  rcases List.mem_append.1 hk with hk | hk
  · have := lt_x h hk; omega
  · rw [List.mem_singleton.1 hk]; exact Int.le_refl _
theorem ats_l (h : KOk s p (l ++ [x])) {i : Int} (hi : (atE l i).isSome = true) : i ≤ x.at_ - 1 := by
  obtain ⟨e, he⟩ := Option.isSome_iff_exists.1 hi
  obtain ⟨k, hk, _, rfl⟩ := at_mem he
  have := lt_x h hk; omega
theorem pre_l (h : KOk s p (l ++ [x])) {b : List Bd} (hb : preR s p l b = true) : (∀ y ∈ b, y.at_ ≤ x.at_ - 1) ∧ preR s p (l ++ [x]) b = true := by
  obtain ⟨h1, _⟩ := pre_ats h.pf h.init.ev h.init.rise hb
  have h2 : ∀ y ∈ b, y.at_ ≤ x.at_ - 1 := fun y hy => ats_l h (h1.at_ y hy)
  exact ⟨h2, (ext_pre h.pf (evx_x h) h.ev h.rise b h2).2 hb⟩
theorem pre_back (h : KOk s p (l ++ [x])) {b : List Bd} (hb : preR s p (l ++ [x]) b = true) (hlt : (lastBd b).at_ < x.at_) : (∀ y ∈ b, y.at_ ≤ x.at_ - 1) ∧ preR s p l b = true := by
  obtain ⟨h1, _⟩ := pre_ats h.pf h.ev h.rise hb
  have h2 : ∀ y ∈ b, y.at_ ≤ x.at_ - 1 := fun y hy => by have := (h1.el y hy).2; omega
  exact ⟨h2, (ext_pre h.pf (evx_x h) h.ev h.rise b h2).1 hb⟩
theorem late_x (h : KOk s p (l ++ [x])) {b : List Bd} (hb : preR s p (l ++ [x]) b = true) : lateE p (l ++ [x]) b = decide (x.e.ts - (firstEv (l ++ [x]) b).ts > p.within) := by
  obtain ⟨h1, h0⟩ := pre_ats h.pf h.ev h.rise hb
  have := (first_ok h.ev h0 h1).2
  unfold lateE
  rw [if_neg (by simp [h0]), this, lastKp_snoc]
theorem l_ne {b : List Bd} (h : preR s p l b = true) (hk : KOk s p l) : l ≠ [] := fun e => by
  obtain ⟨h1, h0⟩ := pre_ats hk.pf hk.ev hk.rise h
  obtain ⟨y, hy⟩ := List.exists_mem_of_ne_nil b h0
  have := h1.at_ y hy
  rw [e] at this; cases this
theorem made_iff (h : KOk s p (l ++ [x])) {r : List (List Bd)} (hI : ∀ b, b ∈ r ↔ LiveE s p l b) (b : List Bd) : b ∈ madeE s p (l ++ [x]) r ↔ preR s p (l ++ [x]) b = true ∧ (lastBd b).at_ = x.at_ := by
  have hx : atE (l ++ [x]) x.at_ = some x.e := rise_at h.rise (by simp)
  unfold madeE takesE'
  rw [List.mem_append, List.mem_flatMap]
  constructor
  · rintro (⟨c, hc, hb⟩ | hb)
    · obtain ⟨hcr, hcl⟩ := List.mem_filter.1 hc
      obtain ⟨g1, g2, g3, g4⟩ := (hI c).1 hcr
      obtain ⟨ha, hpc⟩ := pre_l h g1
      unfold takeE at hb
      split at hb
      · cases hb
      · rename_i hc0
        obtain ⟨k, hk, hw⟩ := List.mem_filterMap.1 hb
        obtain ⟨rfl, hpre⟩ := with_iff.1 hw
        have hg := (pre0_snoc.1 hpre).2
        refine ⟨(preR_snoc h.pf h.ev h.rise (.inr (preR_pref h.pf h.ev h.rise c hpc))).2 ⟨.inr hpc, hg, .inr ?_⟩, by rw [lastBd_snoc]⟩
        rcases g3 with g3 | g3
        · exact .inl g3
        · right
          rw [ext_skip (evx_x h) ha (show x.at_ ≤ x.at_ - 1 + 1 by omega)]
          exact g3 _
    · rw [Option.mem_toList] at hb
      obtain ⟨rfl, hpre⟩ := with_iff.1 hb
      have hg := (pre0_snoc.1 hpre).2
      exact ⟨(preR_snoc h.pf h.ev h.rise (.inl rfl)).2 ⟨.inl rfl, hg, .inl rfl⟩, rfl⟩
  · rintro ⟨hb, hat⟩
    have hne : b ≠ [] := (pre_ats h.pf h.ev h.rise hb).2
    obtain ⟨c, y, rfl⟩ : ∃ c y, b = c ++ [y] := split_last hne
    rw [lastBd_snoc] at hat
    have hy : y = ⟨y.elem, x.at_⟩ := by cases y; simp at hat; simp [hat]
    have hpf := preR_pref h.pf h.ev h.rise _ hb
    have hpre0 := (pre0_snoc.1 hpf).1
    obtain ⟨g1, g2, g3⟩ := (preR_snoc h.pf h.ev h.rise hpre0).1 hb
    by_cases hc0 : c = []
    · right
      subst hc0
      obtain ⟨e, he, hlen, h1⟩ := goesE_some g2
      have h0 : y.elem = 0 := h1.elim (fun h => h.2.1) (fun h => absurd rfl h.1)
      rw [Option.mem_toList]
      refine with_iff.2 ⟨by rw [hy, h0], hpf⟩
    · left
      have hpc := g1.resolve_left hc0
      obtain ⟨e, he, hlen, h1⟩ := goesE_some g2
      obtain ⟨_, hlt, _, hts, _⟩ := h1.resolve_left (fun h => hc0 h.1)
      rw [hat] at hlt he
      rw [hx] at he
      cases he
      obtain ⟨ha, hpl⟩ := pre_back h hpc hlt
      have hfe : firstEv (l ++ [x]) c = firstEv l c := ext_first (evx_x h) hc0 ha
      have hgo := goes_on hc0 (by rw [hy] at g2; exact g2)
      refine ⟨c, List.mem_filter.2 ⟨(hI c).2 ⟨hpl, hgo.1, ?_, ?_⟩, ?_⟩, ?_⟩
      · rcases g3.resolve_left hc0 with g3 | g3
        · exact .inl g3
        · right
          rintro t ⟨z, hz, z1, _, z3⟩
          refine g3 ((ext_skip (evx_x h) ha (by omega)).2 ⟨z, hz, z1, ?_, z3⟩)
          rw [hat]; exact lt_x h hz
      · have hl := l_ne hpl h.init
        have := ts_x h (lastKp_mem hl)
        rw [← hfe]; omega
      · rw [late_x h hpc]
        simp; omega
      · unfold takeE
        rw [if_neg hc0]
        exact List.mem_filterMap.2 ⟨y.elem, hgo.2, with_iff.2 ⟨by rw [hy], hpf⟩⟩
theorem take_nil (h : KOk s p (l ++ [x])) {b : List Bd} (hb : preR s p (l ++ [x]) b = true) : takeE s p (l ++ [x]) b = [] ↔ ∀ k ∈ elemsE p (lastBd b).elem, goesE s p (l ++ [x]) b ⟨k, x.at_⟩ = false := by
  have h0 := (pre_ats h.pf h.ev h.rise hb).2
  have hpf := preR_pref h.pf h.ev h.rise _ hb
  unfold takeE
  rw [if_neg h0, List.filterMap_eq_nil_iff]
  refine forall_congr' fun k => imp_congr Iff.rfl ?_
  constructor
  · intro hn
    cases hg : goesE s p (l ++ [x]) b ⟨k, x.at_⟩ with
    | false => rfl
    | true =>
      have : withE s p (l ++ [x]) b k = some (b ++ [⟨k, x.at_⟩]) := with_iff.2 ⟨rfl, pre0_snoc.2 ⟨.inr hpf, hg⟩⟩
      rw [this] at hn; cases hn
  · intro hg
    cases hw : withE s p (l ++ [x]) b k with
    | none => rfl
    | some c =>
      obtain ⟨rfl, hpre⟩ := with_iff.1 hw
      rw [(pre0_snoc.1 hpre).2] at hg; cases hg
theorem stay_iff (h : KOk s p (l ++ [x])) {r : List (List Bd)} (hI : ∀ b, b ∈ r ↔ LiveE s p l b) (b : List Bd) : b ∈ stayE s p (l ++ [x]) r ↔ LiveE s p (l ++ [x]) b ∧ (lastBd b).at_ < x.at_ := by
  unfold stayE liveE
  rw [List.mem_filter, List.mem_filter]
  constructor
  · rintro ⟨⟨hr, hlate⟩, hst⟩
    obtain ⟨g1, g2, g3, g4⟩ := (hI b).1 hr
    obtain ⟨ha, hpc⟩ := pre_l h g1
    have hb0 := (pre_ats h.pf h.ev h.rise hpc).2
    have hlt : (lastBd b).at_ < x.at_ := by have := ha _ (List.mem_of_getElem? (last_at hb0)); omega
    rw [late_x h hpc] at hlate
    refine ⟨⟨hpc, g2, ?_, by rw [lastKp_snoc]; simpa using hlate⟩, hlt⟩
    rcases g3 with g3 | g3
    · exact .inl g3
    · by_cases hany : p.any = true
      · exact .inl hany
      · right
        have htk : takeE s p (l ++ [x]) b = [] := by
          unfold stayB at hst
          rw [Bool.or_eq_true] at hst
          exact List.isEmpty_iff.1 (hst.resolve_left hany)
        rw [take_nil h hpc] at htk
        rintro t ⟨y, hy, y1, y2, k, hk, hg⟩
        rcases List.mem_append.1 hy with hy | hy
        · refine g3 (y.at_ + 1) ⟨y, hy, y1, by omega, k, hk, ?_⟩
          rw [← ext_goes (evx_x h) ha (show (⟨k, y.at_⟩ : Bd).at_ ≤ x.at_ - 1 by have := lt_x h hy; show y.at_ ≤ _; omega)]
          exact hg
        · rw [List.mem_singleton.1 hy] at hg
          rw [htk k hk] at hg; cases hg
  · rintro ⟨⟨hpc, g2, g3, g4⟩, hlt⟩
    obtain ⟨ha, hpl⟩ := pre_back h hpc hlt
    have hb0 := (pre_ats h.pf h.ev h.rise hpc).2
    have hfe : firstEv (l ++ [x]) b = firstEv l b := ext_first (evx_x h) hb0 ha
    rw [lastKp_snoc] at g4
    refine ⟨⟨(hI b).2 ⟨hpl, g2, ?_, ?_⟩, ?_⟩, ?_⟩
    · rcases g3 with g3 | g3
      · exact .inl g3
      · right
        rintro t ⟨y, hy, y1, y2, k, hk, hg⟩
        refine g3 t ⟨y, List.mem_append_left _ hy, y1, y2, k, hk, ?_⟩
        rw [ext_goes (evx_x h) ha (show (⟨k, y.at_⟩ : Bd).at_ ≤ x.at_ - 1 by have := lt_x h hy; show y.at_ ≤ _; omega)]
        exact hg
    · have hl := l_ne hpl h.init
      have := ts_x h (lastKp_mem hl)
      rw [← hfe]; omega
    · rw [late_x h hpc]
      simp; omega
    · unfold stayB
      rw [Bool.or_eq_true]
      rcases g3 with g3 | g3
      · exact .inl g3
      · right
        rw [List.isEmpty_iff, take_nil h hpc]
        intro k hk
        cases hg : goesE s p (l ++ [x]) b ⟨k, x.at_⟩ with
        | false => rfl
        | true => exact absurd ⟨x, by simp, hlt, by omega, k, hk, hg⟩ (g3 (x.at_ + 1))
theorem step_inv (h : KOk s p (l ++ [x])) {r r' m : List (List Bd)} (hI : InvE s p l r) (hs : stepE s p (l ++ [x]) r = some (r', m)) :
    InvE s p (l ++ [x]) r' ∧ StrictR m ∧ ∀ b, b ∈ m ↔ preR s p (l ++ [x]) b = true ∧ (lastBd b).at_ = x.at_ ∧ doneE p b = true := by
  have hx : atE (l ++ [x]) x.at_ = some x.e := rise_at h.rise (by simp)
  have hm := made_iff h hI.2
  have hst := stay_iff h hI.2
  have hs2 : r' = sortedE (stayE s p (l ++ [x]) r ++ (sortedE (madeE s p (l ++ [x]) r)).filter (goesOn p)) ∧ m = (sortedE (madeE s p (l ++ [x]) r)).filter (doneE p) := by
    unfold stepE at hs
    split at hs
    · cases hs
    · split at hs
      · cases hs
      · cases hs; exact ⟨rfl, rfl⟩
  obtain ⟨rfl, rfl⟩ := hs2
  refine ⟨⟨strict_sortedE _, fun b => ?_⟩, (strict_sortedE _).sublist List.filter_sublist, fun b => ?_⟩
  · rw [mem_sortedE, List.mem_append, List.mem_filter, mem_sortedE, hst, hm]
    constructor
    · rintro (h1 | ⟨⟨h1, h2⟩, h3⟩)
      · exact h1.1
      · refine ⟨h1, h3, .inr ?_, ?_⟩
        · rintro t ⟨y, hy, y1, _⟩
          have : y.at_ ≤ x.at_ := ats_x h (by rw [rise_at h.rise hy]; rfl)
          omega
        · rw [lastKp_snoc]
          have hne : b ≠ [] := (pre_ats h.pf h.ev h.rise h1).2
          obtain ⟨c, y, rfl⟩ : ∃ c y, b = c ++ [y] := split_last hne
          rw [lastBd_snoc] at h2
          have hpre0 := (pre0_snoc.1 (preR_pref h.pf h.ev h.rise _ h1)).1
          obtain ⟨_, g2, _⟩ := (preR_snoc h.pf h.ev h.rise hpre0).1 h1
          obtain ⟨e, he, _, h4⟩ := goesE_some g2
          rw [h2, hx] at he
          cases he
          by_cases hc : c = []
          · subst hc
            have : firstEv (l ++ [x]) ([] ++ [y]) = x.e := by
              unfold firstEv
              show (atE (l ++ [x]) y.at_).getD ev0 = _
              rw [h2, hx]; rfl
            rw [this]
            have := h.pf.within
            omega
          · rw [firstEv_snoc hc]
            exact (h4.resolve_left fun h => hc h.1).2.2.2.1
    · intro hL
      obtain ⟨hb1, hb0⟩ := pre_ats h.pf h.ev h.rise hL.1
      have hle : (lastBd b).at_ ≤ x.at_ := ats_x h (hb1.at_ _ (List.mem_of_getElem? (last_at hb0)))
      by_cases hlt : (lastBd b).at_ < x.at_
      · exact .inl ⟨hL, hlt⟩
      · exact .inr ⟨⟨hL.1, by omega⟩, hL.2.1⟩
  · rw [List.mem_filter, mem_sortedE, hm, and_assoc]
theorem inv_nil {k : List Kp} (hk : KOk s p k) : InvE s p [] [] := ⟨List.Pairwise.nil, fun b => ⟨fun h => by (cases h), fun h => by
  have hk0 : KOk s p [] := hk.pre 0
  exact absurd rfl (l_ne h.1 hk0)⟩⟩
end
end Go.Sv
namespace Go.Sv
open Go
theorem take_snoc {α : Type} {k : List α} {i : Nat} {x : α} (h : k[i]? = some x) : k.take (i + 1) = k.take i ++ [x] := by
  rw [List.take_add_one, h]; rfl
def StrictM (l : List (List Bd)) : Prop := l.Pairwise fun a b => befB a b = true
theorem bef_iff {a b : List Bd} : befB a b = true ↔ (lastBd a).at_ < (lastBd b).at_ ∨ ((lastBd a).at_ = (lastBd b).at_ ∧ ordR a b < 0) := by
  unfold befB lessR
  rw [Bool.or_eq_true, Bool.and_eq_true, decide_eq_true_iff, decide_eq_true_iff, decide_eq_true_iff]
theorem bef_irr (a : List Bd) : ¬ befB a a = true := by
  rw [bef_iff, (ordR_zero (a := a) (b := a)).2 rfl]; omega
theorem bef_asymm {a b : List Bd} (h : befB a b = true) : ¬ befB b a = true := by
  rw [bef_iff] at h ⊢
  have := ordR_swap a b
  omega
theorem bef_total {a b : List Bd} (h : befB a b = false) (hne : a ≠ b) : befB b a = true := by
  have h : ¬ befB a b = true := by rw [h]; decide
  rw [bef_iff] at h ⊢
  have h1 := ordR_swap a b
  have h2 : ordR a b ≠ 0 := fun e => hne (ordR_zero.1 e)
  omega
theorem bef_trans {a b c : List Bd} (h : befB a b = true) (h' : befB b c = true) : befB a c = true := by
  rw [bef_iff] at h h' ⊢
  rcases h with h | h <;> rcases h' with h' | h'
  · left; omega
  · left; omega
  · left; omega
  · right; exact ⟨by omega, ordR_trans h.2 h'.2⟩
theorem strictM_uniq : ∀ {a b : List (List Bd)}, StrictM a → StrictM b → (∀ x, x ∈ a ↔ x ∈ b) → a = b
  | [], [], _, _, _ => rfl
  | [], y :: b, _, _, h => by have := (h y).2 (by simp); cases this
  | x :: a, [], _, _, h => by have := (h x).1 (by simp); cases this
  | x :: a, y :: b, ha, hb, h => by
    have ha' := List.pairwise_cons.1 ha
    have hb' := List.pairwise_cons.1 hb
    have hxy : x = y := by
      rcases List.mem_cons.1 ((h x).1 (by simp)) with e | h1
      · exact e
      · rcases List.mem_cons.1 ((h y).2 (by simp)) with e | h2
        · exact e.symm
        · exact absurd (ha'.1 y h2) (bef_asymm (hb'.1 x h1))
    subst hxy
    rw [strictM_uniq ha'.2 hb'.2 fun z => ?_]
    constructor
    · intro hz
      rcases List.mem_cons.1 ((h z).1 (by simp [hz])) with e | h1
      · subst e; exact absurd (ha'.1 z hz) (bef_irr z)
      · exact h1
    · intro hz
      rcases List.mem_cons.1 ((h z).2 (by simp [hz])) with e | h1
      · subst e; exact absurd (hb'.1 z hz) (bef_irr z)
      · exact h1
theorem putR_iff : ∀ {l : List (List Bd)} {m z : List Bd}, z ∈ putR l m ↔ z = m ∨ z ∈ l
  | [], m, z => by simp [putR]
  | y :: l, m, z => by
    rw [putR]
    split
    · rw [List.mem_cons, putR_iff, List.mem_cons]
      constructor <;> (intro h; rcases h with h | h | h <;> simp [h])
    · split
      · rename_i h; subst h
        simp
      · simp
theorem putR_strict : ∀ {l : List (List Bd)} {m : List Bd}, StrictM l → StrictM (putR l m)
  | [], m, _ => List.pairwise_singleton _ _
  | y :: l, m, h => by
    have h' := List.pairwise_cons.1 h
    rw [putR]
    split
    · rename_i hb
      refine List.pairwise_cons.2 ⟨fun z hz => ?_, putR_strict h'.2⟩
      rcases putR_iff.1 hz with rfl | hz
      · exact hb
      · exact h'.1 z hz
    · split
      · exact h
      · rename_i hb hne
        have hmy : befB m y = true := bef_total (by simpa using hb) hne
        refine List.pairwise_cons.2 ⟨fun z hz => ?_, h⟩
        rcases List.mem_cons.1 hz with rfl | hz
        · exact hmy
        · exact bef_trans hmy (h'.1 z hz)
end Go.Sv
namespace Go.Sv
open Go Go.Proofs
def setR : List (List Bd) → List Bd → List (List Bd)
  | [], m => [m]
  | y :: l, m => if lessR y m then y :: setR l m else if y = m then y :: l else m :: y :: l
theorem setR_at : ∀ {l : List (List Bd)} {m : List Bd} {k : Nat}, (l.take k).all (fun y => lessR y m) = true → k ≤ l.length → (∀ y, l[k]? = some y → lessR y m = false) → setR l m = if l[k]? = some m then l else l.take k ++ m :: l.drop k
  | [], m, k, _, hk, _ => by simp [setR]
  | y :: l, m, 0, _, _, hs => by
    have := hs y rfl
    rw [setR, this]
    simp
  | y :: l, m, k + 1, h, hk, hs => by
    rw [List.take_succ_cons, List.all_cons, Bool.and_eq_true] at h
    rw [setR, if_pos h.1, setR_at h.2 (by simpa using hk) (fun z hz => hs z (by simpa using hz))]
    simp only [List.getElem?_cons_succ, List.take_succ_cons, List.drop_succ_cons]
    split <;> simp
theorem setR_len : ∀ (l : List (List Bd)) (m : List Bd), (setR l m).length ≤ l.length + 1
  | [], m => Nat.le_refl _
  | y :: l, m => by
    have := setR_len l m
    rw [setR]
    split
    · simp only [List.length_cons]; omega
    · split <;> simp
theorem setR_iff : ∀ {l : List (List Bd)} {m z : List Bd}, z ∈ setR l m ↔ z = m ∨ z ∈ l
  | [], m, z => by simp [setR]
  | y :: l, m, z => by
    rw [setR]
    split
    · rw [List.mem_cons, setR_iff, List.mem_cons]
      constructor <;> (intro h; rcases h with h | h | h <;> simp [h])
    · split
      · rename_i h; subst h
        simp
      · simp
theorem setR_strict : ∀ {l : List (List Bd)} {m : List Bd}, StrictR l → StrictR (setR l m)
  | [], m, _ => List.pairwise_singleton _ _
  | y :: l, m, h => by
    have h' := List.pairwise_cons.1 h
    rw [setR]
    split
    · rename_i hb
      refine List.pairwise_cons.2 ⟨fun z hz => ?_, setR_strict h'.2⟩
      rcases setR_iff.1 hz with rfl | hz
      · exact of_decide_eq_true hb
      · exact h'.1 z hz
    · split
      · exact h
      · rename_i hb hne
        have hb : ¬ ordR y m < 0 := fun h => hb (decide_eq_true h)
        have hne : ordR y m ≠ 0 := fun h => hne (ordR_zero.1 h)
        have hmy : ordR m y < 0 := by have := ordR_swap y m; omega
        refine List.pairwise_cons.2 ⟨fun z hz => ?_, h⟩
        rcases List.mem_cons.1 hz with rfl | hz
        · exact hmy
        · exact ordR_trans hmy (h'.1 z hz)
theorem fold_set : ∀ (a o : List (List Bd)), StrictR o → StrictR (a.foldl setR o) ∧ ∀ z, z ∈ a.foldl setR o ↔ z ∈ o ∨ z ∈ a
  | [], o, h => ⟨h, fun z => by simp⟩
  | x :: a, o, h => by
    obtain ⟨h1, h2⟩ := fold_set a (setR o x) (setR_strict h)
    refine ⟨h1, fun z => ?_⟩
    rw [List.foldl_cons, h2, setR_iff, List.mem_cons]
    exact ⟨by rintro ((h | h) | h) <;> simp [h], by rintro (h | h | h) <;> simp [h]⟩
theorem fold_put : ∀ (a o : List (List Bd)), StrictM o → StrictM (a.foldl putR o) ∧ ∀ z, z ∈ a.foldl putR o ↔ z ∈ o ∨ z ∈ a
  | [], o, h => ⟨h, fun z => by simp⟩
  | x :: a, o, h => by
    obtain ⟨h1, h2⟩ := fold_put a (putR o x) (putR_strict h)
    refine ⟨h1, fun z => ?_⟩
    rw [List.foldl_cons, h2, putR_iff, List.mem_cons]
    exact ⟨by rintro ((h | h) | h) <;> simp [h], by rintro (h | h | h) <;> simp [h]⟩
def startR (s : Sc) (p : Pa) (l : List Kp) : Bool := decide (l ≠ []) && goesR s p l [] 0 (lastKp l)
def bornR (s : Sc) (p : Pa) (l : List Kp) : List (List Bd) := if startR s p l then [[⟨0, (lastKp l).at_⟩]] else []
def takeI (s : Sc) (p : Pa) (l : List Kp) (r : List Bd) (k : Int) : List (List Bd) := if goesI s p l r k (lastKp l) then [r ++ [⟨k.toNat, (lastKp l).at_⟩]] else []
def takeF (s : Sc) (p : Pa) (l : List Kp) (r : List Bd) : List (List Bd) :=
  if l = [] ∨ r = [] then [] else takeI s p l r ((lastBd r).elem : Int) ++ takeI s p l r (nextI p (lastBd r).elem)
def freshF (s : Sc) (p : Pa) (l : List Kp) (r : List (List Bd)) : List (List Bd) := (liveE p l r).flatMap (takeF s p l) ++ bornR s p l
def stayF (s : Sc) (p : Pa) (l : List Kp) (x : List Bd) : Bool := p.any || (takeF s p l x).isEmpty
def heldF (s : Sc) (p : Pa) (l : List Kp) (r : List (List Bd)) : List (List Bd) := (liveE p l r).filter (stayF s p l)
def outF (s : Sc) (p : Pa) (l : List Kp) (r : List (List Bd)) : List (List Bd) := ((freshF s p l r).filter (goesOn p)).foldl setR ((heldF s p l r).foldl setR [])
def stepF (s : Sc) (p : Pa) (l : List Kp) (r : List (List Bd)) : Option (List (List Bd) × List (List Bd)) :=
  if (freshF s p l r).any longR then none
  else if 60 < (outF s p l r).length then none
  else some (outF s p l r, ((freshF s p l r).filter (doneE p)).foldl putR [])
section
variable {s : Sc} {p : Pa} {l : List Kp} {x : Kp}
theorem with_list (h : KOk s p (l ++ [x])) {b : List Bd} (hb : Pre0 s p (l ++ [x]) b) {k : Nat} (hk : k < p.els.length) : (withE s p (l ++ [x]) b k).toList = takeI s p (l ++ [x]) b (k : Int) := by
  have hg : goesI s p (l ++ [x]) b (k : Int) x = goesE s p (l ++ [x]) b ⟨k, x.at_⟩ := by
    rw [goesI, if_neg (by omega)]
    exact goes_same h.pf h.ev hb hk (by simp) (rise_at h.rise (by simp))
  have hp : prefE s (anyP p) (l ++ [x]) (b ++ [⟨k, x.at_⟩]) = goesE s p (l ++ [x]) b ⟨k, x.at_⟩ := by
    have : prefE s p (l ++ [x]) (b ++ [⟨k, x.at_⟩]) = goesE s p (l ++ [x]) b ⟨k, x.at_⟩ := by
      rw [prefE_snoc]
      have : (prefE s p (l ++ [x]) b || decide (b = [])) = true := by
        rcases hb with hb | hb
        · rw [decide_eq_true hb, Bool.or_true]
        · rw [hb, Bool.true_or]
      rw [this, Bool.true_and]
    exact this
  rw [withE, if_neg (by simp), grown, takeI, lastKp_snoc, hg, hp]
  split <;> simp
theorem takeF_eq (h : KOk s p (l ++ [x])) {b : List Bd} (hb : Pre0 s p (l ++ [x]) b) : takeF s p (l ++ [x]) b = takeE s p (l ++ [x]) b := by
  have hlen := (bound0 h.pf b hb).len
  unfold takeF takeE elemsE nextI
  by_cases h0 : b = []
  · rw [if_pos (.inr h0), if_pos h0]
  · rw [if_neg (by simp [h0]), if_neg h0, ← with_list h hb hlen, List.filterMap_cons]
    cases hn : nextE p (lastBd b).elem with
    | none =>
      have : takeI s p (l ++ [x]) b (-1) = [] := by rw [takeI, goesI, if_pos (show (-1 : Int) < 0 by decide)]; rfl
      simp only [this]
      cases withE s p (l ++ [x]) b (lastBd b).elem <;> rfl
    | some n =>
      simp only
      rw [← with_list h hb (nextE_some hn).2.1]
      cases withE s p (l ++ [x]) b (lastBd b).elem <;> cases hw : withE s p (l ++ [x]) b n <;> simp [hw]
theorem born_eq (h : KOk s p (l ++ [x])) : bornR s p (l ++ [x]) = (withE s p (l ++ [x]) [] 0).toList := by
  rw [with_list h (.inl rfl) h.pf.pos, bornR, startR, takeI, goesI, if_neg (show ¬ ((0 : Nat) : Int) < 0 by decide), decide_eq_true (show l ++ [x] ≠ [] by simp), Bool.true_and]; rfl
theorem inv_pre (h : KOk s p (l ++ [x])) {r : List (List Bd)} (hI : InvE s p l r) {b : List Bd} (hb : b ∈ r) : Pre0 s p (l ++ [x]) b :=
  .inr (preR_pref h.pf h.ev h.rise b (pre_l h ((hI.2 b).1 hb).1).2)
theorem fresh_eq (h : KOk s p (l ++ [x])) {r : List (List Bd)} (hI : InvE s p l r) : freshF s p (l ++ [x]) r = madeE s p (l ++ [x]) r := by
  unfold freshF madeE takesE'
  rw [born_eq h]
  congr 1
  have : ∀ q : List (List Bd), (∀ b ∈ q, b ∈ r) → q.flatMap (takeF s p (l ++ [x])) = q.flatMap (takeE s p (l ++ [x])) := by
    intro q
    induction q with
    | nil => intro _; rfl
    | cons b q ih => intro hq; rw [List.flatMap_cons, List.flatMap_cons, takeF_eq h (inv_pre h hI (hq b (by simp))), ih fun c hc => hq c (by simp [hc])]
  exact this _ fun b hb => (List.mem_filter.1 hb).1
theorem held_eq (h : KOk s p (l ++ [x])) {r : List (List Bd)} (hI : InvE s p l r) : heldF s p (l ++ [x]) r = stayE s p (l ++ [x]) r := by
  unfold heldF stayE
  refine List.filter_congr fun b hb => ?_
  rw [stayF, stayB, takeF_eq h (inv_pre h hI (List.mem_filter.1 hb).1)]
theorem step_ref (h : KOk s p (l ++ [x])) {r : List (List Bd)} (hI : InvE s p l r) (hlen : ∀ b ∈ r, b.length ≤ 30) : stepF s p (l ++ [x]) r = stepE s p (l ++ [x]) r := by
  have hout : outF s p (l ++ [x]) r = sortedE (stayE s p (l ++ [x]) r ++ (sortedE (madeE s p (l ++ [x]) r)).filter (goesOn p)) := by
    unfold outF
    rw [fresh_eq h hI, held_eq h hI]
    have h1 := fold_set (stayE s p (l ++ [x]) r) [] List.Pairwise.nil
    have h2 := fold_set ((madeE s p (l ++ [x]) r).filter (goesOn p)) _ h1.1
    refine strict_uniq h2.1 (strict_sortedE _) fun z => ?_
    rw [h2.2, h1.2, mem_sortedE, List.mem_append, List.mem_filter, List.mem_filter, mem_sortedE]
    simp
  have hput : ((freshF s p (l ++ [x]) r).filter (doneE p)).foldl putR [] = (sortedE (madeE s p (l ++ [x]) r)).filter (doneE p) := by
    rw [fresh_eq h hI]
    have h1 := fold_put ((madeE s p (l ++ [x]) r).filter (doneE p)) [] List.Pairwise.nil
    have hat : ∀ b ∈ (sortedE (madeE s p (l ++ [x]) r)).filter (doneE p), (lastBd b).at_ = x.at_ := fun b hb => ((made_iff h hI.2 b).1 (mem_sortedE.1 (List.mem_filter.1 hb).1)).2
    refine strictM_uniq h1.1 ?_ fun z => ?_
    · refine List.Pairwise.imp_of_mem ?_ ((strict_sortedE _).sublist List.filter_sublist)
      intro a b ha hb hab
      rw [bef_iff]
      exact .inr ⟨(hat a ha).trans (hat b hb).symm, hab⟩
    · rw [h1.2, List.mem_filter, List.mem_filter, mem_sortedE]
      simp
  have hany : (freshF s p (l ++ [x]) r).any longR = (sortedE (madeE s p (l ++ [x]) r)).any longR := by
    rw [fresh_eq h hI, Bool.eq_iff_iff, List.any_eq_true, List.any_eq_true]
    exact exists_congr fun b => and_congr_left fun _ => mem_sortedE.symm
  unfold stepF stepE
  rw [hany, hout, hput]
  cases hl : (sortedE (madeE s p (l ++ [x]) r)).any longR with
  | true => rfl
  | false =>
    have hno : (sortedE (stayE s p (l ++ [x]) r ++ (sortedE (madeE s p (l ++ [x]) r)).filter (goesOn p))).any longR = false := by
      rw [List.any_eq_false]
      intro b hb
      rw [mem_sortedE, List.mem_append] at hb
      rcases hb with hb | hb
      · have := hlen b (List.mem_filter.1 (List.mem_filter.1 hb).1).1
        unfold longR
        simp only [decide_eq_true_iff]; omega
      · exact List.any_eq_false.1 hl b (List.mem_filter.1 hb).1
    rw [hno]
    simp
end
def allGoF (s : Sc) (p : Pa) (l : List Kp) : Nat → Nat → List (List Bd) → List (List (List Bd)) → List (List (List Bd)) × Option Nat
  | 0, _, _, out => (out, none)
  | k + 1, i, r, out => match stepF s p (l.take (i + 1)) r with
    | none => (out, some 18)
    | some (r', m) => allGoF s p l k (i + 1) r' (out ++ [m])
def allF (s : Sc) (p : Pa) (l : List Kp) : List (List (List Bd)) × Option Nat := allGoF s p l l.length 0 [] []
structure InvS (s : Sc) (p : Pa) (l : List Kp) (r : List (List Bd)) : Prop where
  inv : InvE s p l r
  runs : RunsOk p r
  len : ∀ b ∈ r, b.length ≤ 30
  n : r.length ≤ 60
theorem invS_nil {s : Sc} {p : Pa} {k : List Kp} (hk : KOk s p k) : InvS s p [] [] := ⟨inv_nil hk, runs_nil p, fun b hb => (by cases hb), by decide⟩
theorem stepS {s : Sc} {p : Pa} {k : List Kp} (hn : p.els.length < 2 ^ 60) (hk : KOk s p k) {i : Nat} (hi : i < k.length) {r : List (List Bd)} (hI : InvS s p (k.take i) r) :
    stepF s p (k.take (i + 1)) r = stepE s p (k.take (i + 1)) r ∧ ∀ r' m, stepE s p (k.take (i + 1)) r = some (r', m) → InvS s p (k.take (i + 1)) r' ∧ (∀ x ∈ m, x.length ≤ 30) := by
  obtain ⟨x, hx⟩ : ∃ x, k[i]? = some x := ⟨_, List.getElem?_eq_getElem hi⟩
  have hsn := take_snoc hx
  have hk2 : KOk s p (k.take i ++ [x]) := hsn ▸ hk.pre (i + 1)
  rw [hsn]
  refine ⟨step_ref hk2 hI.inv hI.len, fun r' m hs => ?_⟩
  obtain ⟨h1, h2, h3, h4⟩ := step_runs hn hI.runs hs
  exact ⟨⟨(step_inv hk2 hI.inv hs).1, h1, h3, h2⟩, h4⟩
theorem allGo_ref {s : Sc} {p : Pa} {k : List Kp} (hn : p.els.length < 2 ^ 60) (hk : KOk s p k) : ∀ (n i : Nat) (r : List (List Bd)) (out : List (List (List Bd))), i + n = k.length → InvS s p (k.take i) r → allGoF s p k n i r out = allGo s p k n i r out
  | 0, i, r, out, _, _ => rfl
  | n + 1, i, r, out, hi, hI => by
    obtain ⟨h1, h2⟩ := stepS hn hk (i := i) (by omega) hI
    rw [allGoF, allGo, h1]
    cases hs : stepE s p (k.take (i + 1)) r with
    | none => rfl
    | some y =>
      obtain ⟨r', m⟩ := y
      exact allGo_ref hn hk n (i + 1) r' (out ++ [m]) (by omega) (h2 _ _ hs).1
theorem all_ref {s : Sc} {p : Pa} {k : List Kp} (hn : p.els.length < 2 ^ 60) (hk : KOk s p k) : allF s p k = allE s p k :=
  allGo_ref hn hk k.length 0 [] [] (by omega) (by rw [List.take_zero]; exact invS_nil hk)
end Go.Sv
namespace Go.Sv
open Go Go.Proofs
theorem VleL.trans' : ∀ {a b c : List V}, VleL a b → VleL b c → VleL a c
  | _, _, _, .nil, .nil => .nil
  | _, _, _, .cons h h', .cons k k' => .cons (h.trans k) (VleL.trans' h' k')
theorem wp_append_V {P : Program} {Q : Exit → Fr → List Res → Prop} {R : List Res} {sh : Option Nat} {by_ : Nat} {x : V} {ys ys' : List V} {k : V → Tree} (hv : VleL ys ys') (hok : ∀ y ∈ ys, okE sh y) (h : (Tree.append sh by_ x ys' k).wp P R Q) : (Tree.append sh by_ x ys k).wp P R Q := by
  obtain ⟨z, hz, _, rest⟩ := h
  exact ⟨z, VleL.trans' hv hz, hok, rest⟩
theorem okE_of {k : Nat} {cs : List V} (hk : cs.length = k) (h : cs.all oneV = true) : ∀ y ∈ [V.agg cs], okE (some k) y := fun y hy => by
  rw [List.mem_singleton.1 hy]; exact ⟨cs, rfl, hk, fun c hc => List.all_eq_true.1 h c hc⟩
theorem wp_res {P : Program} {Q : Exit → Fr → List Res → Prop} {R R' : List Res} {t : Tree} (h : R = R') (hw : t.wp P R' Q) : t.wp P R Q := h ▸ hw
set_option maxRecDepth 100000 in
set_option maxHeartbeats 1000000 in
theorem rlate_call (p : Pa) (l : List Kp) (hl : StOkL l) (r : List Bd) : PCall Tryz.prog 31 [.agg (paC p), kpsV l, runV r] (bV (lateE p l r)) := by
  have fa := rat_call l (r.headD bd0).at_ hl.n
  refine scall_of (live := []) (ords := [(4, [])]) Tryz.func31 rfl (by kernel_rfl) (by kernel_rfl) (Nat.le_of_ble_eq_true rfl) ?_
  by_cases h0 : l = []
  · subst h0
    have hr : lateE p [] r = false := by rw [lateE, if_pos (.inl rfl)]
    (repeat ((conv=>arg 2;whnf);first|refine wp_it rfl ?_|refine wp_if rfl ?_))
    (conv=>arg 2;whnf);refine w_ret1 rfl (Vle.eq (cBool hr.symm)) (List.nil_sublist _) rfl
  · have e0 : (((l.map kpV).length : Int) == 0) = false := len_ne h0
    have w0 := len_pred (f := kpV) h0 hl.n
    by_cases h1 : r = []
    · subst h1
      have hr : lateE p l [] = false := by rw [lateE, if_pos (.inr rfl)]
      (conv=>arg 2;whnf);refine wp_if e0 ?_
      (repeat ((conv=>arg 2;whnf);first|refine wp_it rfl ?_|refine wp_if rfl ?_))
      (conv=>arg 2;whnf);refine w_ret1 rfl (Vle.eq (cBool hr.symm)) (List.nil_sublist _) rfl
    · have e1 : (((r.map bdV).length : Int) == 0) = false := len_ne h1
      have hr := lateE_eq (p := p) h0 h1
      (conv=>arg 2;whnf);refine wp_if e0 ?_
      (conv=>arg 2;whnf);refine wp_if e1 ?_
      (conv=>arg 2;whnf);refine wp_elem 0 (bdV (r.headD bd0)) rfl (bds_at (head_at h1)) (Vle.refl _) ?_
      obtain ⟨o, ho⟩ : ∃ o, o = atE l (r.headD bd0).at_ := ⟨_, rfl⟩
      rw [← ho] at fa hr
      cases o with
      | none =>
        have hr : lateE p l r = true := hr
        (conv=>arg 2;whnf);refine wp_pcall fa ?_
        (conv=>arg 2;whnf);refine wp_allocE evZ rfl fun u => ?_
        (conv=>arg 2;whnf);refine wp_storeE (cs := evZ) 0 0 (evC ev0) rfl rfl (VleL.refl _) (Nat.le_refl _) rfl (R' := [.obj u (evC ev0)]) rfl ?_
        (conv=>arg 2;whnf);refine wp_cutR (frL [(8, bV false)]) [] (.cons (.refl _) (.nil _)) (List.nil_sublist _) ?_
        (repeat ((conv=>arg 2;whnf);first|refine wp_it rfl ?_|refine wp_if rfl ?_))
        (conv=>arg 2;whnf);refine w_ret1 rfl (Vle.eq (cBool hr.symm)) (List.nil_sublist _) rfl
      | some e =>
        have hr : lateE p l r = decide ((lastKp l).e.ts - e.ts > p.within) := hr
        have r1 := hl.rg _ (lastKp_mem h0)
        have r2 : EvRg e := by
          obtain ⟨k, hk, rfl, _⟩ := at_mem ho.symm
          exact hl.rg k hk
        have hwt : IntKind.i64.wrap ((lastKp l).e.ts - e.ts) = (lastKp l).e.ts - e.ts := w_i64_small (by have := r1.2; have := r2.2; omega) (by have := r1.2; have := r2.2; omega)
        rw [← hwt] at hr
        (conv=>arg 2;whnf);refine wp_pcall fa ?_
        (conv=>arg 2;whnf);refine wp_allocE evZ rfl fun u => ?_
        (conv=>arg 2;whnf);refine wp_storeE (cs := evZ) 0 0 (evC e) rfl rfl (VleL.refl _) (Nat.le_refl _) rfl (R' := [.obj u (evC e)]) rfl ?_
        (conv=>arg 2;whnf)
        refine wp_cutP (frL [(1, kpsV l), (3, .pt (some 4) (.agg (paC p)) 0), (7, .pt (some 3) (evV e) 0), (8, bV true)]) [] [.obj u (evC e)] (.cons (.refl _) (.cons (.refl _) (.cons (.all (List.Mem.head _) rfl (by decide) (VleL.refl _)) (.cons (.refl _) (.nil _))))) ?_
        (repeat ((conv=>arg 2;whnf);first|refine wp_it rfl ?_|refine wp_if rfl ?_))
        (conv=>arg 2;whnf);refine wp_elem (l.length - 1) (kpV (lastKp l)) w0 (kps_at (lastKp_at h0)) (Vle.refl _) ?_
        (conv=>arg 2;whnf);refine w_ret1 rfl (Vle.eq (cBool hr.symm)) (List.nil_sublist _) rfl
set_option maxRecDepth 100000 in
set_option maxHeartbeats 1000000 in
theorem rstart_call (s : Sc) (hs : ScOk s) (p : Pa) (hp : RfOkP p) (hpos : 0 < p.els.length) (l : List Kp) (hl : RfOkL l) :
    PCall Tryz.prog 34 [scV s, .agg (paC p), kpsV l] (.tup [runV (if startR s p l then [⟨0, (lastKp l).at_⟩] else []), bV (startR s p l)]) := by
  refine scall_of (live := []) (ords := [(1, [])]) Tryz.func34 rfl (by kernel_rfl) (by kernel_rfl) (Nat.le_of_ble_eq_true rfl) ?_
  (conv=>arg 2;whnf);refine wp_allocE runZ rfl fun c => ?_
  (conv=>arg 2;whnf)
  refine wp_cutR (frL [(2, kpsV l), (3, .pt (some 1) (scV s) 0), (4, .pt (some 4) (.agg (paC p)) 0), (6, .loc c 0)]) [.obj c runZ] (.cons (.refl _) (.cons (.refl _) (.cons (.refl _) (.cons (.refl _) (.nil _))))) (List.Sublist.refl _) ?_
  by_cases h0 : l = []
  · subst h0
    have hw : startR s p [] = false := rfl
    (repeat ((conv=>arg 2;whnf);first|refine wp_it rfl ?_|refine wp_if rfl ?_))
    (conv=>arg 2;whnf);refine wp_storeE (cs := runZ) 0 0 (runC []) rfl rfl runZ_vle (Nat.le_refl _) rfl (R' := [.obj c (runC [])]) rfl ?_
    (conv=>arg 2;whnf);refine w_ret2ck (R' := []) (a := runV []) (u := bV false) c 0 0 rfl rfl rfl rfl rfl (Vle.refl _) (Vle.refl _) (List.nil_sublist _) (by rw [hw]; rfl)
  · have e0 : (((l.map kpV).length : Int) == 0) = false := len_ne h0
    have w0 := len_pred (f := kpV) h0 hl.n
    have fg := rgoes_nil s hs p hp l hl (.sl none [] .zero) (.inr rfl) 0 hpos (lastKp l) (hl.ev (lastKp_mem h0))
    have hw : startR s p l = goesR s p l [] 0 (lastKp l) := by rw [startR, decide_eq_true h0, Bool.true_and]
    rw [hw]
    obtain ⟨g, hg⟩ : ∃ g, g = goesR s p l [] 0 (lastKp l) := ⟨_, rfl⟩
    rw [← hg] at fg ⊢
    clear hg hw
    (conv=>arg 2;whnf);refine wp_if e0 ?_
    (conv=>arg 2;whnf);refine wp_elem (l.length - 1) (kpV (lastKp l)) w0 (kps_at (lastKp_at h0)) (Vle.refl _) ?_
    (conv=>arg 2;whnf);refine wp_pc fg ?_
    cases g with
    | false =>
      (repeat ((conv=>arg 2;whnf);first|refine wp_it rfl ?_|refine wp_if rfl ?_))
      (conv=>arg 2;whnf);refine wp_storeE (cs := runZ) 0 0 (runC []) rfl rfl runZ_vle (Nat.le_refl _) rfl (R' := [.obj c (runC [])]) rfl ?_
      (conv=>arg 2;whnf);refine w_ret2ck (R' := []) (a := runV []) (u := bV false) c 0 0 rfl rfl rfl rfl rfl (Vle.refl _) (Vle.refl _) (List.nil_sublist _) rfl
    | true =>
      (repeat ((conv=>arg 2;whnf);first|refine wp_it rfl ?_|refine wp_if rfl ?_))
      (conv=>arg 2;whnf);refine wp_elem (l.length - 1) (kpV (lastKp l)) w0 (kps_at (lastKp_at h0)) (Vle.refl _) ?_
      (conv=>arg 2;whnf);refine wp_storeE (cs := runZ) 0 0 (runC [⟨0, (lastKp l).at_⟩]) rfl rfl (VleL.refl _) (Nat.le_refl _) rfl (R' := [.obj c (runC [⟨0, (lastKp l).at_⟩])]) rfl ?_
      (conv=>arg 2;whnf);refine w_ret2ck (R' := []) (a := runV [⟨0, (lastKp l).at_⟩]) (u := bV true) c 0 0 rfl rfl rfl rfl rfl (Vle.refl _) (Vle.refl _) (List.nil_sublist _) rfl
set_option maxRecDepth 100000 in
theorem rsamer_call (a b : List (List Bd)) (ha : a.length < 2 ^ 60) (hb : b.length < 2 ^ 60) (ha' : ∀ x ∈ a, x.length < 2 ^ 60) (hb' : ∀ x ∈ b, x.length < 2 ^ 60) : PCall Tryz.prog 11 [runsV a, runsV b] (bV (decide (a = b))) := by
  refine scall_of (live := []) (ords := []) Tryz.func11 rfl (by kernel_rfl) (by kernel_rfl) (Nat.le_of_ble_eq_true rfl) ?_
  (conv=>arg 2;whnf);refine wp_ite (fun h0 => ?_) (fun h0 => ?_)
  · have h0 : a.length ≠ b.length := fun e => by
      have := bne_iff_ne.1 h0
      rw [List.length_map, List.length_map, e] at this
      exact this rfl
    have hr : decide (a = b) = false := decide_eq_false fun e => h0 (by rw [e])
    (conv=>arg 2;whnf);refine w_ret1 rfl (Vle.eq (cBool hr.symm)) (List.nil_sublist _) rfl
  · have h0 : a.length = b.length := by
      have := bne_eq_false_iff_eq.1 h0
      rw [List.length_map, List.length_map] at this
      omega
    (conv=>arg 2;whnf);refine wp_loop (fun m fr R => ∃ n : Nat, m = a.length - n ∧ n ≤ a.length ∧ R = [] ∧ a.take n = b.take n ∧ fr = frL [(0, runsV a), (1, runsV b), (5, i64V n)])
      a.length _ _ (.cons (.refl _) (.cons (.refl _) (.cons (.refl _) (.nil _)))) (List.Sublist.refl _) ⟨0, rfl, Nat.zero_le _, rfl, rfl, rfl⟩ ?_
    rintro m fr R ⟨n, rfl, hn, rfl, he, rfl⟩
    (conv=>arg 2;whnf);refine wp_ite (fun h => ?_) (fun h => ?_)
    · have h : n < a.length := by
        have := of_decide_eq_true h
        rw [List.length_map] at this; omega
      obtain ⟨x, hx⟩ : ∃ x, a[n]? = some x := ⟨_, List.getElem?_eq_getElem h⟩
      obtain ⟨y, hy⟩ : ∃ y, b[n]? = some y := ⟨_, List.getElem?_eq_getElem (by omega)⟩
      have fs := rsameb_call x y (ha' x (List.mem_of_getElem? hx)) (hb' y (List.mem_of_getElem? hy))
      obtain ⟨r, hr0⟩ : ∃ r, r = decide (x = y) := ⟨_, rfl⟩
      rw [← hr0] at fs
      (conv=>arg 2;whnf);refine wp_elem n (runV x) rfl (runs_at hx) (Vle.refl _) ?_
      (conv=>arg 2;whnf);refine wp_elem n (runV y) rfl (runs_at hy) (Vle.refl _) ?_
      (conv=>arg 2;whnf);refine wp_pc fs ?_
      cases r with
      | false =>
        have hr : decide (a = b) = false := decide_eq_false (ne_at hx hy (of_decide_eq_false hr0.symm))
        (repeat ((conv=>arg 2;whnf);first|refine wp_it rfl ?_|refine wp_if rfl ?_))
        (conv=>arg 2;whnf)
        refine wp_leaf (loop_ret ?_)
        (conv=>arg 2;whnf);refine w_ret1 rfl (Vle.eq (cBool hr.symm)) (List.nil_sublist _) rfl
      | true =>
        have hn' := takes_next he hx hy (of_decide_eq_true hr0.symm)
        (repeat ((conv=>arg 2;whnf);first|refine wp_it rfl ?_|refine wp_if rfl ?_))
        (conv=>arg 2;whnf)
        exact wp_leaf (loop_next (a.length - (n + 1)) _ [] (by omega) (.cons (.refl _) (.cons (.refl _) (.cons (Vle.inc n rfl (by omega)) (.nil _)))) (List.Sublist.refl _) ⟨n + 1, rfl, h, rfl, hn', rfl⟩)
    · have h : n = a.length := by
        have := of_decide_eq_false h
        rw [List.length_map] at this; omega
      have hr : decide (a = b) = true := decide_eq_true (by rw [h, List.take_length, h0, List.take_length] at he; exact he)
      (conv=>arg 2;whnf)
      refine wp_leaf (loop_exit ?_)
      (conv=>arg 2;whnf);refine w_ret1 rfl (Vle.eq (cBool hr.symm)) (List.nil_sublist _) rfl
set_option maxRecDepth 100000 in
set_option maxHeartbeats 4000000 in
theorem rwith_call (l : List (List Bd)) (m : List Bd) (hl : l.length < 2 ^ 42) (hn : ∀ y ∈ l, y.length < 2 ^ 60) (hm : m.length < 2 ^ 60) : PCall Tryz.prog 33 [runsV l, runV m] (runsV (setR l m)) := by
  refine scall_of (live := []) (ords := [(2, []), (4, []), (6, [0, 1, 2, 4, 5, 7, 8, 9, 3, 6, 10, 11])]) Tryz.func33 rfl (by kernel_rfl) (by kernel_rfl) (Nat.le_of_ble_eq_true rfl) ?_
  (conv=>arg 2;whnf);refine wp_loop (fun m' fr R => ∃ n : Nat, m' = l.length - n ∧ n ≤ l.length ∧ R = [] ∧ (l.take n).all (fun y => lessR y m) = true ∧ fr = frL [(0, runsV l), (3, .pt (some 1) (runV m) 0), (5, i64V n)])
    l.length _ _ (.cons (.refl _) (.cons (.refl _) (.cons (.refl _) (.nil _)))) (List.Sublist.refl _) ⟨0, rfl, Nat.zero_le _, rfl, rfl, rfl⟩ ?_
  rintro m' fr R ⟨n, rfl, hnl, rfl, ha, rfl⟩
  have hnone : n = l.length → l[n]? = none := fun h => List.getElem?_eq_none (Nat.le_of_eq h.symm)
  (conv=>arg 2;whnf);refine wp_cutR (frL [(0, runsV l), (3, .pt (some 1) (runV m) 0), (5, i64V n)]) [] (.cons (.refl _) (.cons (.refl _) (.cons (.refl _) (.nil _)))) (List.nil_sublist _) ?_
  apply @wp_joinT _ ((∀ y, l[n]? = some y → lessR y m = false) → _)
  case h1 =>
    intro rest
    (conv=>arg 2;whnf);refine wp_ite (fun h => ?_) (fun h => ?_)
    · have h : n < l.length := by
        have := of_decide_eq_true h
        rw [List.length_map] at this; omega
      obtain ⟨y, hy⟩ : ∃ y, l[n]? = some y := ⟨_, List.getElem?_eq_getElem h⟩
      have fl := rless_call y m (hn y (List.mem_of_getElem? hy)) hm
      have hnext : lessR y m = true → (l.take (n + 1)).all (fun y => lessR y m) = true := fun e => all_next ha hy e
      have hstop : lessR y m = false → ∀ z, l[n]? = some z → lessR z m = false := fun e z hz => by
        rw [hy] at hz; cases hz; exact e
      obtain ⟨r, hr⟩ : ∃ r, r = lessR y m := ⟨_, rfl⟩
      rw [← hr] at fl hnext hstop
      clear hr
      (conv=>arg 2;whnf);refine wp_elem n (runV y) rfl (runs_at hy) (Vle.refl _) ?_
      (conv=>arg 2;whnf);refine wp_pc fl ?_
      clear fl
      cases r with
      | true =>
        have hnx := hnext rfl
        (repeat ((conv=>arg 2;whnf);first|refine wp_it rfl ?_|refine wp_if rfl ?_))
        (conv=>arg 2;whnf)
        exact wp_leaf (loop_next (l.length - (n + 1)) _ [] (by omega) (.cons (.refl _) (.cons (.refl _) (.cons (Vle.inc n rfl (by omega)) (.nil _)))) (List.Sublist.refl _) ⟨n + 1, rfl, h, rfl, hnx, rfl⟩)
      | false =>
        (repeat ((conv=>arg 2;whnf);first|refine wp_it rfl ?_|refine wp_if rfl ?_))
        (conv=>arg 2;whnf)
        refine wp_leaf (loop_exit ?_)
        (conv=>arg 2;whnf)
        exact wp_cutR (frL [(0, runsV l), (3, .pt (some 1) (runV m) 0), (5, i64V n)]) [] (.cons (.refl _) (.cons (.refl _) (.cons (.refl _) (.nil _)))) (List.nil_sublist _) (rest (hstop rfl))
    · have h : n = l.length := by
        have := of_decide_eq_false h
        rw [List.length_map] at this; omega
      have hno : ∀ z, l[n]? = some z → lessR z m = false := fun z hz => by rw [hnone h] at hz; cases hz
      (repeat ((conv=>arg 2;whnf);first|refine wp_it rfl ?_|refine wp_if rfl ?_))
      (conv=>arg 2;whnf)
      refine wp_leaf (loop_exit ?_)
      (conv=>arg 2;whnf)
      exact wp_cutR (frL [(0, runsV l), (3, .pt (some 1) (runV m) 0), (5, i64V n)]) [] (.cons (.refl _) (.cons (.refl _) (.cons (.refl _) (.nil _)))) (List.nil_sublist _) (rest hno)
  case rest =>
    intro hstop
    have hput := setR_at ha hnl hstop
    apply @wp_joinT _ (l[n]? ≠ some m → _)
    case h1 =>
      intro rest
      (conv=>arg 2;whnf);refine wp_ite (fun h => ?_) (fun h => ?_)
      · have h : n < l.length := by
          have := of_decide_eq_true h
          rw [List.length_map] at this; omega
        obtain ⟨y, hy⟩ : ∃ y, l[n]? = some y := ⟨_, List.getElem?_eq_getElem h⟩
        have fs := rsameb_call y m (hn y (List.mem_of_getElem? hy)) hm
        obtain ⟨r, hr⟩ : ∃ r, r = decide (y = m) := ⟨_, rfl⟩
        rw [← hr] at fs
        (conv=>arg 2;whnf);refine wp_elem n (runV y) rfl (runs_at hy) (Vle.refl _) ?_
        (conv=>arg 2;whnf);refine wp_pc fs ?_
        clear fs
        cases r with
        | true =>
          have hym : y = m := of_decide_eq_true hr.symm
          rw [if_pos (hym ▸ hy)] at hput
          (repeat ((conv=>arg 2;whnf);first|refine wp_it rfl ?_|refine wp_if rfl ?_))
          (conv=>arg 2;whnf);refine w_ret1 rfl (Vle.eq (congrArg runsV hput.symm)) (List.nil_sublist _) rfl
        | false =>
          have hym : y ≠ m := of_decide_eq_false hr.symm
          (repeat ((conv=>arg 2;whnf);first|refine wp_it rfl ?_|refine wp_if rfl ?_))
          exact wp_cutR (frL [(0, runsV l), (3, .pt (some 1) (runV m) 0), (5, i64V n)]) [] (.cons (.refl _) (.cons (.refl _) (.cons (.refl _) (.nil _)))) (List.nil_sublist _) (rest fun e => hym (Option.some.inj (hy.symm.trans e)))
      · have h : n = l.length := by
          have := of_decide_eq_false h
          rw [List.length_map] at this; omega
        have hno : l[n]? ≠ some m := fun e => by rw [hnone h] at e; cases e
        (repeat ((conv=>arg 2;whnf);first|refine wp_it rfl ?_|refine wp_if rfl ?_))
        exact wp_cutR (frL [(0, runsV l), (3, .pt (some 1) (runV m) 0), (5, i64V n)]) [] (.cons (.refl _) (.cons (.refl _) (.cons (.refl _) (.nil _)))) (List.nil_sublist _) (rest hno)
    case rest =>
      intro hne
      rw [if_neg hne] at hput
      have hneed1 : (0 : Int) ≤ n ∧ (n : Int) ≤ (l.map runV).length := by rw [List.length_map]; omega
      have ok1 : ∀ y ∈ (l.map runV).take n, okE (some 1) y := fun y hy => okE_run l y (List.mem_of_mem_take hy)
      have ok2 : ∀ y ∈ (l.map runV).drop n, okE (some 1) y := fun y hy => okE_run l y (List.mem_of_mem_drop hy)
      have hv : ∀ t3, Vle (.sl (some 1) (((l.map runV).take n ++ [runV m]) ++ (l.map runV).drop n) (.t t3)) (runsV (setR l m)) := fun t3 => by
        rw [hput]
        refine Vle.trans (Vle.sl _ _ _) (Vle.eq ?_)
        rw [runsV, List.map_append, List.map_cons, List.map_take, List.map_drop, List.append_assoc]; rfl
      (conv=>arg 2;whnf);refine wp_need hneed1 ?_
      (conv=>arg 2;whnf);refine wp_need hneed1 ?_
      (conv=>arg 2;whnf);refine wp_append_nil ok1 (show List.length ((l.map runV).take n) * 24 ≤ _ by rw [List.length_take, List.length_map]; omega) fun t1 => ?_
      (conv=>arg 2;whnf);refine wp_append_tok 0 rfl (okE_run [m]) (show (List.length ((l.map runV).take n) + 1) * 24 ≤ _ by rw [List.length_take, List.length_map]; omega) fun t2 => ?_
      (conv=>arg 2;whnf);refine wp_append_tok 0 rfl ok2 (show (List.length ((l.map runV).take n ++ [runV m]) + List.length ((l.map runV).drop n)) * 24 ≤ _ by rw [List.length_append, List.length_take, List.length_drop, List.length_map, List.length_singleton]; omega) fun t3 => ?_
      (conv=>arg 2;whnf);refine w_ret1 rfl (Vle.gotL (hv t3) rfl) (List.nil_sublist _) rfl
end Go.Sv
namespace Go.Sv
open Go Go.Proofs
def outI (s : Sc) (p : Pa) (l : List Kp) (r : List Bd) (a b : Int) : Nat → List (List Bd)
  | 0 => []
  | 1 => takeI s p l r a
  | _ => takeI s p l r a ++ takeI s p l r b
theorem takeI_len (s : Sc) (p : Pa) (l : List Kp) (r : List Bd) (k : Int) : (takeI s p l r k).length ≤ 1 := by unfold takeI; split <;> simp
theorem outI_len (s : Sc) (p : Pa) (l : List Kp) (r : List Bd) (a b : Int) (i : Nat) : (outI s p l r a b i).length ≤ 2 := by
  have h1 := takeI_len s p l r a
  have h2 := takeI_len s p l r b
  unfold outI
  split
  · simp
  · omega
  · rw [List.length_append]; omega
set_option maxRecDepth 100000 in
set_option maxHeartbeats 4000000 in
theorem rtake_call (s : Sc) (hs : ScOk s) (p : Pa) (hp : RfOkP p) (l : List Kp) (hl : RfOkL l) (r : List Bd) (hr : r.length < 2 ^ 29) (hre : ∀ y ∈ r, y.elem < p.els.length) :
    PCall Tryz.prog 32 [scV s, .agg (paC p), kpsV l, runV r] (runsV (takeF s p l r)) := by
  refine scall_of (live := []) (ords := [(4, []), (5, []), (6, []), (9, []), (10, [0, 1, 2, 4, 5, 6, 7, 8, 9, 10, 3, 11, 12, 13, 14, 15])]) Tryz.func32 rfl (by kernel_rfl) (by kernel_rfl) (Nat.le_of_ble_eq_true rfl) ?_
  by_cases h0 : l = []
  · subst h0
    have ht : takeF s p [] r = [] := by rw [takeF, if_pos (.inl rfl)]
    (repeat ((conv=>arg 2;whnf);first|refine wp_it rfl ?_|refine wp_if rfl ?_))
    (conv=>arg 2;whnf);refine w_ret1 rfl (Vle.gotL (b := runsV (takeF s p [] r)) (by rw [ht]; exact Vle.nil _ _ _) rfl) (List.nil_sublist _) rfl
  · have e0 : (((l.map kpV).length : Int) == 0) = false := len_ne h0
    have w0 := len_pred (f := kpV) h0 hl.n
    by_cases h1 : r = []
    · subst h1
      have ht : takeF s p l [] = [] := by rw [takeF, if_pos (.inr rfl)]
      (conv=>arg 2;whnf);refine wp_if e0 ?_
      (repeat ((conv=>arg 2;whnf);first|refine wp_it rfl ?_|refine wp_if rfl ?_))
      (conv=>arg 2;whnf);refine w_ret1 rfl (Vle.gotL (b := runsV (takeF s p l [])) (by rw [ht]; exact Vle.nil _ _ _) rfl) (List.nil_sublist _) rfl
    · have e1 : (((r.map bdV).length : Int) == 0) = false := len_ne h1
      have w1 := len_pred (f := bdV) h1 (by omega)
      have hlast : (lastBd r).elem < p.els.length := hre _ (List.mem_of_getElem? (last_at h1))
      have hx := hl.ev (lastKp_mem h0)
      have fn := rnext_call p (lastBd r).elem hp.n (by have := hp.n; omega)
      have fga : PCall Tryz.prog 58 [scV s, .agg (paC p), kpsV l, bdsV r, i64V ((lastBd r).elem : Int), kpV (lastKp l)] (bV (goesI s p l r ((lastBd r).elem : Int) (lastKp l))) := by
        have e : goesI s p l r ((lastBd r).elem : Int) (lastKp l) = goesR s p l r (lastBd r).elem (lastKp l) := by rw [goesI, if_neg (by omega)]; rfl
        rw [e]
        exact rgoes_call s hs p hp l hl r hr hre (lastBd r).elem hlast (lastKp l) hx
      have fgb := rgoesI_call s hs p hp l hl r hr hre h1 (lastBd r).elem (lastKp l) hx
      have ht : takeF s p l r = outI s p l r ((lastBd r).elem : Int) (nextI p (lastBd r).elem) 2 := by rw [takeF, if_neg (by simp [h0, h1])]; rfl
      obtain ⟨a, ha⟩ : ∃ a : Int, a = ((lastBd r).elem : Int) := ⟨_, rfl⟩
      obtain ⟨b, hb⟩ : ∃ b : Int, b = nextI p (lastBd r).elem := ⟨_, rfl⟩
      rw [ht, ← ha, ← hb]
      rw [← ha] at fga
      rw [← hb] at fgb fn
      (conv=>arg 2;whnf);refine wp_if e0 ?_
      (conv=>arg 2;whnf);refine wp_if e1 ?_
      (conv=>arg 2;whnf);refine wp_cutR (frL [(2, kpsV l), (4, .pt (some 1) (scV s) 0), (5, .pt (some 4) (.agg (paC p)) 0), (7, .pt (some 1) (runV r) 0), (9, .sl none [] .zero)]) [] (.cons (.refl _) (.cons (.refl _) (.cons (.refl _) (.cons (.refl _) (.cons (.refl _) (.nil _)))))) (List.nil_sublist _) ?_
      (conv=>arg 2;whnf);refine wp_elem (l.length - 1) (kpV (lastKp l)) w0 (kps_at (lastKp_at h0)) (Vle.refl _) ?_
      (conv=>arg 2;whnf);refine wp_elem (r.length - 1) (bdV (lastBd r)) w1 (bds_at (last_at h1)) (Vle.refl _) ?_
      (conv=>arg 2;whnf);refine wp_allocE kpZ rfl fun q => ?_
      (conv=>arg 2;whnf);refine wp_storeE (cs := kpZ) 0 0 (kpC (lastKp l)) rfl rfl (VleL.refl _) (Nat.le_refl _) rfl (R' := [.obj q (kpC (lastKp l))]) rfl ?_
      (conv=>arg 2;whnf)
      refine wp_cutP (frL [(2, kpsV l), (4, .pt (some 1) (scV s) 0), (5, .pt (some 4) (.agg (paC p)) 0), (7, .pt (some 1) (runV r) 0), (9, .sl none [] .zero), (10, .pt (some 4) (kpV (lastKp l)) 0), (11, i64V ((lastBd r).elem : Int))]) [] [.obj q (kpC (lastKp l))] (.cons (.refl _) (.cons (.refl _) (.cons (.refl _) (.cons (.refl _) (.cons (.refl _) (.cons (.all (List.Mem.head _) rfl (by decide) (VleL.refl _)) (.cons (.refl _) (.nil _)))))))) ?_
      (conv=>arg 2;whnf);refine wp_pcall fn ?_
      (conv=>arg 2;whnf);refine wp_allocE [i64V 0, i64V 0] rfl fun c => ?_
      (conv=>arg 2;whnf);refine wp_storeE (cs := [i64V 0, i64V 0]) 0 0 [i64V a, i64V b] rfl rfl (.cons (Vle.eq (by rw [ha]; rfl)) (.cons (.refl _) .nil)) (Nat.le_refl _) rfl (R' := [.obj c [i64V a, i64V b]]) rfl ?_
      (conv=>arg 2;whnf)
      refine wp_cutP (frL [(2, kpsV l), (4, .pt (some 1) (scV s) 0), (5, .pt (some 4) (.agg (paC p)) 0), (7, .pt (some 1) (runV r) 0), (9, .sl none [] .zero), (10, .pt (some 4) (kpV (lastKp l)) 0), (12, .pt (some 2) (.agg [i64V a, i64V b]) 0)]) [] [.obj c [i64V a, i64V b]] (.cons (.refl _) (.cons (.refl _) (.cons (.refl _) (.cons (.refl _) (.cons (.refl _) (.cons (.refl _) (.cons (.all (List.Mem.head _) rfl (by decide) (VleL.refl _)) (.nil _)))))))) ?_
      clear ha hb ht fn hlast w0 w1 e0 e1
      (conv=>arg 2;whnf);refine wp_loop (fun m fr R => ∃ (i : Nat) (t : Option Nat), m = 2 - i ∧ i ≤ 2 ∧ (t = none → outI s p l r a b i = []) ∧ R = [] ++ (tokR (some 1) t ++ []) ∧ fr = frL [(2, kpsV l), (4, .pt (some 1) (scV s) 0), (5, .pt (some 4) (.agg (paC p)) 0), (7, .pt (some 1) (runV r) 0), (9, .sl (shOf (some 1) t) ((outI s p l r a b i).map runV) (tkOf t)), (10, .pt (some 4) (kpV (lastKp l)) 0), (12, .pt (some 2) (.agg [i64V a, i64V b]) 0), (13, i64V i)])
        2 _ _ (.cons (.refl _) (.cons (.refl _) (.cons (.refl _) (.cons (.refl _) (.cons (.refl _) (.cons (.refl _) (.cons (.refl _) (.cons (.refl _) (.nil _))))))))) (List.Sublist.refl _) ⟨0, none, rfl, Nat.zero_le _, fun _ => rfl, rfl, rfl⟩ ?_
      rintro m fr R ⟨i, t, rfl, hi, ht, rfl, rfl⟩
      have hcase : i = 0 ∨ i = 1 ∨ i = 2 := by omega
      have hgo : ∀ k : Int, goesI s p l r k (lastKp l) = true → takeI s p l r k = [r ++ [⟨k.toNat, (lastKp l).at_⟩]] ∧ 0 ≤ k := fun k h => by
        refine ⟨by rw [takeI, if_pos h], ?_⟩
        rw [goesI] at h
        split at h
        · cases h
        · omega
      have hst : ∀ k : Int, goesI s p l r k (lastKp l) = false → takeI s p l r k = [] := fun k h => by rw [takeI, if_neg (by rw [h]; decide)]
      have hng : ∀ k : Int, decide (k ≥ 0) = false → takeI s p l r k = [] := fun k h => hst k (by rw [goesI, if_pos (by have := of_decide_eq_false h; omega)])
      rcases hcase with rfl | rfl | rfl
      · have hnx : outI s p l r a b 1 = outI s p l r a b 0 ++ takeI s p l r a := rfl
        obtain ⟨o, ho⟩ : ∃ o, o = outI s p l r a b 0 := ⟨_, rfl⟩
        have hol : o.length ≤ 2 := by rw [ho]; exact outI_len s p l r a b 0
        rw [← ho] at hnx ht ⊢
        (repeat ((conv=>arg 2;whnf);first|refine wp_it rfl ?_|refine wp_if rfl ?_))
        (conv=>arg 2;whnf);refine wp_cutR (frL [(2, kpsV l), (4, .pt (some 1) (scV s) 0), (5, .pt (some 4) (.agg (paC p)) 0), (7, .pt (some 1) (runV r) 0), (9, .sl (shOf (some 1) t) (o.map runV) (tkOf t)), (10, .pt (some 4) (kpV (lastKp l)) 0), (12, .pt (some 2) (.agg [i64V a, i64V b]) 0), (13, i64V 0)]) ([] ++ (tokR (some 1) t ++ [])) (.cons (.refl _) (.cons (.refl _) (.cons (.refl _) (.cons (.refl _) (.cons (.refl _) (.cons (.refl _) (.cons (.refl _) (.cons (.refl _) (.nil _))))))))) (List.Sublist.refl _) ?_
        (conv=>arg 2;whnf);refine wp_need (by decide) ?_
        (conv=>arg 2;whnf);refine wp_ite (fun hk => ?_) (fun hk => ?_)
        · have hgo := hgo a
          have hst := hst a
          obtain ⟨g, hg⟩ : ∃ g, g = goesI s p l r a (lastKp l) := ⟨_, rfl⟩
          rw [← hg] at hgo hst fga
          clear hg
          (conv=>arg 2;whnf);refine wp_need (by decide) ?_
          (conv=>arg 2;whnf);refine wp_pc fga ?_
          cases g with
          | false =>
            rw [hst rfl, List.append_nil] at hnx
            have hsame : V.sl (shOf (some 1) t) (o.map runV) (tkOf t) = .sl (shOf (some 1) t) ((outI s p l r a b 1).map runV) (tkOf t) := by rw [hnx]
            (repeat ((conv=>arg 2;whnf);first|refine wp_it rfl ?_|refine wp_if rfl ?_))
            (conv=>arg 2;whnf)
            exact wp_leaf (loop_next (2 - 1) _ ([] ++ (tokR (some 1) t ++ [])) (by decide) (.cons (.refl _) (.cons (.refl _) (.cons (.refl _) (.cons (.refl _) (.cons (Vle.of (.sl (shOf (some 1) t) (o.map runV) (tkOf t)) rfl hsame) (.cons (.refl _) (.cons (.refl _) (.cons (.refl _) (.nil _))))))))) (List.Sublist.refl _) ⟨1, t, rfl, by decide, fun h => by rw [hnx]; exact ht h, rfl, rfl⟩)
          | true =>
            obtain ⟨hgo, hk0⟩ := hgo rfl
            rw [hgo] at hnx
            have hkn : ((a.toNat : Nat) : Int) = a := by omega
            have hel : Vle (bdV ⟨a.toNat, (lastKp l).at_⟩) (bdV ⟨a.toNat, (lastKp l).at_⟩) := Vle.refl _
            have hbd : V.agg [i64V a, i64V (lastKp l).at_] = bdV ⟨a.toNat, (lastKp l).at_⟩ := by show _ = V.agg [i64V ((a.toNat : Nat) : Int), i64V (lastKp l).at_]; rw [hkn]
            have hv : ∀ t', V.sl (some 1) (o.map runV ++ [runV (r ++ [⟨a.toNat, (lastKp l).at_⟩])]) (.t t') = .sl (shOf (some 1) (some t')) ((outI s p l r a b 1).map runV) (tkOf (some t')) := fun t' => by rw [hnx, List.map_append]; rfl
            (repeat ((conv=>arg 2;whnf);first|refine wp_it rfl ?_|refine wp_if rfl ?_))
            (conv=>arg 2;whnf);refine wp_cutR (frL [(2, kpsV l), (4, .pt (some 1) (scV s) 0), (5, .pt (some 4) (.agg (paC p)) 0), (7, .pt (some 1) (runV r) 0), (9, .sl (shOf (some 1) t) (o.map runV) (tkOf t)), (10, .pt (some 4) (kpV (lastKp l)) 0), (12, .pt (some 2) (.agg [i64V a, i64V b]) 0), (13, i64V 0)]) ([] ++ (tokR (some 1) t ++ [])) (.cons (.refl _) (.cons (.refl _) (.cons (.refl _) (.cons (.refl _) (.cons (.refl _) (.cons (.refl _) (.cons (.refl _) (.cons (.refl _) (.nil _))))))))) (List.Sublist.refl _) ?_
            (conv=>arg 2;whnf);refine wp_need (by decide) ?_
            (conv=>arg 2;whnf);refine wp_append_nil (okE_bd r) (show _ * 16 ≤ _ by rw [List.length_map]; omega) fun t1 => ?_
            (conv=>arg 2;whnf);refine wp_append_V (VleL.cons (Vle.eq hbd) .nil) (okE_of rfl rfl) ?_
            refine wp_append_tok (tokR (some 1) t).length (by cases t <;> rfl) (okE_bd [⟨a.toNat, (lastKp l).at_⟩]) (show (_ + 1) * 16 ≤ _ by rw [List.length_map]; omega) fun t2 => ?_
            (conv=>arg 2;whnf)
            refine wp_append_V (VleL.cons (Vle.agg (.cons (bds_app r ⟨a.toNat, (lastKp l).at_⟩ t2) .nil)) .nil) (okE_of rfl rfl) ?_
            refine wp_res (R' := [] ++ (tokR (some 1) t ++ [.tok t2 (some 2)])) (by cases t <;> rfl) ?_
            refine wp_append_x (A := []) (B := [.tok t2 (some 2)]) (sh := some 1) (t := t) (xs := o.map runV) (ys := [runV (r ++ [⟨a.toNat, (lastKp l).at_⟩])]) (fun h => by rw [ht h]; rfl) (okE_run [_]) (show (_ + 1) * 24 ≤ _ by rw [List.length_map]; omega) (fun t' S' hS => ?_)
            (conv=>arg 2;whnf)
            exact wp_leaf (loop_next (2 - 1) _ ([] ++ (tokR (some 1) (some t') ++ [])) (by decide) (.cons (.refl _) (.cons (.refl _) (.cons (.refl _) (.cons (.refl _) (.cons (Vle.of (.sl (some 1) (o.map runV ++ [runV (r ++ [⟨a.toNat, (lastKp l).at_⟩])]) (.t t')) rfl (hv t')) (.cons (.refl _) (.cons (.refl _) (.cons (.refl _) (.nil _))))))))) (List.Sublist.append (List.Sublist.refl _) (by simpa [tokR] using hS)) ⟨1, some t', rfl, by decide, (fun e => by cases e), rfl, rfl⟩)
        · rw [hng a hk, List.append_nil] at hnx
          have hsame : V.sl (shOf (some 1) t) (o.map runV) (tkOf t) = .sl (shOf (some 1) t) ((outI s p l r a b 1).map runV) (tkOf t) := by rw [hnx]
          (repeat ((conv=>arg 2;whnf);first|refine wp_it rfl ?_|refine wp_if rfl ?_))
          (conv=>arg 2;whnf)
          exact wp_leaf (loop_next (2 - 1) _ ([] ++ (tokR (some 1) t ++ [])) (by decide) (.cons (.refl _) (.cons (.refl _) (.cons (.refl _) (.cons (.refl _) (.cons (Vle.of (.sl (shOf (some 1) t) (o.map runV) (tkOf t)) rfl hsame) (.cons (.refl _) (.cons (.refl _) (.cons (.refl _) (.nil _))))))))) (List.Sublist.refl _) ⟨1, t, rfl, by decide, fun h => by rw [hnx]; exact ht h, rfl, rfl⟩)
      · have hnx : outI s p l r a b 2 = outI s p l r a b 1 ++ takeI s p l r b := rfl
        obtain ⟨o, ho⟩ : ∃ o, o = outI s p l r a b 1 := ⟨_, rfl⟩
        have hol : o.length ≤ 2 := by rw [ho]; exact outI_len s p l r a b 1
        rw [← ho] at hnx ht ⊢
        (repeat ((conv=>arg 2;whnf);first|refine wp_it rfl ?_|refine wp_if rfl ?_))
        (conv=>arg 2;whnf);refine wp_cutR (frL [(2, kpsV l), (4, .pt (some 1) (scV s) 0), (5, .pt (some 4) (.agg (paC p)) 0), (7, .pt (some 1) (runV r) 0), (9, .sl (shOf (some 1) t) (o.map runV) (tkOf t)), (10, .pt (some 4) (kpV (lastKp l)) 0), (12, .pt (some 2) (.agg [i64V a, i64V b]) 0), (13, i64V 1)]) ([] ++ (tokR (some 1) t ++ [])) (.cons (.refl _) (.cons (.refl _) (.cons (.refl _) (.cons (.refl _) (.cons (.refl _) (.cons (.refl _) (.cons (.refl _) (.cons (.refl _) (.nil _))))))))) (List.Sublist.refl _) ?_
        (conv=>arg 2;whnf);refine wp_need (by decide) ?_
        (conv=>arg 2;whnf);refine wp_ite (fun hk => ?_) (fun hk => ?_)
        · have hgo := hgo b
          have hst := hst b
          obtain ⟨g, hg⟩ : ∃ g, g = goesI s p l r b (lastKp l) := ⟨_, rfl⟩
          rw [← hg] at hgo hst fgb
          clear hg
          (conv=>arg 2;whnf);refine wp_need (by decide) ?_
          (conv=>arg 2;whnf);refine wp_pc fgb ?_
          cases g with
          | false =>
            rw [hst rfl, List.append_nil] at hnx
            have hsame : V.sl (shOf (some 1) t) (o.map runV) (tkOf t) = .sl (shOf (some 1) t) ((outI s p l r a b 2).map runV) (tkOf t) := by rw [hnx]
            (repeat ((conv=>arg 2;whnf);first|refine wp_it rfl ?_|refine wp_if rfl ?_))
            (conv=>arg 2;whnf)
            exact wp_leaf (loop_next (2 - 2) _ ([] ++ (tokR (some 1) t ++ [])) (by decide) (.cons (.refl _) (.cons (.refl _) (.cons (.refl _) (.cons (.refl _) (.cons (Vle.of (.sl (shOf (some 1) t) (o.map runV) (tkOf t)) rfl hsame) (.cons (.refl _) (.cons (.refl _) (.cons (.refl _) (.nil _))))))))) (List.Sublist.refl _) ⟨2, t, rfl, by decide, fun h => by rw [hnx]; exact ht h, rfl, rfl⟩)
          | true =>
            obtain ⟨hgo, hk0⟩ := hgo rfl
            rw [hgo] at hnx
            have hkn : ((b.toNat : Nat) : Int) = b := by omega
            have hel : Vle (bdV ⟨b.toNat, (lastKp l).at_⟩) (bdV ⟨b.toNat, (lastKp l).at_⟩) := Vle.refl _
            have hbd : V.agg [i64V b, i64V (lastKp l).at_] = bdV ⟨b.toNat, (lastKp l).at_⟩ := by show _ = V.agg [i64V ((b.toNat : Nat) : Int), i64V (lastKp l).at_]; rw [hkn]
            have hv : ∀ t', V.sl (some 1) (o.map runV ++ [runV (r ++ [⟨b.toNat, (lastKp l).at_⟩])]) (.t t') = .sl (shOf (some 1) (some t')) ((outI s p l r a b 2).map runV) (tkOf (some t')) := fun t' => by rw [hnx, List.map_append]; rfl
            (repeat ((conv=>arg 2;whnf);first|refine wp_it rfl ?_|refine wp_if rfl ?_))
            (conv=>arg 2;whnf);refine wp_cutR (frL [(2, kpsV l), (4, .pt (some 1) (scV s) 0), (5, .pt (some 4) (.agg (paC p)) 0), (7, .pt (some 1) (runV r) 0), (9, .sl (shOf (some 1) t) (o.map runV) (tkOf t)), (10, .pt (some 4) (kpV (lastKp l)) 0), (12, .pt (some 2) (.agg [i64V a, i64V b]) 0), (13, i64V 1)]) ([] ++ (tokR (some 1) t ++ [])) (.cons (.refl _) (.cons (.refl _) (.cons (.refl _) (.cons (.refl _) (.cons (.refl _) (.cons (.refl _) (.cons (.refl _) (.cons (.refl _) (.nil _))))))))) (List.Sublist.refl _) ?_
            (conv=>arg 2;whnf);refine wp_need (by decide) ?_
            (conv=>arg 2;whnf);refine wp_append_nil (okE_bd r) (show _ * 16 ≤ _ by rw [List.length_map]; omega) fun t1 => ?_
            (conv=>arg 2;whnf);refine wp_append_V (VleL.cons (Vle.eq hbd) .nil) (okE_of rfl rfl) ?_
            refine wp_append_tok (tokR (some 1) t).length (by cases t <;> rfl) (okE_bd [⟨b.toNat, (lastKp l).at_⟩]) (show (_ + 1) * 16 ≤ _ by rw [List.length_map]; omega) fun t2 => ?_
            (conv=>arg 2;whnf)
            refine wp_append_V (VleL.cons (Vle.agg (.cons (bds_app r ⟨b.toNat, (lastKp l).at_⟩ t2) .nil)) .nil) (okE_of rfl rfl) ?_
            refine wp_res (R' := [] ++ (tokR (some 1) t ++ [.tok t2 (some 2)])) (by cases t <;> rfl) ?_
            refine wp_append_x (A := []) (B := [.tok t2 (some 2)]) (sh := some 1) (t := t) (xs := o.map runV) (ys := [runV (r ++ [⟨b.toNat, (lastKp l).at_⟩])]) (fun h => by rw [ht h]; rfl) (okE_run [_]) (show (_ + 1) * 24 ≤ _ by rw [List.length_map]; omega) (fun t' S' hS => ?_)
            (conv=>arg 2;whnf)
            exact wp_leaf (loop_next (2 - 2) _ ([] ++ (tokR (some 1) (some t') ++ [])) (by decide) (.cons (.refl _) (.cons (.refl _) (.cons (.refl _) (.cons (.refl _) (.cons (Vle.of (.sl (some 1) (o.map runV ++ [runV (r ++ [⟨b.toNat, (lastKp l).at_⟩])]) (.t t')) rfl (hv t')) (.cons (.refl _) (.cons (.refl _) (.cons (.refl _) (.nil _))))))))) (List.Sublist.append (List.Sublist.refl _) (by simpa [tokR] using hS)) ⟨2, some t', rfl, by decide, (fun e => by cases e), rfl, rfl⟩)
        · rw [hng b hk, List.append_nil] at hnx
          have hsame : V.sl (shOf (some 1) t) (o.map runV) (tkOf t) = .sl (shOf (some 1) t) ((outI s p l r a b 2).map runV) (tkOf t) := by rw [hnx]
          (repeat ((conv=>arg 2;whnf);first|refine wp_it rfl ?_|refine wp_if rfl ?_))
          (conv=>arg 2;whnf)
          exact wp_leaf (loop_next (2 - 2) _ ([] ++ (tokR (some 1) t ++ [])) (by decide) (.cons (.refl _) (.cons (.refl _) (.cons (.refl _) (.cons (.refl _) (.cons (Vle.of (.sl (shOf (some 1) t) (o.map runV) (tkOf t)) rfl hsame) (.cons (.refl _) (.cons (.refl _) (.cons (.refl _) (.nil _))))))))) (List.Sublist.refl _) ⟨2, t, rfl, by decide, fun h => by rw [hnx]; exact ht h, rfl, rfl⟩)
      · have hv : Vle (.sl (shOf (some 1) t) ((outI s p l r a b 2).map runV) (tkOf t)) (runsV (outI s p l r a b 2)) := by
          cases t with
          | none => rw [ht rfl]; exact Vle.nil _ _ _
          | some t => exact Vle.sl _ _ _
        (repeat ((conv=>arg 2;whnf);first|refine wp_it rfl ?_|refine wp_if rfl ?_))
        (conv=>arg 2;whnf)
        refine wp_leaf (loop_exit ?_)
        (conv=>arg 2;whnf);refine w_ret1 rfl (Vle.gotL hv rfl) (List.nil_sublist _) rfl
end Go.Sv
