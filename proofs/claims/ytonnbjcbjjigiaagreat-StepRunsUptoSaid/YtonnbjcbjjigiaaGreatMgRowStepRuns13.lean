/- Parts of the proof, one behind the other. -/
import Derived.Test.YtonnbjcbjjigiaaGreatMgRowStepRuns12
import Derived.Test.YtonnbjcbjjigiaaGreatMgRowStepRuns10
import Derived.Test.YtonnbjcbjjigiaaGreatMgRowStepRuns11
import Derived.Test.YtonnbjcbjjigiaaGreatMgRowStepRuns5
namespace Go.Sv
open Go Go.Proofs
def chkEl (s : Sc) (seen : List El) (x : El) : Int :=
  if x.ty.all (fun t => (findT s t).isSome) then
    (if x.cond.op ≠ 0 then (if (kindTop s (seen ++ [x]) x.cond).2 ≠ 0 then (kindTop s (seen ++ [x]) x.cond).2 else if (kindTop s (seen ++ [x]) x.cond).1 ≠ 3 then 14 else 0) else 0)
  else 13
def seenE (l : List El) (i : Nat) : List El := (l.take i).filter fun e => !e.nt
def chkAt (s : Sc) (l : List El) (i : Nat) : Int := chkEl s (seenE l i) (l.getD i el0)
def chkEls (s : Sc) (l : List El) : Int := (((List.range l.length).map (chkAt s l)).find? fun e => decide (e ≠ 0)).getD 0
def by1 (s : Sc) (p : Pa) : Bool := p.els.all fun x => x.ty.all fun t => decide (0 ≤ fieldI ((findT s t).getD ty0) p.by_)
def by2 (s : Sc) (p : Pa) : Bool := (List.range p.els.length).all fun i => decide ((fieldKindE s (elAt p i) p.by_).2 = 0) && (decide (i = 0) || decide ((fieldKindE s (elAt p i) p.by_).1 = (fieldKindE s (elAt p (i - 1)) p.by_).1))
def chkE (s : Sc) (p : Pa) : Int :=
  if isPaB p = false then 10 else if chkEls s p.els ≠ 0 then chkEls s p.els else if p.by_ = [] then 0 else if by1 s p = false then 13 else if by2 s p = false then 14 else 0
theorem chk_hit {s : Sc} {l : List El} {n : Nat} {v : Int} (h : (List.range n).all (fun i => decide (chkAt s l i = 0)) = true) (hn : n < l.length) (hv : chkAt s l n = v) (h0 : v ≠ 0) : chkEls s l = v := by
  unfold chkEls
  have h1 : ((List.range l.length).map (chkAt s l))[n]? = some v := by rw [List.getElem?_map, List.getElem?_range hn]; simp [hv]
  rw [find_hit (n := n) (y := v) ?_ h1 (decide_eq_true h0)]
  · rfl
  · rw [List.any_eq_false]
    intro e he
    rw [← List.map_take, List.mem_map] at he
    obtain ⟨i, hi, rfl⟩ := he
    have hi' : i < n := by
      rw [List.take_range, List.mem_range] at hi; omega
    have := List.all_eq_true.1 h i (List.mem_range.2 hi')
    have := of_decide_eq_true this
    simp [this]
theorem chk_none {s : Sc} {l : List El} (h : (List.range l.length).all (fun i => decide (chkAt s l i = 0)) = true) : chkEls s l = 0 := by
  unfold chkEls
  rw [find_none]
  · rfl
  · rw [List.any_eq_false]
    intro e he
    rw [List.mem_map] at he
    obtain ⟨i, hi, rfl⟩ := he
    have := of_decide_eq_true (List.all_eq_true.1 h i hi)
    simp [this]
theorem okE_el (l : List El) : ∀ y ∈ l.map elV, okE (some 11) y := by
  intro y hy
  obtain ⟨b, _, rfl⟩ := List.mem_map.1 hy
  refine ⟨_, rfl, rfl, fun c hc => ?_⟩
  have : c = str b.al ∨ c = .sl none (b.ty.map str) .no ∨ c = bV b.plus ∨ c = bV b.nt ∨ c = i64V b.cond.op ∨ c = i64V b.cond.val.kind ∨ c = i64V b.cond.val.n ∨ c = str b.cond.val.s ∨ c = str b.cond.al ∨ c = str b.cond.fd ∨ c = exsV b.cond.kids := by
    simpa [elC, exC] using hc
  rcases this with h | h | h | h | h | h | h | h | h | h | h <;> subst h <;> rfl
theorem els_app (xs : List El) (y : El) (t : Nat) : Vle (.sl (some 11) (xs.map elV ++ [elV y]) (.t t)) (elsV (xs ++ [y])) := by
  rw [elsV, List.map_append]; exact Vle.sl _ _ _
theorem seen_next {l : List El} {n : Nat} {x : El} (h : l[n]? = some x) : seenE l (n + 1) = if x.nt then seenE l n else seenE l n ++ [x] := by
  rw [seenE, List.take_add_one, h, List.filter_append]
  cases hx : x.nt <;> simp [hx, seenE]
theorem seen_len (l : List El) (n : Nat) : (seenE l n).length ≤ l.length := Nat.le_trans (List.length_filter_le _ _) (by rw [List.length_take]; omega)
theorem seen_mem {l : List El} {n : Nat} {e : El} (h : e ∈ seenE l n) : e ∈ l := List.mem_of_mem_take (List.mem_filter.1 h).1
theorem findD_call (s : Sc) (hs : s.length < 2 ^ 60) (t : List UInt8) : ∃ ok, PCall Tryz.prog 22 [scV s, str t] (.tup [tyV ((findT s t).getD ty0), bV ok]) := by
  have fa := rfind_call s hs t
  cases h : findT s t with
  | none => rw [h] at fa; exact ⟨false, fa⟩
  | some e => rw [h] at fa; exact ⟨true, fa⟩
set_option maxRecDepth 100000 in
set_option maxHeartbeats 8000000 in
theorem rcheck_call (s : Sc) (hs : ScOk s) (p : Pa) (hp : PaBd p) : PCall Tryz.prog 9 [scV s, .agg (paC p)] (i64V (chkE s p)) := by
  have f0 := refpattern_call p hp
  have hpl : p.els.length < 2 ^ 40 := hp.1
  have htl : ∀ e ∈ p.els, e.ty.length < 2 ^ 60 := fun e he => by have := (hp.2.1 e he).2.1; omega
  refine scall_of (live := []) (ords := [(3, []), (8, []), (14, [0, 2, 3, 1, 4, 5]), (15, []), (21, []), (23, []), (33, []), (35, [])]) Tryz.func9 rfl (by kernel_rfl) (by kernel_rfl) (Nat.le_of_ble_eq_true rfl) ?_
  cases hip : isPaB p with
  | false =>
    rw [hip] at f0
    rw [show chkE s p = 10 by rw [chkE, if_pos hip]]
    (conv=>arg 2;whnf);refine wp_pcall f0 ?_
    (repeat ((conv=>arg 2;whnf);first|refine wp_it rfl ?_|refine wp_if rfl ?_))
    (conv=>arg 2;whnf);refine w_retp rfl (Vle.refl _)
  | true =>
    have h5 : p.els.length ≤ 5 := by
      have hip2 := hip
      rw [isPaB, Bool.and_eq_true, Bool.and_eq_true] at hip2
      exact of_decide_eq_true hip2.2.1
    rw [hip] at f0
    have hr0 : chkE s p = if chkEls s p.els ≠ 0 then chkEls s p.els else if p.by_ = [] then 0 else if by1 s p = false then 13 else if by2 s p = false then 14 else 0 := by rw [chkE, if_neg (by rw [hip]; decide)]
    (conv=>arg 2;whnf);refine wp_pcall f0 ?_
    (repeat ((conv=>arg 2;whnf);first|refine wp_it rfl ?_|refine wp_if rfl ?_))
    refine wp_cutR (frL [(2, .pt (some 1) (scV s) 0), (3, .pt (some 4) (.agg (paC p)) 0)]) [] (.cons (.refl _) (.cons (.refl _) (.nil _))) (List.nil_sublist _) ?_
    (conv=>arg 2;whnf);refine wp_loop (fun m fr R => ∃ n : Nat, m = p.els.length - n ∧ n ≤ p.els.length ∧ R = [] ∧ (List.range n).all (fun i => decide (chkAt s p.els i = 0)) = true ∧ fr = frL [(2, .pt (some 1) (scV s) 0), (3, .pt (some 4) (.agg (paC p)) 0), (5, elsV (seenE p.els n)), (6, i64V n)])
      p.els.length _ _ (.cons (.refl _) (.cons (.refl _) (.cons (Vle.gotL (b := elsV (seenE p.els 0)) (Vle.nil none (some 11) .zero) rfl) (.cons (.refl _) (.nil _))))) (List.Sublist.refl _) ⟨0, rfl, Nat.zero_le _, rfl, rfl, rfl⟩ ?_
    rintro m fr R ⟨n, rfl, hn, rfl, ha, rfl⟩
    (conv=>arg 2;whnf);refine wp_ite (fun h => ?_) (fun h => ?_)
    · have h : n < p.els.length := by
        have := of_decide_eq_true h
        rw [List.length_map] at this; omega
      obtain ⟨x, hx⟩ : ∃ x, p.els[n]? = some x := ⟨_, List.getElem?_eq_getElem h⟩
      have hxm := List.mem_of_getElem? hx
      have hxt := htl x hxm
      have hsl := seen_len p.els n
      have hck : chkAt s p.els n = chkEl s (seenE p.els n) x := by rw [chkAt, getD_at hx]
      have hstop : ∀ v, chkAt s p.els n = v → v ≠ 0 → i64V v = i64V (chkE s p) := fun v e h0 => by
        have := chk_hit ha h e h0
        rw [hr0, if_pos (by rw [this]; exact h0), this]
      have hnext : chkAt s p.els n = 0 → (List.range (n + 1)).all (fun i => decide (chkAt s p.els i = 0)) = true := fun e => rng_next ha (decide_eq_true e)
      have hsn := seen_next hx
      obtain ⟨sn, hsnE⟩ : ∃ sn, sn = seenE p.els n := ⟨_, rfl⟩
      rw [← hsnE] at hck hsn hsl ⊢
      (conv=>arg 2;whnf);refine wp_elem n (elV x) rfl (els_at2 hx) (Vle.refl _) ?_
      (conv=>arg 2;whnf);refine wp_allocE elZ rfl fun q => ?_
      (conv=>arg 2;whnf);refine wp_storeE (cs := elZ) 0 0 (elC x) rfl rfl (VleL.refl _) (Nat.le_refl _) rfl (R' := [.obj q (elC x)]) rfl ?_
      (conv=>arg 2;whnf)
      refine wp_cutP (frL [(2, .pt (some 1) (scV s) 0), (3, .pt (some 4) (.agg (paC p)) 0), (5, elsV sn), (6, i64V n), (7, .pt (some 11) (elV x) 0)]) [] [.obj q (elC x)] (.cons (.refl _) (.cons (.refl _) (.cons (.refl _) (.cons (.refl _) (.cons (.all (List.Mem.head _) rfl (by decide) (VleL.refl _)) (.nil _)))))) ?_
      (conv=>arg 2;whnf);refine wp_loop (fun m fr R => ∃ k : Nat, m = x.ty.length - k ∧ k ≤ x.ty.length ∧ R = [] ∧ (x.ty.take k).all (fun t => (findT s t).isSome) = true ∧ fr = frL [(2, .pt (some 1) (scV s) 0), (3, .pt (some 4) (.agg (paC p)) 0), (5, elsV sn), (6, i64V n), (7, .pt (some 11) (elV x) 0), (8, i64V k)])
        x.ty.length _ _ (.cons (.refl _) (.cons (.refl _) (.cons (.refl _) (.cons (.refl _) (.cons (.refl _) (.cons (.refl _) (.nil _))))))) (List.Sublist.refl _) ⟨0, rfl, Nat.zero_le _, rfl, rfl, rfl⟩ ?_
      rintro m fr R ⟨k, rfl, hk, rfl, hak, rfl⟩
      (conv=>arg 2;whnf);refine wp_ite (fun h1 => ?_) (fun h1 => ?_)
      · have h1 : k < x.ty.length := by
          have := of_decide_eq_true h1
          rw [List.length_map] at this; omega
        obtain ⟨t, ht⟩ : ∃ t, x.ty[k]? = some t := ⟨_, List.getElem?_eq_getElem h1⟩
        have f1 := rfind_call s hs.1 t
        cases hf : findT s t with
        | none =>
          rw [hf] at f1
          have h13 := hstop 13 (by rw [hck, chkEl, show (x.ty.all fun t => (findT s t).isSome) = false from all_miss ht (by rw [hf]; rfl)]; rfl) (by decide)
          (conv=>arg 2;whnf);refine wp_elem k (str t) rfl (strs_at ht) (Vle.refl _) ?_
          (conv=>arg 2;whnf);refine wp_pc f1 ?_
          (conv=>arg 2;whnf);refine wp_allocE tyZ rfl fun d => ?_
          (conv=>arg 2;whnf);refine wp_storeE (cs := tyZ) 0 0 (tyC ty0) rfl rfl (VleL.refl _) (Nat.le_refl _) rfl (R' := [.obj d (tyC ty0)]) rfl ?_
          (repeat ((conv=>arg 2;whnf);first|refine wp_it rfl ?_|refine wp_if rfl ?_))
          (conv=>arg 2;whnf)
          refine wp_leaf (loop_ret (loop_ret ?_))
          (conv=>arg 2;whnf);refine w_retp rfl (Vle.eq h13)
        | some ty =>
          rw [hf] at f1
          have hn' : (x.ty.take (k + 1)).all (fun t => (findT s t).isSome) = true := all_next hak ht (by rw [hf]; rfl)
          (conv=>arg 2;whnf);refine wp_elem k (str t) rfl (strs_at ht) (Vle.refl _) ?_
          (conv=>arg 2;whnf);refine wp_pc f1 ?_
          (conv=>arg 2;whnf);refine wp_allocE tyZ rfl fun d => ?_
          (conv=>arg 2;whnf);refine wp_storeE (cs := tyZ) 0 0 (tyC ty) rfl rfl (VleL.refl _) (Nat.le_refl _) rfl (R' := [.obj d (tyC ty)]) rfl ?_
          (repeat ((conv=>arg 2;whnf);first|refine wp_it rfl ?_|refine wp_if rfl ?_))
          (conv=>arg 2;whnf)
          exact wp_leaf (loop_next (x.ty.length - (k + 1)) _ [] (by omega) (.cons (.refl _) (.cons (.refl _) (.cons (.refl _) (.cons (.refl _) (.cons (.refl _) (.cons (Vle.inc k rfl (by omega)) (.nil _))))))) (List.nil_sublist _) ⟨k + 1, rfl, h1, rfl, hn', rfl⟩)
      · have h1 : k = x.ty.length := by
          have := of_decide_eq_false h1
          rw [List.length_map] at this; omega
        rw [h1, List.take_length] at hak
        have hck : chkAt s p.els n = (if x.cond.op ≠ 0 then (if (kindTop s (sn ++ [x]) x.cond).2 ≠ 0 then (kindTop s (sn ++ [x]) x.cond).2 else if (kindTop s (sn ++ [x]) x.cond).1 ≠ 3 then 14 else 0) else 0) := by rw [hck, chkEl, if_pos hak]
        have fk := rkindtop_call s hs (sn ++ [x]) (by rw [List.length_append, List.length_singleton]; omega) (fun e he => by
          rcases List.mem_append.1 he with he | he
          · rw [hsnE] at he; exact htl e (seen_mem he)
          · rw [List.mem_singleton.1 he]; exact hxt) x.cond (hp.2.1 x hxm).2.2.2
        obtain ⟨a, b, hab⟩ : ∃ a b, kindTop s (sn ++ [x]) x.cond = (a, b) := ⟨_, _, rfl⟩
        rw [hab] at fk hck
        have hlt : p.els.length - (n + 1) < p.els.length - n := by omega
        have hn62 : n < 2 ^ 62 := by omega
        clear hab hak h1 hk
        (conv=>arg 2;whnf)
        refine wp_leaf (loop_exit ?_)
        refine wp_cutR (frL [(2, .pt (some 1) (scV s) 0), (3, .pt (some 4) (.agg (paC p)) 0), (5, elsV sn), (6, i64V n), (7, .pt (some 11) (elV x) 0)]) [] (.cons (.refl _) (.cons (.refl _) (.cons (.refl _) (.cons (.refl _) (.cons (.refl _) (.nil _)))))) (List.nil_sublist _) ?_
        (conv=>arg 2;whnf);refine wp_append_nil (okE_el sn) (show List.length (sn.map elV) * 144 ≤ _ by rw [List.length_map]; omega) fun t1 => ?_
        (conv=>arg 2;whnf);refine wp_append_tok 0 rfl (okE_el [x]) (show (List.length (sn.map elV) + 1) * 144 ≤ _ by rw [List.length_map]; omega) fun t2 => ?_
        (conv=>arg 2;whnf)
        refine wp_cutR (frL [(2, .pt (some 1) (scV s) 0), (3, .pt (some 4) (.agg (paC p)) 0), (5, elsV sn), (6, i64V n), (7, .pt (some 11) (elV x) 0), (11, elsV (sn ++ [x]))]) [] (.cons (.refl _) (.cons (.refl _) (.cons (.refl _) (.cons (.refl _) (.cons (.refl _) (.cons (Vle.gotL (els_app sn x t2) rfl) (.nil _))))))) (List.nil_sublist _) ?_
        apply @wp_joinT _ (chkAt s p.els n = 0 → _)
        case h1 =>
          intro rest
          (conv=>arg 2;whnf);refine wp_ite (fun h2 => ?_) (fun h2 => ?_)
          · have h2 : x.cond.op ≠ 0 := bne_iff_ne.1 h2
            rw [if_pos h2] at hck
            (conv=>arg 2;whnf);refine wp_pcall fk ?_
            (conv=>arg 2;whnf);refine wp_ite (fun h3 => ?_) (fun h3 => ?_)
            · have h3 : b ≠ 0 := bne_iff_ne.1 h3
              have hv := hstop b (hck.trans (if_pos h3)) h3
              (conv=>arg 2;whnf)
              refine wp_leaf (loop_ret ?_)
              (conv=>arg 2;whnf);refine w_retp rfl (Vle.eq hv)
            · have h3 : ¬ b ≠ 0 := fun e => e (bne_eq_false_iff_eq.1 h3)
              (conv=>arg 2;whnf);refine wp_ite (fun h4 => ?_) (fun h4 => ?_)
              · have h4 : a ≠ 3 := bne_iff_ne.1 h4
                have hv := hstop 14 (hck.trans ((if_neg h3).trans (if_pos h4))) (by decide)
                (conv=>arg 2;whnf)
                refine wp_leaf (loop_ret ?_)
                (conv=>arg 2;whnf);refine w_retp rfl (Vle.eq hv)
              · have h4 : ¬ a ≠ 3 := fun e => e (bne_eq_false_iff_eq.1 h4)
                (conv=>arg 2;whnf)
                exact wp_cutR (frL [(2, .pt (some 1) (scV s) 0), (3, .pt (some 4) (.agg (paC p)) 0), (5, elsV sn), (6, i64V n), (7, .pt (some 11) (elV x) 0), (11, elsV (sn ++ [x]))]) [] (.cons (.refl _) (.cons (.refl _) (.cons (.refl _) (.cons (.refl _) (.cons (.refl _) (.cons (.refl _) (.nil _))))))) (List.nil_sublist _) (rest (hck.trans ((if_neg h3).trans (if_neg h4))))
          · have h2 : ¬ x.cond.op ≠ 0 := fun e => e (bne_eq_false_iff_eq.1 h2)
            (conv=>arg 2;whnf)
            exact wp_cutR (frL [(2, .pt (some 1) (scV s) 0), (3, .pt (some 4) (.agg (paC p)) 0), (5, elsV sn), (6, i64V n), (7, .pt (some 11) (elV x) 0), (11, elsV (sn ++ [x]))]) [] (.cons (.refl _) (.cons (.refl _) (.cons (.refl _) (.cons (.refl _) (.cons (.refl _) (.cons (.refl _) (.nil _))))))) (List.nil_sublist _) (rest (hck.trans (if_neg h2)))
        case rest =>
          intro h0
          have hn' := hnext h0
          (conv=>arg 2;whnf);refine wp_ite (fun h5 => ?_) (fun h5 => ?_)
          · have h5 : x.nt = false := by simpa using h5
            rw [h5, if_neg (by decide)] at hsn
            (conv=>arg 2;whnf)
            exact wp_leaf (loop_next (p.els.length - (n + 1)) _ [] hlt (.cons (.refl _) (.cons (.refl _) (.cons (Vle.of (elsV (sn ++ [x])) rfl (congrArg elsV hsn.symm)) (.cons (Vle.inc n rfl hn62) (.nil _))))) (List.nil_sublist _) ⟨n + 1, rfl, h, rfl, hn', rfl⟩)
          · have h5 : x.nt = true := by simpa using h5
            rw [h5, if_pos rfl] at hsn
            (conv=>arg 2;whnf)
            exact wp_leaf (loop_next (p.els.length - (n + 1)) _ [] hlt (.cons (.refl _) (.cons (.refl _) (.cons (Vle.of (elsV sn) rfl (congrArg elsV hsn.symm)) (.cons (Vle.inc n rfl hn62) (.nil _))))) (List.nil_sublist _) ⟨n + 1, rfl, h, rfl, hn', rfl⟩)
    · have h : n = p.els.length := by
        have := of_decide_eq_false h
        rw [List.length_map] at this; omega
      rw [h] at ha
      rw [if_neg (by rw [chk_none ha]; decide)] at hr0
      clear h hn ha
      (conv=>arg 2;whnf)
      refine wp_leaf (loop_exit ?_)
      refine wp_cutR (frL [(2, .pt (some 1) (scV s) 0), (3, .pt (some 4) (.agg (paC p)) 0)]) [] (.cons (.refl _) (.cons (.refl _) (.nil _))) (List.nil_sublist _) ?_
      (conv=>arg 2;whnf);refine wp_ite (fun hby => ?_) (fun hby => ?_)
      · have hby : ((S p.by_).toList == (S []).toList) = true := hby
        rw [strEq] at hby
        rw [if_pos (of_decide_eq_true hby)] at hr0
        (conv=>arg 2;whnf);refine w_retp rfl (Vle.eq (congrArg i64V hr0.symm))
      have hby : ((S p.by_).toList == (S []).toList) = false := hby
      rw [strEq] at hby
      rw [if_neg (of_decide_eq_false hby)] at hr0
      clear hby
      (conv=>arg 2;whnf);refine wp_loop (fun m fr R => ∃ n : Nat, m = p.els.length - n ∧ n ≤ p.els.length ∧ R = [] ∧ (p.els.take n).all (fun x => x.ty.all fun t => decide (0 ≤ fieldI ((findT s t).getD ty0) p.by_)) = true ∧ fr = frL [(2, .pt (some 1) (scV s) 0), (3, .pt (some 4) (.agg (paC p)) 0), (14, i64V 0), (15, i64V n)])
        p.els.length _ _ (.cons (.refl _) (.cons (.refl _) (.cons (.refl _) (.cons (.refl _) (.nil _))))) (List.Sublist.refl _) ⟨0, rfl, Nat.zero_le _, rfl, rfl, rfl⟩ ?_
      rintro m fr R ⟨n, rfl, hn, rfl, ha, rfl⟩
      (conv=>arg 2;whnf);refine wp_ite (fun h => ?_) (fun h => ?_)
      · have h : n < p.els.length := by
          have := of_decide_eq_true h
          rw [List.length_map] at this; omega
        obtain ⟨x, hx⟩ : ∃ x, p.els[n]? = some x := ⟨_, List.getElem?_eq_getElem h⟩
        have hxt := htl x (List.mem_of_getElem? hx)
        have hmiss : (x.ty.all fun t => decide (0 ≤ fieldI ((findT s t).getD ty0) p.by_)) = false → i64V 13 = i64V (chkE s p) := fun e => by
          rw [hr0, if_pos (show by1 s p = false from all_miss hx e)]
        (conv=>arg 2;whnf);refine wp_loop (fun m fr R => ∃ k : Nat, m = x.ty.length - k ∧ k ≤ x.ty.length ∧ R = [] ∧ (x.ty.take k).all (fun t => decide (0 ≤ fieldI ((findT s t).getD ty0) p.by_)) = true ∧ fr = frL [(2, .pt (some 1) (scV s) 0), (3, .pt (some 4) (.agg (paC p)) 0), (14, i64V 0), (15, i64V n), (16, i64V k)])
          x.ty.length _ _ (.cons (.refl _) (.cons (.refl _) (.cons (.refl _) (.cons (.refl _) (.cons (.refl _) (.nil _)))))) (List.Sublist.refl _) ⟨0, rfl, Nat.zero_le _, rfl, rfl, rfl⟩ ?_
        rintro m fr R ⟨k, rfl, hk, rfl, hak, rfl⟩
        (conv=>arg 2;whnf);refine wp_elem n (elV x) rfl (els_at2 hx) (Vle.refl _) ?_
        (conv=>arg 2;whnf);refine wp_ite (fun h1 => ?_) (fun h1 => ?_)
        · have h1 : k < x.ty.length := by
            have := of_decide_eq_true h1
            rw [List.length_map] at this; omega
          obtain ⟨t, ht⟩ : ∃ t, x.ty[k]? = some t := ⟨_, List.getElem?_eq_getElem h1⟩
          obtain ⟨okf, f1⟩ := findD_call s hs.1 t
          have hfl : ((findT s t).getD ty0).flds.length < 2 ^ 60 := by
            cases hf : findT s t with
            | none => exact (by decide)
            | some ty => exact hs.2 ty (findT_mem hf)
          have f2 := rfield_call ((findT s t).getD ty0) hfl p.by_
          obtain ⟨ty, hty⟩ : ∃ ty, ty = (findT s t).getD ty0 := ⟨_, rfl⟩
          rw [← hty] at f1 f2
          (conv=>arg 2;whnf);refine wp_elem n (elV x) rfl (els_at2 hx) (Vle.refl _) ?_
          (conv=>arg 2;whnf);refine wp_elem k (str t) rfl (strs_at ht) (Vle.refl _) ?_
          (conv=>arg 2;whnf);refine wp_pc f1 ?_
          (conv=>arg 2;whnf);refine wp_allocE tyZ rfl fun d => ?_
          (conv=>arg 2;whnf);refine wp_storeE (cs := tyZ) 0 0 (tyC ty) rfl rfl (VleL.refl _) (Nat.le_refl _) rfl (R' := [.obj d (tyC ty)]) rfl ?_
          (conv=>arg 2;whnf)
          refine wp_cutP (frL [(2, .pt (some 1) (scV s) 0), (3, .pt (some 4) (.agg (paC p)) 0), (14, i64V 0), (15, i64V n), (16, i64V k), (17, .pt (some 2) (tyV ty) 0)]) [] [.obj d (tyC ty)] (.cons (.refl _) (.cons (.refl _) (.cons (.refl _) (.cons (.refl _) (.cons (.refl _) (.cons (.all (List.Mem.head _) rfl (by decide) (VleL.refl _)) (.nil _))))))) ?_
          (conv=>arg 2;whnf);refine wp_pcall f2 ?_
          (conv=>arg 2;whnf);refine wp_ite (fun h2 => ?_) (fun h2 => ?_)
          · have h2 : decide (0 ≤ fieldI ((findT s t).getD ty0) p.by_) = false := decide_eq_false (by rw [← hty]; have := of_decide_eq_true h2; omega)
            have hv := hmiss (all_miss ht h2)
            (conv=>arg 2;whnf)
            refine wp_leaf (loop_ret (loop_ret ?_))
            (conv=>arg 2;whnf);refine w_retp rfl (Vle.eq hv)
          · have h2 : decide (0 ≤ fieldI ((findT s t).getD ty0) p.by_) = true := decide_eq_true (by rw [← hty]; have := of_decide_eq_false h2; omega)
            have hn' : (x.ty.take (k + 1)).all (fun t => decide (0 ≤ fieldI ((findT s t).getD ty0) p.by_)) = true := all_next hak ht h2
            (conv=>arg 2;whnf)
            exact wp_leaf (loop_next (x.ty.length - (k + 1)) _ [] (by omega) (.cons (.refl _) (.cons (.refl _) (.cons (.refl _) (.cons (.refl _) (.cons (Vle.inc k rfl (by omega)) (.nil _)))))) (List.nil_sublist _) ⟨k + 1, rfl, h1, rfl, hn', rfl⟩)
        · have h1 : k = x.ty.length := by
            have := of_decide_eq_false h1
            rw [List.length_map] at this; omega
          rw [h1, List.take_length] at hak
          have hn' : (p.els.take (n + 1)).all (fun x => x.ty.all fun t => decide (0 ≤ fieldI ((findT s t).getD ty0) p.by_)) = true := all_next ha hx hak
          (conv=>arg 2;whnf)
          refine wp_leaf (loop_exit ?_)
          (conv=>arg 2;whnf)
          exact wp_leaf (loop_next (p.els.length - (n + 1)) _ [] (by omega) (.cons (.refl _) (.cons (.refl _) (.cons (.refl _) (.cons (Vle.inc n rfl (by omega)) (.nil _))))) (List.nil_sublist _) ⟨n + 1, rfl, h, rfl, hn', rfl⟩)
      · have h : n = p.els.length := by
          have := of_decide_eq_false h
          rw [List.length_map] at this; omega
        rw [h, List.take_length] at ha
        rw [if_neg (by rw [show by1 s p = true from ha]; decide)] at hr0
        clear h hn ha
        (conv=>arg 2;whnf)
        refine wp_leaf (loop_exit ?_)
        refine wp_cutR (frL [(2, .pt (some 1) (scV s) 0), (3, .pt (some 4) (.agg (paC p)) 0), (14, i64V 0)]) [] (.cons (.refl _) (.cons (.refl _) (.cons (.refl _) (.nil _)))) (List.nil_sublist _) ?_
        (conv=>arg 2;whnf);refine wp_loop (fun m fr R => ∃ n : Nat, m = p.els.length - n ∧ n ≤ p.els.length ∧ R = [] ∧ (List.range n).all (fun i => decide ((fieldKindE s (elAt p i) p.by_).2 = 0) && (decide (i = 0) || decide ((fieldKindE s (elAt p i) p.by_).1 = (fieldKindE s (elAt p (i - 1)) p.by_).1))) = true ∧ fr = frL [(2, .pt (some 1) (scV s) 0), (3, .pt (some 4) (.agg (paC p)) 0), (14, i64V (if n = 0 then 0 else (fieldKindE s (elAt p (n - 1)) p.by_).1)), (19, i64V n)])
          p.els.length _ _ (.cons (.refl _) (.cons (.refl _) (.cons (.refl _) (.cons (.refl _) (.nil _))))) (List.Sublist.refl _) ⟨0, rfl, Nat.zero_le _, rfl, rfl, rfl⟩ ?_
        rintro m fr R ⟨n, rfl, hn, rfl, ha, rfl⟩
        (conv=>arg 2;whnf);refine wp_ite (fun h => ?_) (fun h => ?_)
        · have h : n < p.els.length := by
            have := of_decide_eq_true h
            rw [List.length_map] at this; omega
          obtain ⟨x, hx⟩ : ∃ x, p.els[n]? = some x := ⟨_, List.getElem?_eq_getElem h⟩
          have hxe : elAt p n = x := by rw [elAt, getD_at hx]
          have fk := rfieldkind_call s hs x (htl x (List.mem_of_getElem? hx)) p.by_
          obtain ⟨a, b, hab⟩ : ∃ a b, fieldKindE s x p.by_ = (a, b) := ⟨_, _, rfl⟩
          rw [hab] at fk
          obtain ⟨pk, hpk⟩ : ∃ pk, pk = (if n = 0 then 0 else (fieldKindE s (elAt p (n - 1)) p.by_).1) := ⟨_, rfl⟩
          have hq : (decide ((fieldKindE s (elAt p n) p.by_).2 = 0) && (decide (n = 0) || decide ((fieldKindE s (elAt p n) p.by_).1 = (fieldKindE s (elAt p (n - 1)) p.by_).1))) = (decide (b = 0) && (decide (n = 0) || decide (a = pk))) := by
            rw [hxe, hab]
            by_cases hn0 : n = 0
            · simp [hn0]
            · rw [hpk, if_neg hn0]
          have hmiss : (decide (b = 0) && (decide (n = 0) || decide (a = pk))) = false → i64V 14 = i64V (chkE s p) := fun e => by
            rw [hr0, if_pos (show by2 s p = false from rng_miss h (hq.trans e))]
          have hgo : (decide (b = 0) && (decide (n = 0) || decide (a = pk))) = true → _ := fun e => rng_next ha (hq.trans e)
          have hak : a = (if n + 1 = 0 then 0 else (fieldKindE s (elAt p (n + 1 - 1)) p.by_).1) := by rw [if_neg (by omega), Nat.add_sub_cancel, hxe, hab]
          rw [← hpk]
          clear hpk hq hab
          (conv=>arg 2;whnf);refine wp_elem n (elV x) rfl (els_at2 hx) (Vle.refl _) ?_
          (conv=>arg 2;whnf);refine wp_pc fk ?_
          (conv=>arg 2;whnf);refine wp_ite (fun h2 => ?_) (fun h2 => ?_)
          · have h2 : decide (b = 0) = false := decide_eq_false (bne_iff_ne.1 h2)
            have hv := hmiss (by rw [h2]; rfl)
            (repeat ((conv=>arg 2;whnf);first|refine wp_it rfl ?_|refine wp_if rfl ?_))
            (conv=>arg 2;whnf)
            refine wp_leaf (loop_ret ?_)
            (conv=>arg 2;whnf);refine w_retp rfl (Vle.eq hv)
          · have h2 : decide (b = 0) = true := decide_eq_true (bne_eq_false_iff_eq.1 h2)
            rw [h2, Bool.true_and] at hmiss hgo
            (conv=>arg 2;whnf);refine wp_ite (fun h3 => ?_) (fun h3 => ?_)
            · have h3 : decide (n = 0) = false := decide_eq_false (by have := of_decide_eq_true h3; omega)
              rw [h3, Bool.false_or] at hmiss hgo
              (conv=>arg 2;whnf);refine wp_ite (fun h4 => ?_) (fun h4 => ?_)
              · have hv := hmiss (decide_eq_false (bne_iff_ne.1 h4))
                (conv=>arg 2;whnf)
                refine wp_leaf (loop_ret ?_)
                (conv=>arg 2;whnf);refine w_retp rfl (Vle.eq hv)
              · have hn' := hgo (decide_eq_true (bne_eq_false_iff_eq.1 h4))
                (conv=>arg 2;whnf)
                exact wp_leaf (loop_next (p.els.length - (n + 1)) _ [] (by omega) (.cons (.refl _) (.cons (.refl _) (.cons (Vle.of (i64V a) rfl (congrArg i64V hak)) (.cons (Vle.inc n rfl (by omega)) (.nil _))))) (List.nil_sublist _) ⟨n + 1, rfl, h, rfl, hn', rfl⟩)
            · have h3 : decide (n = 0) = true := decide_eq_true (by have := of_decide_eq_false h3; omega)
              rw [h3, Bool.true_or] at hgo
              have hn' := hgo rfl
              (repeat ((conv=>arg 2;whnf);first|refine wp_it rfl ?_|refine wp_if rfl ?_))
              (conv=>arg 2;whnf)
              exact wp_leaf (loop_next (p.els.length - (n + 1)) _ [] (by omega) (.cons (.refl _) (.cons (.refl _) (.cons (Vle.of (i64V a) rfl (congrArg i64V hak)) (.cons (Vle.inc n rfl (by omega)) (.nil _))))) (List.nil_sublist _) ⟨n + 1, rfl, h, rfl, hn', rfl⟩)
        · have h : n = p.els.length := by
            have := of_decide_eq_false h
            rw [List.length_map] at this; omega
          rw [h] at ha
          rw [if_neg (by rw [show by2 s p = true from ha]; decide)] at hr0
          (conv=>arg 2;whnf)
          refine wp_leaf (loop_exit ?_)
          (conv=>arg 2;whnf);refine w_retp rfl (Vle.eq (congrArg i64V hr0.symm))
end Go.Sv
namespace Go.Sv
open Go
theorem chk_pf {s : Sc} {p : Pa} (h : chkE s p = 0) : isPaB p = true ∧ PfOk s p := by
  unfold chkE at h
  split at h
  · cases h
  · rename_i h1
    have hpa : isPaB p = true := by simpa using h1
    split at h
    · rename_i h2; exact absurd h h2
    · rename_i h2
      have hcz : chkEls s p.els = 0 := Classical.byContradiction h2
      have hat : ∀ i, i < p.els.length → chkAt s p.els i = 0 := by
        intro i hi
        refine Classical.byContradiction fun hne => ?_
        have hany : ((List.range p.els.length).map (chkAt s p.els)).any (fun e => decide (e ≠ 0)) = true := List.any_eq_true.2 ⟨_, List.mem_map.2 ⟨i, List.mem_range.2 hi, rfl⟩, decide_eq_true hne⟩
        obtain ⟨y, _, h3, _⟩ := idx_get hany
        unfold chkEls at hcz
        rw [h3] at hcz
        have := List.find?_some h3
        exact of_decide_eq_true this hcz
      have hfound : ∀ k, k < p.els.length → ∀ t ∈ (elAt p k).ty, (findT s t).isSome = true := by
        intro k hk t ht
        have := hat k hk
        rw [chkAt, chkEl] at this
        split at this
        · rename_i h3; exact List.all_eq_true.1 h3 t ht
        · cases this
      have hpa2 := hpa
      rw [isPaB, Bool.and_eq_true, Bool.and_eq_true, Bool.and_eq_true, Bool.and_eq_true, Bool.and_eq_true, Bool.and_eq_true, Bool.and_eq_true] at hpa2
      obtain ⟨g1, g2, g3, g4, g5, g6, g7, g8⟩ := hpa2
      have g1 := of_decide_eq_true g1
      have hok : ∀ i, i < p.els.length → okAtB p.els i (elAt p i) = true := fun i hi => List.all_eq_true.1 g8 i (List.mem_range.2 hi)
      refine ⟨hpa, ⟨by omega, by simpa using g3, by simpa using g4, fun i hi => ?_, fun i j hi hj e => ?_, fun hb k hk t ht => ?_, of_decide_eq_true g5⟩⟩
      · by_cases hlt : i + 1 < p.els.length
        · have := hok (i + 1) hlt
          rw [okAtB, Bool.and_eq_true, Bool.and_eq_true] at this
          obtain ⟨e, he, hnt, hee⟩ := nt_at p hlt
          have h3 := this.2.2
          rw [hee, hnt, hi, decide_eq_true (by omega), Nat.add_sub_cancel] at h3
          simpa using h3
        · rw [ntAt, List.getD_eq_getElem?_getD, List.getElem?_eq_none (by rw [List.length_map]; omega)] at hi
          cases hi
      · refine Classical.byContradiction fun hne => ?_
        have key : ∀ a b, a < b → b < p.els.length → (elAt p a).al = (elAt p b).al → False := fun a b hab hb e => by
          have := hok b hb
          rw [okAtB, Bool.and_eq_true, Bool.and_eq_true] at this
          have h3 := this.2.1
          rw [Bool.not_eq_true', twiceB, List.any_eq_false] at h3
          obtain ⟨ea, hea, _, hea2⟩ := nt_at p (n := a) (by omega)
          have hm : ea ∈ p.els.take b := List.mem_of_getElem? (i := a) (by rw [List.getElem?_take, if_pos hab]; exact hea)
          refine h3 ea hm (decide_eq_true ?_)
          rw [← hea2]; exact e
        rcases Nat.lt_or_gt_of_ne hne with h | h
        · exact key i j h hj e
        · exact key j i h hi e.symm
      · split at h
        · rename_i h3; exact absurd h3 hb
        · split at h
          · cases h
          · rename_i h3
            have h3 : by1 s p = true := by simpa using h3
            obtain ⟨e, he, _, hee⟩ := nt_at p hk
            have h4 := List.all_eq_true.1 h3 e (List.mem_of_getElem? he)
            have h5 := List.all_eq_true.1 h4 t (by rw [← hee]; exact ht)
            obtain ⟨ty, hty⟩ := Option.isSome_iff_exists.1 (hfound k hk t ht)
            rw [hty] at h5
            exact ⟨ty, hty, of_decide_eq_true h5⟩
structure Evx (l l' : List Kp) (t : Int) : Prop where
  ex : ∃ z, l' = l ++ z ∧ ∀ k ∈ z, t < k.at_
theorem ext_at {l l' : List Kp} {t i : Int} (h : Evx l l' t) (hi : i ≤ t) : atE l' i = atE l i := by
  obtain ⟨z, rfl, hz⟩ := h.ex
  unfold atE
  rw [List.find?_append]
  have : z.find? (fun k => decide (k.at_ = i)) = none := by
    rw [List.find?_eq_none]
    intro k hk e
    have := hz k hk
    have := of_decide_eq_true e
    omega
  rw [this]
  cases l.find? (fun k => decide (k.at_ = i)) <;> rfl
theorem ext_betw {l l' : List Kp} {t i j : Int} (h : Evx l l' t) (hj : j ≤ t + 1) : betw l' i j = betw l i j := by
  obtain ⟨z, rfl, hz⟩ := h.ex
  unfold betw
  rw [List.filter_append]
  have : z.filter (fun k => decide (i < k.at_) && decide (k.at_ < j)) = [] := by
    rw [List.filter_eq_nil_iff]
    intro k hk e
    rw [Bool.and_eq_true] at e
    have := hz k hk
    have := of_decide_eq_true e.2
    omega
  rw [this, List.append_nil]
theorem ext_bound {p : Pa} {l l' : List Kp} {t : Int} (h : Evx l l' t) {b : List Bd} (hb : ∀ y ∈ b, y.at_ ≤ t) (k : Nat) : boundE p l' b k = boundE p l b k := by
  unfold boundE
  induction b with
  | nil => rfl
  | cons y b ih =>
    rw [List.filterMap_cons, List.filterMap_cons, ext_at h (hb y (by simp)), ih fun z hz => hb z (by simp [hz])]
theorem ext_takes {s : Sc} {p : Pa} {l l' : List Kp} {t : Int} (h : Evx l l' t) {b : List Bd} (hb : ∀ y ∈ b, y.at_ ≤ t) (k : Nat) (e : Ev) : takesE s p l' b k e = takesE s p l b k e := by
  unfold takesE; rw [ext_bound h hb]
theorem ext_first {l l' : List Kp} {t : Int} (h : Evx l l' t) {b : List Bd} (h0 : b ≠ []) (hb : ∀ y ∈ b, y.at_ ≤ t) : firstEv l' b = firstEv l b := by
  cases b with
  | nil => exact absurd rfl h0
  | cons y b => unfold firstEv; rw [ext_at h (hb _ (by simp))]
theorem ext_goes {s : Sc} {p : Pa} {l l' : List Kp} {t : Int} (h : Evx l l' t) {b : List Bd} (hb : ∀ y ∈ b, y.at_ ≤ t) {x : Bd} (hx : x.at_ ≤ t) : goesE s p l' b x = goesE s p l b x := by
  unfold goesE
  rw [ext_at h hx]
  cases atE l x.at_ with
  | none => rfl
  | some e =>
    simp only
    by_cases h0 : b = []
    · subst h0
      rw [ext_takes h (fun y hy => by cases hy)]; rfl
    · rw [if_neg h0, if_neg h0, ext_first h h0 hb, ext_takes h hb]
      have : guardE s p l' b x = guardE s p l b x := by
        unfold guardE
        rw [ext_betw h (by omega), ext_first h h0 hb]
        simp only [ext_takes h hb]
      rw [this]
def SkipE (s : Sc) (p : Pa) (l : List Kp) (b : List Bd) (t : Int) : Prop :=
  ∃ y ∈ l, (lastBd b).at_ < y.at_ ∧ y.at_ < t ∧ ∃ k ∈ elemsE p (lastBd b).elem, goesE s p l b ⟨k, y.at_⟩ = true
theorem rise_at {l : List Kp} (h : RiseK l) {x : Kp} (hx : x ∈ l) : atE l x.at_ = some x.e := by
  obtain ⟨n, hn⟩ := List.mem_iff_getElem?.1 hx
  exact at_hit h hn
theorem goes_elem {s : Sc} {p : Pa} (hp : PfOk s p) {l : List Kp} {b : List Bd} (hb : Pre0 s p l b) {x : Bd} (h : goesE s p l b x = true) : x.elem < p.els.length ∧ ntAt p.els x.elem = false := by
  have h1 := bound0 hp (b ++ [x]) (.inr (pre0_snoc.2 ⟨hb, h⟩))
  have h2 := h1.nt (by simp)
  have h3 := h1.len
  rw [lastBd_snoc] at h2 h3
  exact ⟨h3, h2⟩
theorem fit_snoc {s : Sc} {p : Pa} {l : List Kp} {b : List Bd} {x : Bd} {i : Nat} (h : i < b.length) : fitR s p l (b ++ [x]) i = fitR s p l b i ∧ skipR s p l (b ++ [x]) i = skipR s p l b i := by
  have h1 : (b ++ [x]).getD i bd0 = b.getD i bd0 := by rw [List.getD_eq_getElem?_getD, List.getD_eq_getElem?_getD, List.getElem?_append_left h]
  have h2 : (b ++ [x]).getD (i - 1) bd0 = b.getD (i - 1) bd0 := by rw [List.getD_eq_getElem?_getD, List.getD_eq_getElem?_getD, List.getElem?_append_left (by omega)]
  have h3 : (b ++ [x]).take i = b.take i := List.take_append_of_le_length (by omega)
  refine ⟨by unfold fitR; rw [h1, h3], ?_⟩
  unfold skipR skip1
  rw [h1, h2, h3]
theorem preR_snoc0 {s : Sc} {p : Pa} {l : List Kp} {b : List Bd} {x : Bd} : preR s p l (b ++ [x]) = true ↔ (b = [] ∨ preR s p l b = true) ∧ fitR s p l (b ++ [x]) b.length = true ∧ (b = [] ∨ p.any = true ∨ skipR s p l (b ++ [x]) b.length = false) := by
  unfold preR
  rw [List.length_append, List.length_singleton, List.range_succ, List.all_append]
  have e : ((List.range b.length).all fun i => fitR s p l (b ++ [x]) i && (decide (i = 0) || p.any || !skipR s p l (b ++ [x]) i)) = (List.range b.length).all fun i => fitR s p l b i && (decide (i = 0) || p.any || !skipR s p l b i) := by
    rw [Bool.eq_iff_iff, List.all_eq_true, List.all_eq_true]
    constructor
    · intro h i hi
      have := h i hi
      obtain ⟨e1, e2⟩ := fit_snoc (s := s) (p := p) (l := l) (x := x) (List.mem_range.1 hi)
      rwa [e1, e2] at this
    · intro h i hi
      obtain ⟨e1, e2⟩ := fit_snoc (s := s) (p := p) (l := l) (x := x) (List.mem_range.1 hi)
      rw [e1, e2]; exact h i hi
  rw [e]
  have e2 : ([b.length].all fun i => fitR s p l (b ++ [x]) i && (decide (i = 0) || p.any || !skipR s p l (b ++ [x]) i)) = (fitR s p l (b ++ [x]) b.length && (decide (b.length = 0) || p.any || !skipR s p l (b ++ [x]) b.length)) := by simp
  rw [e2]
  have e3 : decide (b ++ [x] ≠ []) = true := decide_eq_true (by simp)
  rw [e3]
  clear e e2 e3
  simp only [Bool.true_and, Bool.and_eq_true, Bool.or_eq_true, decide_eq_true_iff, Bool.not_eq_true', List.length_eq_zero_iff]
  constructor
  · rintro ⟨h2, h3, h4⟩
    refine ⟨?_, h3, ?_⟩
    · by_cases hb : b = []
      · exact .inl hb
      · exact .inr ⟨hb, h2⟩
    · rcases h4 with (h4 | h4) | h4
      · exact .inl h4
      · exact .inr (.inl h4)
      · exact .inr (.inr h4)
  · rintro ⟨h1, h3, h4⟩
    refine ⟨?_, h3, ?_⟩
    · rcases h1 with rfl | h1
      · rfl
      · exact h1.2
    · rcases h4 with h4 | h4 | h4
      · exact .inl (.inl h4)
      · exact .inl (.inr h4)
      · exact .inr h4
theorem preR_snoc {s : Sc} {p : Pa} (hp : PfOk s p) {l : List Kp} (hl : EvsOk s l) (hr : RiseK l) {b : List Bd} (hb : b = [] ∨ prefE s p l b = true) {x : Bd} : preR s p l (b ++ [x]) = true ↔ (b = [] ∨ preR s p l b = true) ∧ goesE s p l b x = true ∧ (b = [] ∨ p.any = true ∨ ¬ SkipE s p l b x.at_) := by
  rw [preR_snoc0]
  refine and_congr Iff.rfl ?_
  have gx : (b ++ [x]).getD b.length bd0 = x := by simp [List.getD_eq_getElem?_getD]
  have gt : (b ++ [x]).take b.length = b := by simp
  have hfit : fitR s p l (b ++ [x]) b.length = true ↔ goesE s p l b x = true := by
    unfold fitR
    rw [gx, gt]
    constructor
    · intro h
      cases he : atE l x.at_ with
      | none => rw [he] at h; cases h
      | some e =>
        rw [he] at h
        rw [Bool.and_eq_true, Bool.and_eq_true, decide_eq_true_iff] at h
        obtain ⟨k, hk, hke, hka⟩ := at_mem he
        have : (⟨x.at_, e⟩ : Kp) = k := by cases k; simp at hke hka; simp [hke, hka]
        have h3 := h.2.2
        rw [goes_same hp hl hb h.1 (x := ⟨x.at_, e⟩) (by rw [this]; exact hk) he] at h3
        exact h3
    · intro h
      obtain ⟨e, he, hlen, _⟩ := goesE_some h
      obtain ⟨k, hk, hke, hka⟩ := at_mem he
      have : (⟨x.at_, e⟩ : Kp) = k := by cases k; simp at hke hka; simp [hke, hka]
      rw [he]
      simp only
      rw [Bool.and_eq_true, Bool.and_eq_true, decide_eq_true_iff, goes_same hp hl hb hlen (x := ⟨x.at_, e⟩) (by rw [this]; exact hk) he]
      exact ⟨hlen, by rw [(goes_elem hp hb h).2]; rfl, h⟩
  rw [hfit]
  refine and_congr Iff.rfl ?_
  by_cases h0 : b = []
  · simp [h0]
  · refine or_congr Iff.rfl (or_congr Iff.rfl ?_)
    have hlb := List.length_pos_iff.2 h0
    have gz : (b ++ [x]).getD (b.length - 1) bd0 = lastBd b := by
      rw [List.getD_eq_getElem?_getD, List.getElem?_append_left (by omega), last_at h0]; rfl
    have hb0 := bound0 hp b hb
    rw [← Bool.not_eq_true]
    refine not_congr ?_
    unfold skipR
    rw [List.any_eq_true]
    refine exists_congr fun y => ?_
    constructor
    · rintro ⟨hy, h⟩
      unfold skip1 at h
      rw [gz, gx, gt, Bool.and_eq_true, Bool.and_eq_true, Bool.or_eq_true, decide_eq_true_iff, decide_eq_true_iff] at h
      refine ⟨hy, h.1.1, h.1.2, ?_⟩
      rcases h.2 with h2 | h2
      · rw [goes_same hp hl hb hb0.len hy (rise_at hr hy)] at h2
        exact ⟨_, by simp [elemsE], h2⟩
      · unfold goesI at h2
        split at h2
        · cases h2
        · rename_i hn
          cases hne : nextE p (lastBd b).elem with
          | none => rw [nextI, hne] at hn; exact absurd (by decide : (-1 : Int) < 0) hn
          | some n =>
            have e : nextI p (lastBd b).elem = n := by rw [nextI, hne]
            rw [e, Int.toNat_natCast, goes_same hp hl hb (nextE_some hne).2.1 hy (rise_at hr hy)] at h2
            exact ⟨n, by simp [elemsE, hne], h2⟩
    · rintro ⟨hy, h1, h2, k, hk, h3⟩
      refine ⟨hy, ?_⟩
      unfold skip1
      rw [gz, gx, gt, Bool.and_eq_true, Bool.and_eq_true, Bool.or_eq_true, decide_eq_true_iff, decide_eq_true_iff]
      refine ⟨⟨h1, h2⟩, ?_⟩
      rw [elemsE, List.mem_cons] at hk
      rcases hk with rfl | hk
      · left
        rw [goes_same hp hl hb hb0.len hy (rise_at hr hy)]; exact h3
      · right
        have hne : nextE p (lastBd b).elem = some k := by
          cases h : nextE p (lastBd b).elem with
          | none => rw [h] at hk; cases hk
          | some n => rw [h] at hk; simp at hk; rw [hk]
        unfold goesI
        have e : nextI p (lastBd b).elem = k := by rw [nextI, hne]
        rw [e, if_neg (by omega), Int.toNat_natCast, goes_same hp hl hb (nextE_some hne).2.1 hy (rise_at hr hy)]
        exact h3
theorem preR_pref {s : Sc} {p : Pa} (hp : PfOk s p) {l : List Kp} (hl : EvsOk s l) (hr : RiseK l) (b : List Bd) : preR s p l b = true → prefE s p l b = true := by
  induction b using snoc_ind with
  | h0 => intro h; cases h
  | h1 b x ih =>
    intro h
    have hb : b = [] ∨ prefE s p l b = true := (preR_snoc0.1 h).1.imp id ih
    have := (preR_snoc hp hl hr hb).1 h
    exact pre0_snoc.2 ⟨hb, this.2.1⟩
theorem pre_ats {s : Sc} {p : Pa} (hp : PfOk s p) {l : List Kp} (hl : EvsOk s l) (hr : RiseK l) {b : List Bd} (h : preR s p l b = true) : Bound0 s p l b ∧ b ≠ [] := ⟨bound0 hp b (.inr (preR_pref hp hl hr b h)), fun e => by rw [e] at h; cases h⟩
theorem Evx.sub {l l' : List Kp} {t : Int} (h : Evx l l' t) {y : Kp} (hy : y ∈ l) : y ∈ l' := by
  obtain ⟨z, rfl, _⟩ := h.ex; exact List.mem_append_left _ hy
theorem Evx.back {l l' : List Kp} {t : Int} (h : Evx l l' t) {y : Kp} (hy : y ∈ l') (ht : y.at_ ≤ t) : y ∈ l := by
  obtain ⟨z, rfl, hz⟩ := h.ex
  rcases List.mem_append.1 hy with h | h
  · exact h
  · have := hz y h; omega
theorem ext_skip {s : Sc} {p : Pa} {l l' : List Kp} {t u : Int} (h : Evx l l' t) {b : List Bd} (hb : ∀ y ∈ b, y.at_ ≤ t) (hu : u ≤ t + 1) : SkipE s p l' b u ↔ SkipE s p l b u := by
  constructor
  · rintro ⟨y, hy, h1, h2, k, hk, h3⟩
    refine ⟨y, h.back hy (by omega), h1, h2, k, hk, ?_⟩
    rw [ext_goes h hb (show (⟨k, y.at_⟩ : Bd).at_ ≤ t by show y.at_ ≤ t; omega)] at h3; exact h3
  · rintro ⟨y, hy, h1, h2, k, hk, h3⟩
    refine ⟨y, h.sub hy, h1, h2, k, hk, ?_⟩
    rw [ext_goes h hb (show (⟨k, y.at_⟩ : Bd).at_ ≤ t by show y.at_ ≤ t; omega)]; exact h3
theorem ext_pre {s : Sc} {p : Pa} (hp : PfOk s p) {l l' : List Kp} {t : Int} (h : Evx l l' t) (hl : EvsOk s l') (hr : RiseK l') (b : List Bd) (hb : ∀ y ∈ b, y.at_ ≤ t) : preR s p l' b = true ↔ preR s p l b = true := by
  have hl0 : EvsOk s l := fun k hk => hl k (h.sub hk)
  have hr0 : RiseK l := by obtain ⟨z, rfl, _⟩ := h.ex; exact (List.pairwise_append.1 hr).1
  induction b using snoc_ind with
  | h0 => exact Iff.rfl
  | h1 b x ih =>
    have ih : preR s p l' b = true ↔ preR s p l b = true := ih fun y hy => hb y (List.mem_append_left _ hy)
    have hbb : ∀ y ∈ b, y.at_ ≤ t := fun y hy => hb y (List.mem_append_left _ hy)
    have hx : x.at_ ≤ t := hb x (by simp)
    by_cases hpre : b = [] ∨ preR s p l b = true
    · have hb1 : b = [] ∨ prefE s p l b = true := hpre.imp id (preR_pref hp hl0 hr0 b)
      have hb2 : b = [] ∨ prefE s p l' b = true := hpre.imp id fun h => preR_pref hp hl hr b (ih.2 h)
      rw [preR_snoc hp hl hr hb2, preR_snoc hp hl0 hr0 hb1, ih, ext_goes h hbb hx, ext_skip h hbb (by omega)]
    · constructor
      · intro h1
        exact absurd ((preR_snoc0.1 h1).1.imp id ih.1) hpre
      · intro h1
        exact absurd (preR_snoc0.1 h1).1 hpre
end Go.Sv
namespace Go.Sv
open Go
structure KOk (s : Sc) (p : Pa) (k : List Kp) : Prop where
  pf : PfOk s p
  ev : EvsOk s k
  rise : RiseK k
  mono : k.Pairwise fun a b => a.e.ts ≤ b.e.ts
theorem KOk.pre {s : Sc} {p : Pa} {k : List Kp} (h : KOk s p k) (n : Nat) : KOk s p (k.take n) :=
  ⟨h.pf, fun x hx => h.ev x (List.mem_of_mem_take hx), h.rise.sublist (List.take_sublist _ _), h.mono.sublist (List.take_sublist _ _)⟩
theorem KOk.init {s : Sc} {p : Pa} {l : List Kp} {x : Kp} (h : KOk s p (l ++ [x])) : KOk s p l :=
  ⟨h.pf, fun y hy => h.ev y (List.mem_append_left _ hy), (List.pairwise_append.1 h.rise).1, (List.pairwise_append.1 h.mono).1⟩
def LiveE (s : Sc) (p : Pa) (l : List Kp) (b : List Bd) : Prop :=
  preR s p l b = true ∧ goesOn p b = true ∧ (p.any = true ∨ ∀ t, ¬ SkipE s p l b t) ∧ (lastKp l).e.ts - (firstEv l b).ts ≤ p.within
def InvE (s : Sc) (p : Pa) (l : List Kp) (r : List (List Bd)) : Prop := StrictR r ∧ ∀ b, b ∈ r ↔ LiveE s p l b
theorem lastKp_snoc (l : List Kp) (x : Kp) : lastKp (l ++ [x]) = x := by unfold lastKp; simp
theorem with_iff {s : Sc} {p : Pa} {l : List Kp} {x : Kp} {c b : List Bd} {k : Nat} : withE s p (l ++ [x]) c k = some b ↔ b = c ++ [⟨k, x.at_⟩] ∧ prefE s p (l ++ [x]) b = true := by
  have hg : grown (l ++ [x]) c k = c ++ [⟨k, x.at_⟩] := by rw [grown, lastKp_snoc]
  have hp : prefE s (anyP p) (l ++ [x]) (c ++ [⟨k, x.at_⟩]) = prefE s p (l ++ [x]) (c ++ [⟨k, x.at_⟩]) := rfl
  rw [withE, if_neg (by simp), hg, hp]
  constructor
  · intro h
    split at h
    · rename_i h1; cases h; exact ⟨rfl, h1⟩
    · cases h
  · rintro ⟨rfl, h⟩; rw [if_pos h]
theorem goes_on {s : Sc} {p : Pa} {l : List Kp} {c : List Bd} {k : Nat} {t : Int} (h0 : c ≠ []) (h : goesE s p l c ⟨k, t⟩ = true) : goesOn p c = true ∧ k ∈ elemsE p (lastBd c).elem := by
  obtain ⟨e, he, hlen, h1⟩ := goesE_some h
  rcases h1 with ⟨h1, _⟩ | ⟨_, _, h2, _⟩
  · exact absurd h1 h0
  · rcases h2 with h2 | h2
    · unfold sameE at h2
      rw [Bool.and_eq_true, decide_eq_true_iff] at h2
      refine ⟨?_, by rw [elemsE, ← h2.1]; simp⟩
      unfold goesOn
      cases hd : doneE p c with
      | false => rfl
      | true =>
        rw [doneE, Bool.and_eq_true, decide_eq_true_iff, decide_eq_true_iff] at hd
        have : lastPlus p = true := by rw [lastPlus, ← hd.2, Nat.add_sub_cancel]; exact h2.2
        rw [this]; rfl
    · have hn := nextI_nat h2
      have := nextE_some hn
      refine ⟨?_, by rw [elemsE, hn]; simp⟩
      unfold goesOn
      have : doneE p c = false := by
        rw [doneE, Bool.and_eq_false_iff]
        right
        exact decide_eq_false (by omega)
      rw [this]; rfl
theorem split_last {α : Type} {b : List α} (h : b ≠ []) : ∃ c y, b = c ++ [y] := by
  induction b using snoc_ind with
  | h0 => exact absurd rfl h
  | h1 c y _ => exact ⟨c, y, rfl⟩
section
variable {s : Sc} {p : Pa} {l : List Kp} {x : Kp}
theorem lt_x (h : KOk s p (l ++ [x])) {k : Kp} (hk : k ∈ l) : k.at_ < x.at_ := (List.pairwise_append.1 h.rise).2.2 k hk x (by simp)
theorem ts_x (h : KOk s p (l ++ [x])) {k : Kp} (hk : k ∈ l) : k.e.ts ≤ x.e.ts := (List.pairwise_append.1 h.mono).2.2 k hk x (by simp)
theorem evx_x (h : KOk s p (l ++ [x])) : Evx l (l ++ [x]) (x.at_ - 1) := ⟨[x], rfl, fun k hk => by rw [List.mem_singleton.1 hk]; omega⟩
theorem ats_x (h : KOk s p (l ++ [x])) {i : Int} (hi : (atE (l ++ [x]) i).isSome = true) : i ≤ x.at_ := by
  obtain ⟨e, he⟩ := Option.isSome_iff_exists.1 hi
  obtain ⟨k, hk, _, rfl⟩ := at_mem he
  rcases List.mem_append.1 hk with hk | hk
  · have := lt_x h hk; omega
  · rw [List.mem_singleton.1 hk]; exact Int.le_refl _
theorem ats_l (h : KOk s p (l ++ [x])) {i : Int} (hi : (atE l i).isSome = true) : i ≤ x.at_ - 1 := by
  obtain ⟨e, he⟩ := Option.isSome_iff_exists.1 hi
  obtain ⟨k, hk, _, rfl⟩ := at_mem he
  have := lt_x h hk; omega
theorem pre_l (h : KOk s p (l ++ [x])) {b : List Bd} (hb : preR s p l b = true) : (∀ y ∈ b, y.at_ ≤ x.at_ - 1) ∧ preR s p (l ++ [x]) b = true := by
  obtain ⟨h1, _⟩ := pre_ats h.pf h.init.ev h.init.rise hb
  have h2 : ∀ y ∈ b, y.at_ ≤ x.at_ - 1 := fun y hy => ats_l h (h1.at_ y hy)
  exact ⟨h2, (ext_pre h.pf (evx_x h) h.ev h.rise b h2).2 hb⟩
theorem pre_back (h : KOk s p (l ++ [x])) {b : List Bd} (hb : preR s p (l ++ [x]) b = true) (hlt : (lastBd b).at_ < x.at_) : (∀ y ∈ b, y.at_ ≤ x.at_ - 1) ∧ preR s p l b = true := by
  obtain ⟨h1, _⟩ := pre_ats h.pf h.ev h.rise hb
  have h2 : ∀ y ∈ b, y.at_ ≤ x.at_ - 1 := fun y hy => by have := (h1.el y hy).2; omega
  exact ⟨h2, (ext_pre h.pf (evx_x h) h.ev h.rise b h2).1 hb⟩
theorem late_x (h : KOk s p (l ++ [x])) {b : List Bd} (hb : preR s p (l ++ [x]) b = true) : lateE p (l ++ [x]) b = decide (x.e.ts - (firstEv (l ++ [x]) b).ts > p.within) := by
  obtain ⟨h1, h0⟩ := pre_ats h.pf h.ev h.rise hb
  have := (first_ok h.ev h0 h1).2
  unfold lateE
  rw [if_neg (by simp [h0]), this, lastKp_snoc]
theorem l_ne {b : List Bd} (h : preR s p l b = true) (hk : KOk s p l) : l ≠ [] := fun e => by
  obtain ⟨h1, h0⟩ := pre_ats hk.pf hk.ev hk.rise h
  obtain ⟨y, hy⟩ := List.exists_mem_of_ne_nil b h0
  have := h1.at_ y hy
  rw [e] at this; cases this
theorem made_iff (h : KOk s p (l ++ [x])) {r : List (List Bd)} (hI : ∀ b, b ∈ r ↔ LiveE s p l b) (b : List Bd) : b ∈ madeE s p (l ++ [x]) r ↔ preR s p (l ++ [x]) b = true ∧ (lastBd b).at_ = x.at_ := by
  have hx : atE (l ++ [x]) x.at_ = some x.e := rise_at h.rise (by simp)
  unfold madeE takesE'
  rw [List.mem_append, List.mem_flatMap]
  constructor
  · rintro (⟨c, hc, hb⟩ | hb)
    · obtain ⟨hcr, hcl⟩ := List.mem_filter.1 hc
      obtain ⟨g1, g2, g3, g4⟩ := (hI c).1 hcr
      obtain ⟨ha, hpc⟩ := pre_l h g1
      unfold takeE at hb
      split at hb
      · cases hb
      · rename_i hc0
        obtain ⟨k, hk, hw⟩ := List.mem_filterMap.1 hb
        obtain ⟨rfl, hpre⟩ := with_iff.1 hw
        have hg := (pre0_snoc.1 hpre).2
        refine ⟨(preR_snoc h.pf h.ev h.rise (.inr (preR_pref h.pf h.ev h.rise c hpc))).2 ⟨.inr hpc, hg, .inr ?_⟩, by rw [lastBd_snoc]⟩
        rcases g3 with g3 | g3
        · exact .inl g3
        · right
          rw [ext_skip (evx_x h) ha (show x.at_ ≤ x.at_ - 1 + 1 by omega)]
          exact g3 _
    · rw [Option.mem_toList] at hb
      obtain ⟨rfl, hpre⟩ := with_iff.1 hb
      have hg := (pre0_snoc.1 hpre).2
      exact ⟨(preR_snoc h.pf h.ev h.rise (.inl rfl)).2 ⟨.inl rfl, hg, .inl rfl⟩, rfl⟩
  · rintro ⟨hb, hat⟩
    have hne : b ≠ [] := (pre_ats h.pf h.ev h.rise hb).2
    obtain ⟨c, y, rfl⟩ : ∃ c y, b = c ++ [y] := split_last hne
    rw [lastBd_snoc] at hat
    have hy : y = ⟨y.elem, x.at_⟩ := by cases y; simp at hat; simp [hat]
    have hpf := preR_pref h.pf h.ev h.rise _ hb
    have hpre0 := (pre0_snoc.1 hpf).1
    obtain ⟨g1, g2, g3⟩ := (preR_snoc h.pf h.ev h.rise hpre0).1 hb
    by_cases hc0 : c = []
    · right
      subst hc0
      obtain ⟨e, he, hlen, h1⟩ := goesE_some g2
      have h0 : y.elem = 0 := h1.elim (fun h => h.2.1) (fun h => absurd rfl h.1)
      rw [Option.mem_toList]
      refine with_iff.2 ⟨by rw [hy, h0], hpf⟩
    · left
      have hpc := g1.resolve_left hc0
      obtain ⟨e, he, hlen, h1⟩ := goesE_some g2
      obtain ⟨_, hlt, _, hts, _⟩ := h1.resolve_left (fun h => hc0 h.1)
      rw [hat] at hlt he
      rw [hx] at he
      cases he
      obtain ⟨ha, hpl⟩ := pre_back h hpc hlt
      have hfe : firstEv (l ++ [x]) c = firstEv l c := ext_first (evx_x h) hc0 ha
      have hgo := goes_on hc0 (by rw [hy] at g2; exact g2)
      refine ⟨c, List.mem_filter.2 ⟨(hI c).2 ⟨hpl, hgo.1, ?_, ?_⟩, ?_⟩, ?_⟩
      · rcases g3.resolve_left hc0 with g3 | g3
        · exact .inl g3
        · right
          rintro t ⟨z, hz, z1, _, z3⟩
          refine g3 ((ext_skip (evx_x h) ha (by omega)).2 ⟨z, hz, z1, ?_, z3⟩)
          rw [hat]; exact lt_x h hz
      · have hl := l_ne hpl h.init
        have := ts_x h (lastKp_mem hl)
        rw [← hfe]; omega
      · rw [late_x h hpc]
        simp; omega
      · unfold takeE
        rw [if_neg hc0]
        exact List.mem_filterMap.2 ⟨y.elem, hgo.2, with_iff.2 ⟨by rw [hy], hpf⟩⟩
theorem take_nil (h : KOk s p (l ++ [x])) {b : List Bd} (hb : preR s p (l ++ [x]) b = true) : takeE s p (l ++ [x]) b = [] ↔ ∀ k ∈ elemsE p (lastBd b).elem, goesE s p (l ++ [x]) b ⟨k, x.at_⟩ = false := by
  have h0 := (pre_ats h.pf h.ev h.rise hb).2
  have hpf := preR_pref h.pf h.ev h.rise _ hb
  unfold takeE
  rw [if_neg h0, List.filterMap_eq_nil_iff]
  refine forall_congr' fun k => imp_congr Iff.rfl ?_
  constructor
  · intro hn
    cases hg : goesE s p (l ++ [x]) b ⟨k, x.at_⟩ with
    | false => rfl
    | true =>
      have : withE s p (l ++ [x]) b k = some (b ++ [⟨k, x.at_⟩]) := with_iff.2 ⟨rfl, pre0_snoc.2 ⟨.inr hpf, hg⟩⟩
      rw [this] at hn; cases hn
  · intro hg
    cases hw : withE s p (l ++ [x]) b k with
    | none => rfl
    | some c =>
      obtain ⟨rfl, hpre⟩ := with_iff.1 hw
      rw [(pre0_snoc.1 hpre).2] at hg; cases hg
theorem stay_iff (h : KOk s p (l ++ [x])) {r : List (List Bd)} (hI : ∀ b, b ∈ r ↔ LiveE s p l b) (b : List Bd) : b ∈ stayE s p (l ++ [x]) r ↔ LiveE s p (l ++ [x]) b ∧ (lastBd b).at_ < x.at_ := by
  unfold stayE liveE
  rw [List.mem_filter, List.mem_filter]
  constructor
  · rintro ⟨⟨hr, hlate⟩, hst⟩
    obtain ⟨g1, g2, g3, g4⟩ := (hI b).1 hr
    obtain ⟨ha, hpc⟩ := pre_l h g1
    have hb0 := (pre_ats h.pf h.ev h.rise hpc).2
    have hlt : (lastBd b).at_ < x.at_ := by have := ha _ (List.mem_of_getElem? (last_at hb0)); omega
    rw [late_x h hpc] at hlate
    refine ⟨⟨hpc, g2, ?_, by rw [lastKp_snoc]; simpa using hlate⟩, hlt⟩
    rcases g3 with g3 | g3
    · exact .inl g3
    · by_cases hany : p.any = true
      · exact .inl hany
      · right
        have htk : takeE s p (l ++ [x]) b = [] := by
          unfold stayB at hst
          rw [Bool.or_eq_true] at hst
          exact List.isEmpty_iff.1 (hst.resolve_left hany)
        rw [take_nil h hpc] at htk
        rintro t ⟨y, hy, y1, y2, k, hk, hg⟩
        rcases List.mem_append.1 hy with hy | hy
        · refine g3 (y.at_ + 1) ⟨y, hy, y1, by omega, k, hk, ?_⟩
          rw [← ext_goes (evx_x h) ha (show (⟨k, y.at_⟩ : Bd).at_ ≤ x.at_ - 1 by have := lt_x h hy; show y.at_ ≤ _; omega)]
          exact hg
        · rw [List.mem_singleton.1 hy] at hg
          rw [htk k hk] at hg; cases hg
  · rintro ⟨⟨hpc, g2, g3, g4⟩, hlt⟩
    obtain ⟨ha, hpl⟩ := pre_back h hpc hlt
    have hb0 := (pre_ats h.pf h.ev h.rise hpc).2
    have hfe : firstEv (l ++ [x]) b = firstEv l b := ext_first (evx_x h) hb0 ha
    rw [lastKp_snoc] at g4
    refine ⟨⟨(hI b).2 ⟨hpl, g2, ?_, ?_⟩, ?_⟩, ?_⟩
    · rcases g3 with g3 | g3
      · exact .inl g3
      · right
        rintro t ⟨y, hy, y1, y2, k, hk, hg⟩
        refine g3 t ⟨y, List.mem_append_left _ hy, y1, y2, k, hk, ?_⟩
        rw [ext_goes (evx_x h) ha (show (⟨k, y.at_⟩ : Bd).at_ ≤ x.at_ - 1 by have := lt_x h hy; show y.at_ ≤ _; omega)]
        exact hg
    · have hl := l_ne hpl h.init
      have := ts_x h (lastKp_mem hl)
      rw [← hfe]; omega
    · rw [late_x h hpc]
      simp; omega
    · unfold stayB
      rw [Bool.or_eq_true]
      rcases g3 with g3 | g3
      · exact .inl g3
      · right
        rw [List.isEmpty_iff, take_nil h hpc]
        intro k hk
        cases hg : goesE s p (l ++ [x]) b ⟨k, x.at_⟩ with
        | false => rfl
        | true => exact absurd ⟨x, by simp, hlt, by omega, k, hk, hg⟩ (g3 (x.at_ + 1))
theorem step_inv (h : KOk s p (l ++ [x])) {r r' m : List (List Bd)} (hI : InvE s p l r) (hs : stepE s p (l ++ [x]) r = some (r', m)) :
    InvE s p (l ++ [x]) r' ∧ StrictR m ∧ ∀ b, b ∈ m ↔ preR s p (l ++ [x]) b = true ∧ (lastBd b).at_ = x.at_ ∧ doneE p b = true := by
  have hx : atE (l ++ [x]) x.at_ = some x.e := rise_at h.rise (by simp)
  have hm := made_iff h hI.2
  have hst := stay_iff h hI.2
  have hs2 : r' = sortedE (stayE s p (l ++ [x]) r ++ (sortedE (madeE s p (l ++ [x]) r)).filter (goesOn p)) ∧ m = (sortedE (madeE s p (l ++ [x]) r)).filter (doneE p) := by
    unfold stepE at hs
    split at hs
    · cases hs
    · split at hs
      · cases hs
      · cases hs; exact ⟨rfl, rfl⟩
  obtain ⟨rfl, rfl⟩ := hs2
  refine ⟨⟨strict_sortedE _, fun b => ?_⟩, (strict_sortedE _).sublist List.filter_sublist, fun b => ?_⟩
  · rw [mem_sortedE, List.mem_append, List.mem_filter, mem_sortedE, hst, hm]
    constructor
    · rintro (h1 | ⟨⟨h1, h2⟩, h3⟩)
      · exact h1.1
      · refine ⟨h1, h3, .inr ?_, ?_⟩
        · rintro t ⟨y, hy, y1, _⟩
          have : y.at_ ≤ x.at_ := ats_x h (by rw [rise_at h.rise hy]; rfl)
          omega
        · rw [lastKp_snoc]
          have hne : b ≠ [] := (pre_ats h.pf h.ev h.rise h1).2
          obtain ⟨c, y, rfl⟩ : ∃ c y, b = c ++ [y] := split_last hne
          rw [lastBd_snoc] at h2
          have hpre0 := (pre0_snoc.1 (preR_pref h.pf h.ev h.rise _ h1)).1
          obtain ⟨_, g2, _⟩ := (preR_snoc h.pf h.ev h.rise hpre0).1 h1
          obtain ⟨e, he, _, h4⟩ := goesE_some g2
          rw [h2, hx] at he
          cases he
          by_cases hc : c = []
          · subst hc
            have : firstEv (l ++ [x]) ([] ++ [y]) = x.e := by
              unfold firstEv
              show (atE (l ++ [x]) y.at_).getD ev0 = _
              rw [h2, hx]; rfl
            rw [this]
            have := h.pf.within
            omega
          · rw [firstEv_snoc hc]
            exact (h4.resolve_left fun h => hc h.1).2.2.2.1
    · intro hL
      obtain ⟨hb1, hb0⟩ := pre_ats h.pf h.ev h.rise hL.1
      have hle : (lastBd b).at_ ≤ x.at_ := ats_x h (hb1.at_ _ (List.mem_of_getElem? (last_at hb0)))
      by_cases hlt : (lastBd b).at_ < x.at_
      · exact .inl ⟨hL, hlt⟩
      · exact .inr ⟨⟨hL.1, by omega⟩, hL.2.1⟩
  · rw [List.mem_filter, mem_sortedE, hm, and_assoc]
theorem inv_nil {k : List Kp} (hk : KOk s p k) : InvE s p [] [] := ⟨List.Pairwise.nil, fun b => ⟨fun h => by (cases h), fun h => by
  have hk0 : KOk s p [] := hk.pre 0
  exact absurd rfl (l_ne h.1 hk0)⟩⟩
end
end Go.Sv
namespace Go.Sv
open Go
theorem take_snoc {α : Type} {k : List α} {i : Nat} {x : α} (h : k[i]? = some x) : k.take (i + 1) = k.take i ++ [x] := by
  rw [List.take_add_one, h]; rfl
end Go.Sv
namespace Go.Sv
open Go Go.Proofs
theorem paBd_ok {p : Pa} (hp : PaBd p) (hrg : ∀ e ∈ p.els, exRg e.cond) : RfOkP p :=
  ⟨⟨by have := hp.1; omega, fun e he => by have := (hp.2.1 e he).2.1; omega, fun e he => (hp.2.1 e he).2.2.2.1, hrg, fun e he => (hp.2.1 e he).2.2.2.kids⟩, fun e he => (hp.2.1 e he).2.2.2⟩
theorem RfOkL.take {l : List Kp} (h : RfOkL l) (n : Nat) : RfOkL (l.take n) := ⟨h.toStOkL.take n, fun k hk => h.is k (List.mem_of_mem_take hk)⟩
theorem kept_kok {p : Pa} (hp : chkE baseS p = 0) {l : List Ev} (hl : l.length < 2 ^ 30) (hb : ∀ e ∈ l, EvBd e) {at_ : Int} (hs : strmB l = true) : KOk baseS p (keptE at_ l) := by
  refine ⟨(chk_pf hp).2, (kept_ok hl hb hs).2, kept_rise at_ l, ?_⟩
  unfold keptE
  rw [List.pairwise_map, List.pairwise_iff_getElem]
  intro i j hi hj hij
  rw [List.getElem_range, List.getElem_range]
  rw [List.length_range] at hj
  exact strm_mono hs (by omega) hj
theorem goesOn_last {p : Pa} {b : List Bd} (h : goesOn p b = true) (hd : doneE p b = true) : lastPlus p = true := by
  unfold goesOn at h; rw [hd] at h; exact h
set_option maxRecDepth 100000 in
set_option maxHeartbeats 8000000 in
theorem stepruns_call (hC : CountsUp) (p : Pa) (hp : PaBd p) (hrg : ∀ e ∈ p.els, exRg e.cond) (l : List Ev) (hl : l.length < 2 ^ 30) (hb : ∀ e ∈ l, EvBd e) : PCall Tryz.prog 4 [.agg (paC p), evsV l] (bV true) := by
  have f0 := known16_call hC
  have fs := stream_call l hl hb 0 (by decide) (by decide)
  have fc := rcheck_call baseS base_ok p hp
  refine scall_of (live := []) (ords := [(5, []), (6, []), (7, []), (12, []), (18, [])]) Tryz.func4 rfl (by kernel_rfl) (by kernel_rfl) (Nat.le_of_ble_eq_true rfl) ?_
  (conv=>arg 2;whnf);refine wp_pcall f0 ?_
  (repeat ((conv=>arg 2;whnf);first|refine wp_it rfl ?_|refine wp_if rfl ?_))
  (conv=>arg 2;whnf);refine wp_pcall base_call ?_
  (conv=>arg 2;whnf);refine wp_allocE scZ rfl fun d => ?_
  (conv=>arg 2;whnf);refine wp_storeE (cs := scZ) 0 0 (scC baseS) rfl rfl (VleL.refl _) (Nat.le_refl _) rfl (R' := [.obj d (scC baseS)]) rfl ?_
  cases hsb : strmB l with
  | false =>
    rw [streamR, hsb, if_neg (by decide)] at fs
    (conv=>arg 2;whnf);refine wp_pcall fs ?_
    (conv=>arg 2;whnf)
    refine wp_cutR (frL [(7, bV false)]) [] (.cons (.refl _) (.nil _)) (List.nil_sublist _) ?_
    (repeat ((conv=>arg 2;whnf);first|refine wp_it rfl ?_|refine wp_if rfl ?_))
    refine wp_cutR (frL []) [] (.nil _) (List.nil_sublist _) ?_
    (conv=>arg 2;whnf);refine w_ret1 rfl (Vle.refl _) (List.nil_sublist _) rfl
  | true =>
    rw [streamR, hsb, if_pos rfl] at fs
    obtain ⟨hkf, hke⟩ := kept_ok (at_ := 0) hl hb hsb
    obtain ⟨k, hkE⟩ : ∃ k, k = keptE 0 l := ⟨_, rfl⟩
    have hklen : k.length = l.length := by rw [hkE, kept_length]
    (conv=>arg 2;whnf);refine wp_pcall fs ?_
    rw [← hkE] at hkf hke ⊢
    (conv=>arg 2;whnf)
    refine wp_cutP (frL [(1, evsV l), (2, .pt (some 4) (.agg (paC p)) 0), (5, .pt (some 1) (scV baseS) 0), (6, kpsV k), (7, bV true)]) [] [.obj d (scC baseS)] (.cons (.refl _) (.cons (.refl _) (.cons (.all (List.Mem.head _) rfl (by decide) (VleL.refl _)) (.cons (.refl _) (.cons (.refl _) (.nil _)))))) ?_
    clear fs
    (repeat ((conv=>arg 2;whnf);first|refine wp_it rfl ?_|refine wp_if rfl ?_))
    (conv=>arg 2;whnf);refine wp_ite (fun h1 => ?_) (fun h1 => ?_)
    · (repeat ((conv=>arg 2;whnf);first|refine wp_it rfl ?_|refine wp_if rfl ?_))
      (conv=>arg 2;whnf)
      refine wp_cutR (frL []) [] (.nil _) (List.nil_sublist _) ?_
      (conv=>arg 2;whnf);refine w_ret1 rfl (Vle.refl _) (List.nil_sublist _) rfl
    have h7 : l.length ≤ 7 := by
      have := of_decide_eq_false h1
      rw [List.length_map] at this; omega
    (conv=>arg 2;whnf);refine wp_pcall fc ?_
    (conv=>arg 2;whnf);refine wp_ite (fun h2 => ?_) (fun h2 => ?_)
    · (conv=>arg 2;whnf)
      refine wp_cutR (frL []) [] (.nil _) (List.nil_sublist _) ?_
      (conv=>arg 2;whnf);refine w_ret1 rfl (Vle.refl _) (List.nil_sublist _) rfl
    have hc0 : chkE baseS p = 0 := bne_eq_false_iff_eq.1 h2
    have hkk : KOk baseS p k := hkE ▸ kept_kok hc0 hl hb hsb
    have hpf := paBd_ok hp hrg
    have hpn := hpf.n
    have hpos := hkk.pf.pos
    (conv=>arg 2;whnf)
    refine wp_cutR (frL [(2, .pt (some 4) (.agg (paC p)) 0), (5, .pt (some 1) (scV baseS) 0), (6, kpsV k)]) [] (.cons (.refl _) (.cons (.refl _) (.cons (.refl _) (.nil _)))) (List.nil_sublist _) ?_
    clear f0 fc h1 h2 hb hsb
    (conv=>arg 2;whnf);refine wp_loop (fun m fr R => ∃ (i : Nat) (r : List (List Bd)), m = k.length - i ∧ i ≤ k.length ∧ R = [] ∧ RunsOk p r ∧ InvE baseS p (k.take i) r ∧ fr = frL [(2, .pt (some 4) (.agg (paC p)) 0), (5, .pt (some 1) (scV baseS) 0), (6, kpsV k), (8, runsV r), (9, i64V i)])
      k.length _ _ (.cons (.refl _) (.cons (.refl _) (.cons (.refl _) (.cons (Vle.gotL (b := runsV []) (Vle.nil none (some 1) .zero) rfl) (.cons (.refl _) (.nil _)))))) (List.Sublist.refl _) ⟨0, [], rfl, Nat.zero_le _, rfl, runs_nil p, by rw [List.take_zero]; exact inv_nil hkk, rfl⟩ ?_
    rintro m fr R ⟨i, r, rfl, hi, rfl, hr, hI, rfl⟩
    (conv=>arg 2;whnf);refine wp_ite (fun h => ?_) (fun h => ?_)
    · have h : i < k.length := by
        have := of_decide_eq_true h
        rw [List.length_map] at this; omega
      obtain ⟨x, hx⟩ : ∃ x, k[i]? = some x := ⟨_, List.getElem?_eq_getElem h⟩
      have hw1 : IntKind.i64.wrap ((i : Int) + 1) = ((i + 1 : Nat) : Int) := by rw [w_i64_small (by omega) (by omega)]; omega
      have hneed : (0 : Int) ≤ IntKind.i64.wrap ((i : Int) + 1) ∧ IntKind.i64.wrap ((i : Int) + 1) ≤ ((k.map kpV).length : Int) := by rw [hw1, List.length_map]; omega
      have hsl : Vle (.sl (some 4) ((k.map kpV).take (Int.toNat (IntKind.i64.wrap ((i : Int) + 1)))) .no) (kpsV (k.take (i + 1))) := by rw [hw1]; exact kps_take k (i + 1)
      have ft := step_call hC baseS base_ok p hpf.toStOkP (k.take (i + 1)) (hkf.toStOkL.take _) r hr
      have hkt := hkf.take (i + 1)
      have hsn := take_snoc hx
      have hk2 : KOk baseS p (k.take i ++ [x]) := hsn ▸ hkk.pre (i + 1)
      cases hst : stepE baseS p (k.take (i + 1)) r with
      | none =>
        rw [hst] at ft
        (conv=>arg 2;whnf);refine wp_need hneed ?_
        (conv=>arg 2;whnf);refine wp_pcV (.cons (.refl _) (.cons (.refl _) (.cons hsl (.cons (.refl _) .nil)))) ft ?_
        (conv=>arg 2;whnf)
        refine wp_cutR (frL [(12, .c (errV (some 18)))]) [] (.cons (.refl _) (.nil _)) (List.nil_sublist _) ?_
        (repeat ((conv=>arg 2;whnf);first|refine wp_it rfl ?_|refine wp_if rfl ?_))
        (conv=>arg 2;whnf);refine wp_pcall (is_call (some 18) 18) ?_
        (conv=>arg 2;whnf)
        refine wp_leaf (loop_ret ?_)
        (conv=>arg 2;whnf);refine w_ret1 rfl (Vle.refl _) (List.nil_sublist _) rfl
      | some y =>
        obtain ⟨r', ms⟩ := y
        rw [hst] at ft
        obtain ⟨hr', _⟩ := step_runs hpn hr hst
        rw [hsn] at hst
        obtain ⟨hI', _⟩ := step_inv hk2 hI hst
        rw [← hsn] at hI'
        have hlt : k.length - (i + 1) < k.length - i := by omega
        (conv=>arg 2;whnf);refine wp_need hneed ?_
        (conv=>arg 2;whnf);refine wp_pcV (.cons (.refl _) (.cons (.refl _) (.cons hsl (.cons (.refl _) .nil)))) ft ?_
        (conv=>arg 2;whnf)
        refine wp_cutR (frL [(2, .pt (some 4) (.agg (paC p)) 0), (5, .pt (some 1) (scV baseS) 0), (6, kpsV k), (9, i64V i), (10, runsV r'), (12, .c (errV none))]) [] (.cons (.refl _) (.cons (.refl _) (.cons (.refl _) (.cons (.refl _) (.cons (.refl _) (.cons (.refl _) (.nil _))))))) (List.nil_sublist _) ?_
        clear ft hst hk2 hI hr
        (repeat ((conv=>arg 2;whnf);first|refine wp_it rfl ?_|refine wp_if rfl ?_))
        (conv=>arg 2;whnf);refine wp_loop (fun m fr R => ∃ j : Nat, m = r'.length - j ∧ j ≤ r'.length ∧ R = [] ∧ fr = frL [(2, .pt (some 4) (.agg (paC p)) 0), (5, .pt (some 1) (scV baseS) 0), (6, kpsV k), (8, runsV r'), (9, i64V i), (13, i64V j)])
          r'.length _ _ (.cons (.refl _) (.cons (.refl _) (.cons (.refl _) (.cons (.refl _) (.cons (.refl _) (.cons (.refl _) (.nil _))))))) (List.Sublist.refl _) ⟨0, rfl, Nat.zero_le _, rfl, rfl⟩ ?_
        rintro m fr R ⟨j, rfl, hj, rfl, rfl⟩
        have hrn := hr'.n
        (conv=>arg 2;whnf);refine wp_ite (fun h3 => ?_) (fun h3 => ?_)
        · have h3 : j < r'.length := by
            have := of_decide_eq_true h3
            rw [List.length_map] at this; omega
          obtain ⟨b, hbj⟩ : ∃ b, r'[j]? = some b := ⟨_, List.getElem?_eq_getElem h3⟩
          have hbm := List.mem_of_getElem? hbj
          obtain ⟨hbo, hbn⟩ := hr'.each b hbm
          obtain ⟨g1, g2, _⟩ := (hI'.2 b).1 hbm
          have fp := rprefix_call baseS base_ok p hpf (k.take (i + 1)) hkt b (by omega) hbo.el
          rw [g1] at fp
          have fd := rdone_call p hpn b (by omega)
          obtain ⟨dn, hdn⟩ : ∃ dn, dn = doneE p b := ⟨_, rfl⟩
          rw [← hdn] at fd
          have hlp : dn = true → lastPlus p = true := fun e => goesOn_last g2 (hdn.symm.trans e)
          obtain ⟨y, hy, _, hey⟩ := nt_at p (n := p.els.length - 1) (by omega)
          have hyp : lastPlus p = y.plus := by rw [lastPlus, hey]
          have hwn : IntKind.i64.wrap (((p.els.map elV).length : Int) - 1) = ((p.els.length - 1 : Nat) : Int) := by rw [List.length_map, w_i64_small (by omega) (by omega)]; omega
          have hnx : r'.length - (j + 1) < r'.length - j := by omega
          have hj62 : j < 2 ^ 62 := by omega
          clear hdn g1 g2 hbo
          (conv=>arg 2;whnf)
          refine wp_cutR (frL [(2, .pt (some 4) (.agg (paC p)) 0), (5, .pt (some 1) (scV baseS) 0), (6, kpsV k), (8, runsV r'), (9, i64V i), (13, i64V j)]) [] (.cons (.refl _) (.cons (.refl _) (.cons (.refl _) (.cons (.refl _) (.cons (.refl _) (.cons (.refl _) (.nil _))))))) (List.nil_sublist _) ?_
          (conv=>arg 2;whnf);refine wp_need hneed ?_
          (conv=>arg 2;whnf);refine wp_elem j (runV b) rfl (runs_at hbj) (Vle.refl _) ?_
          (conv=>arg 2;whnf);refine wp_pcV (.cons (.refl _) (.cons (.refl _) (.cons hsl (.cons (.refl _) .nil)))) fp ?_
          (repeat ((conv=>arg 2;whnf);first|refine wp_it rfl ?_|refine wp_if rfl ?_))
          (conv=>arg 2;whnf);refine wp_ite (fun h4 => ?_) (fun h4 => ?_)
          · have h4 : 0 < j := by have := of_decide_eq_true h4; omega
            obtain ⟨a, haj⟩ : ∃ a, r'[j - 1]? = some a := ⟨_, List.getElem?_eq_getElem (by omega)⟩
            have hless : lessR a b = true := by
              have h5 := List.pairwise_iff_getElem.1 hI'.1 (j - 1) j (by omega) h3 (by omega)
              rw [(List.getElem?_eq_some_iff.1 haj).2, (List.getElem?_eq_some_iff.1 hbj).2] at h5
              exact decide_eq_true h5
            have fl := rless_call a b (by have := (hr'.each a (List.mem_of_getElem? haj)).2; omega) (by omega)
            rw [hless] at fl
            have hwj : IntKind.i64.wrap ((j : Int) - 1) = ((j - 1 : Nat) : Int) := by rw [w_i64_small (by omega) (by omega)]; omega
            (conv=>arg 2;whnf);refine wp_elem (j - 1) (runV a) hwj (runs_at haj) (Vle.refl _) ?_
            (conv=>arg 2;whnf);refine wp_elem j (runV b) rfl (runs_at hbj) (Vle.refl _) ?_
            (conv=>arg 2;whnf);refine wp_pc fl ?_
            (repeat ((conv=>arg 2;whnf);first|refine wp_it rfl ?_|refine wp_if rfl ?_))
            (conv=>arg 2;whnf);refine wp_elem j (runV b) rfl (runs_at hbj) (Vle.refl _) ?_
            (conv=>arg 2;whnf);refine wp_pc fd ?_
            cases dn with
            | true =>
              have e5 : (!y.plus) = false := by rw [← hyp, hlp rfl]; rfl
              (repeat ((conv=>arg 2;whnf);first|refine wp_it rfl ?_|refine wp_if rfl ?_))
              (conv=>arg 2;whnf);refine wp_elem (p.els.length - 1) (elV y) hwn (els_at2 hy) (Vle.refl _) ?_
              (conv=>arg 2;whnf);refine wp_if e5 ?_
              (conv=>arg 2;whnf)
              exact wp_leaf (loop_next (r'.length - (j + 1)) _ [] hnx (.cons (.refl _) (.cons (.refl _) (.cons (.refl _) (.cons (.refl _) (.cons (.refl _) (.cons (Vle.inc j rfl hj62) (.nil _))))))) (List.nil_sublist _) ⟨j + 1, rfl, h3, rfl, rfl⟩)
            | false =>
              (repeat ((conv=>arg 2;whnf);first|refine wp_it rfl ?_|refine wp_if rfl ?_))
              (conv=>arg 2;whnf)
              exact wp_leaf (loop_next (r'.length - (j + 1)) _ [] hnx (.cons (.refl _) (.cons (.refl _) (.cons (.refl _) (.cons (.refl _) (.cons (.refl _) (.cons (Vle.inc j rfl hj62) (.nil _))))))) (List.nil_sublist _) ⟨j + 1, rfl, h3, rfl, rfl⟩)
          · (repeat ((conv=>arg 2;whnf);first|refine wp_it rfl ?_|refine wp_if rfl ?_))
            (conv=>arg 2;whnf);refine wp_elem j (runV b) rfl (runs_at hbj) (Vle.refl _) ?_
            (conv=>arg 2;whnf);refine wp_pc fd ?_
            cases dn with
            | true =>
              have e5 : (!y.plus) = false := by rw [← hyp, hlp rfl]; rfl
              (repeat ((conv=>arg 2;whnf);first|refine wp_it rfl ?_|refine wp_if rfl ?_))
              (conv=>arg 2;whnf);refine wp_elem (p.els.length - 1) (elV y) hwn (els_at2 hy) (Vle.refl _) ?_
              (conv=>arg 2;whnf);refine wp_if e5 ?_
              (conv=>arg 2;whnf)
              exact wp_leaf (loop_next (r'.length - (j + 1)) _ [] hnx (.cons (.refl _) (.cons (.refl _) (.cons (.refl _) (.cons (.refl _) (.cons (.refl _) (.cons (Vle.inc j rfl hj62) (.nil _))))))) (List.nil_sublist _) ⟨j + 1, rfl, h3, rfl, rfl⟩)
            | false =>
              (repeat ((conv=>arg 2;whnf);first|refine wp_it rfl ?_|refine wp_if rfl ?_))
              (conv=>arg 2;whnf)
              exact wp_leaf (loop_next (r'.length - (j + 1)) _ [] hnx (.cons (.refl _) (.cons (.refl _) (.cons (.refl _) (.cons (.refl _) (.cons (.refl _) (.cons (Vle.inc j rfl hj62) (.nil _))))))) (List.nil_sublist _) ⟨j + 1, rfl, h3, rfl, rfl⟩)
        · (conv=>arg 2;whnf)
          refine wp_leaf (loop_exit ?_)
          (conv=>arg 2;whnf)
          exact wp_leaf (loop_next (k.length - (i + 1)) _ [] hlt (.cons (.refl _) (.cons (.refl _) (.cons (.refl _) (.cons (.refl _) (.cons (Vle.inc i rfl (by omega)) (.nil _)))))) (List.nil_sublist _) ⟨i + 1, r', rfl, h, rfl, hr', hI', rfl⟩)
    · (conv=>arg 2;whnf)
      refine wp_leaf (loop_exit ?_)
      (conv=>arg 2;whnf);refine w_ret1 rfl (Vle.refl _) (List.nil_sublist _) rfl
theorem stepruns_law (p : Pa) (l : List Ev) (hp : PaBd p) (hrg : ∀ e ∈ p.els, exRg e.cond) (hl : l.length < 2 ^ 30) (hb : ∀ e ∈ l, EvBd e) : PCall Tryz.prog 4 [.agg (paC p), evsV l] (bV true) := stepruns_call trivial p hp hrg l hl hb
end Go.Sv
