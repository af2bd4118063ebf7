/- A tree's weakest precondition is the code's. -/
import Derived.Test.YtdkbdmfhidimmaaDoorSvEff
import Derived.WalkSpells
namespace Go.Sv
open Go

section
variable {P : Program} {N n0 : Nat} {Q : Exit → Fr → List Res → Prop} {g : Gh} {w : World} {R : List Res} {fr : Fr} {a : Act} {live : List Nat} {ords : List (Nat × List Nat)} {o : Oper}

theorem fresh_size {g : Gh} {w : World} {R : List Res} (hr : RelR g w R) : Fresh R w.heap.size := by
  intro i c cs hR hne e
  have := hr.all _ (List.mem_of_getElem? hR)
  simp only [RelRes] at this
  rcases this with h | ⟨vals, e', fz, h, _⟩
  · exact hne h
  · rw [e, Array.getElem?_eq_none (Nat.le_refl _)] at h; cases h

theorem VleL.app {ys zs : List V} (h : VleL ys zs) : ∀ xs : List V, VleL (xs ++ ys) (xs ++ zs)
  | [] => h
  | x :: xs => .cons (Vle.refl x) (VleL.app h xs)

theorem run_nilcmp {t e : TypeId} {x : Operand} {A : Option Addr} {n c : Nat} (eq : Bool) (ht : P.underlying t = some (.slice e)) :
    (do eqGuard (if eq then .eql else .neq) t x (.const (.slice none 0 0)) (.slice A n c) (.slice none 0 0); binOp (if eq then .eql else .neq) t (.slice A n c) (.slice none 0 0) : Sem Value).run P w = .ok (.bool (bif eq then A.isNone else !A.isNone)) w := by
  cases eq
  · have := Go.run_neq_slice_nil_any (P := P) w t e A n c 0 0 ht
    simp only [Bool.false_eq_true, if_false, Sem.run_bind, cond_false]
    have hg : (eqGuard .neq t x (.const (.slice none 0 0)) (.slice A n c) (.slice none 0 0)).run P w = .ok () w := rfl
    rw [hg]; exact this
  · have : (binOp .eql t (.slice A n c) (.slice none 0 0)).run P w = .ok (.bool A.isNone) w := by
      simp only [binOp]
      simp [Op.equal, Op.maxDepth, Lib.run_equalIn_slice_nil w 9999 t e A n c 0 0 ht]
    simp only [if_true, Sem.run_bind, cond_true]
    have hg : (eqGuard .eql t x (.const (.slice none 0 0)) (.slice A n c) (.slice none 0 0)).run P w = .ok () w := rfl
    rw [hg]; exact this

theorem room_Fw (r : Option Nat) : (Fw r).depth.isSome = true → 1 ≤ 0 := by simp [Fw, Fence.wide]
theorem fn_Fw (r : Option Nat) (f : FuncId) : (Fw r).fn f := trivial

/-- What an operation's answer must come to. -/
theorem upon_value {r : Option Nat} {K : Act → World → Prop} {Qp : Exit → Act → World → Prop} {x : Value} {w' : World} (hnd : ∀ c, o.op ≠ .defer c) (h : (execOp a.eval o).run P w = .ok (.value x) w') (hk : K (a.put o.dst x) w') :
    o.wpIn (Fw r) 0 P a w K Qp := by
  refine ⟨fun _ _ => trivial, ?_⟩
  rw [Oper.semAt_eq _ _ _ hnd, h]
  exact hk

theorem upon_answers {r : Option Nat} {K : Act → World → Prop} {Qp : Exit → Act → World → Prop} {s : Sem Next} {K' : Value → World → Prop} (hnd : ∀ c, o.op ≠ .defer c) (h : (execOp a.eval o).run P w = s.run P w)
    (ha : Answers P s w K') (hk : ∀ x w', K' x w' → K (a.put o.dst x) w') : o.wpIn (Fw r) 0 P a w K Qp := by
  refine ⟨fun _ _ => trivial, ?_⟩
  rw [Oper.semAt_eq _ _ _ hnd, h]
  rcases ha with ⟨x, w', h1, h2⟩ | ⟨f, args, w', h1, h2⟩ | ⟨row, args, w', h1, h2⟩
  · rw [h1]; exact hk _ _ h2
  · rw [h1]
    refine ⟨room_Fw r, ?_⟩
    have h3 : CallsIn (Fw r) 0 P f args w' fun e w'' => ∃ x, e = .returned x ∧ K' x w'' := h2
    refine h3.mono ?_
    rintro e w'' ⟨x, rfl, hx⟩
    exact hk _ _ hx
  · rw [h1]
    refine ⟨room_Fw r, ?_⟩
    have h3 : RowsIn (Fw r) 0 P row args w' K' := h2
    exact h3.mono fun x w'' hx => hk _ _ hx

/-- ONE OPERATION. -/
theorem op_step (hs : St N n0 g w R fr a) (hd : ∀ k, o.dst = some k → k < N) {k : Fr → Tree} {p : Bool} (h : (finish p (sOp P live fr o) o.dst fr k).wp P R Q) (r : Option Nat) {K : Act → World → Prop} {Qp : Exit → Act → World → Prop}
    (hn : ∀ a' w', NextP P N n0 Q k g w R a' w' → K a' w') : o.wpIn (Fw r) 0 P a w K Qp := by
  have hnd : ∀ c, o.op ≠ .defer c := fun c hc => by
    rw [inv_defer hc] at h; exact h.elim
  cases hop : sOp P live fr o with
  | val v =>
    rw [hop] at h
    obtain ⟨x, g', w', h1, h2, h3⟩ := sOp_gives (P := P) (live := live) (o := o) (v := v) hs.wf hs.fr (by rw [hop]; rfl)
    exact upon_value hnd h1 (hn _ _ (next_put hs (after_of_ext hs.res h2) hd h3 h))
  | need q v =>
    rw [hop] at h
    obtain ⟨x, g', w', h1, h2, h3⟩ := sOp_gives (P := P) (live := live) (o := o) (v := v) hs.wf hs.fr (by rw [hop]; exact ⟨h.1, rfl⟩)
    exact upon_value hnd h1 (hn _ _ (next_put hs (after_of_ext hs.res h2) hd h3 h.2))
  | load b off sh =>
    rw [hop] at h
    have h : ∃ (i : Nat) (cs : List V) (v : V), R[i]? = some (.obj b cs) ∧ partOf sh cs off = some v ∧ (k (putO fr o.dst v)).wp P R Q := by
      cases p with
      | false => exact h
      | true => exact h.elim
    obtain ⟨i, cs, v, h1, h2, h3⟩ := h
    obtain ⟨t, x, ho, hsh, hx⟩ := inv_load hop
    obtain ⟨y, hy, hr⟩ := e_load (P := P) hs hsh (x := a.eval x) (hx ▸ ev_rel hs.fr x) h1 h2
    have hrun : (execOp a.eval o).run P w = .ok (.value y) w := by simp only [execOp, ho]; exact run_v hy
    exact upon_value hnd hrun (hn _ _ (next_put hs (After.refl hs.wf hs.res) hd hr h3))
  | store b off vs =>
    rw [hop] at h
    obtain ⟨i, cs, us, h1, h2, h3, h4, h5⟩ := h
    obtain ⟨t, x, y, sh, ho, hsh, hx, hvs⟩ := inv_store hop
    have hv := ev_rel hs.fr y
    have hcells : RelL g w vs (a.eval y).cells.toList ∧ (a.eval y).cells.size = width sh := by
      rcases hvs with ⟨rfl, rfl⟩ | ⟨ds, rfl, hy, rfl⟩
      · have := cells_of_one (oneV_one (h4 _ (List.mem_singleton.2 rfl)) hv)
        rw [this]
        exact ⟨by simp only [RelL]; exact ⟨_, [], rfl, hv, rfl⟩, rfl⟩
      · rw [hy] at hv
        simp only [RelV] at hv
        obtain ⟨l, he, hl⟩ := hv
        rw [he]
        exact ⟨by simpa [Value.cells] using hl, by have := relL_length hl; simpa [Value.cells, width] using this⟩
    obtain ⟨w', hrun, hA⟩ := e_store (P := P) hs hsh (x := a.eval x) (hx ▸ ev_rel hs.fr x) hcells.1 hcells.2 h4 h2 h1 h3
    refine ⟨fun _ _ => trivial, ?_⟩
    rw [Oper.semAt_eq _ _ _ hnd]
    have : (execOp a.eval o).run P w = .ok .skip w' := by simp [execOp, ho, hrun]
    rw [this]
    exact hn _ _ (next_put hs hA hd (relV_undef _ _ _) h5)
  | alloc cs =>
    rw [hop] at h
    rcases inv_alloc hop with ⟨t, i, z, ho, hi, hz, hcs⟩ | ⟨t, x, ho, hcs⟩
    · have hl := relL_cells (ofC_rel g w z) hcs
      have hA := after_alloc_obj hs.wf (e := t) hl
      have hA' := After.frame (A := R) (B := []) (R := []) (by simpa using hs.res) hA
      simp only [List.append_nil] at hA'
      have hrun : (execOp a.eval o).run P w = .ok (.value (.pointer (some ⟨w.heap.size, 0, none⟩))) (w.alloc (.cells z.cells t)) := by
        simp [execOp, ho, Instr.alloc, zeroValue, typeInfo, hi, hz, newVar, newRow]
      exact upon_value hnd hrun (hn _ _ (next_put hs hA' hd (by simp only [RelV]) (h w.heap.size (fresh_size hs.res))))
    · have hl := relL_cells (ev_rel hs.fr x) hcs
      have hA := after_alloc_obj hs.wf (e := t) hl
      have hA' := After.frame (A := R) (B := []) (R := []) (by simpa using hs.res) hA
      simp only [List.append_nil] at hA'
      have hrun : (execOp a.eval o).run P w = .ok (.value (.pointer (some ⟨w.heap.size, 0, none⟩))) (w.alloc (.cells (a.eval x).cells t)) := by
        simp [execOp, ho, Instr.box, newVar, newRow]
      exact upon_value hnd hrun (hn _ _ (next_put hs hA' hd (by simp only [RelV]) (h w.heap.size (fresh_size hs.res))))
  | append sh by_ x ys =>
    rw [hop] at h
    obtain ⟨zs, hzs, hok, h⟩ := h
    obtain ⟨args, ats, t, tx, e, i, s, y, ho, hts, has, ht, hsh, hi, rfl, hby, hz, hs1, hy⟩ := inv_append hop
    obtain ⟨j, hj, hsz⟩ := shape_info hsh
    rw [hi] at hj; cases hj
    have hap : Nonempty (Appended P g w sh i.size tx (a.eval y) ys) := by
      have hv := ev_rel hs.fr y
      rcases hy with ⟨e', tok, h1, h2⟩ | ⟨e', sh', tok, h1, h2, rfl⟩ | ⟨str, h1, h2, rfl, rfl⟩
      · rw [h2] at hv; exact appended_slice hsz h1 hv hok
      · rw [h2] at hv; exact appended_nil h1 hv
      · rw [h2] at hv
        simp only [RelV] at hv
        rw [hv, hsz]; exact appended_string h1 str
    obtain ⟨ap⟩ := hap
    have hlen := hzs.length
    have hxv : RelV g w x (a.eval s) := hs1 ▸ ev_rel hs.fr s
    have harr : args.map a.eval = #[a.eval s, a.eval y] := by
      apply Array.ext'; simp [has]
    have hats : ats = #[t, tx] := by apply Array.ext'; simp [hts]
    have hrun : ∀ {v : Value} {w' : World}, (Builtin.append_ #[t, tx] o.type #[a.eval s, a.eval y]).run P w = .ok v w' → (execOp a.eval o).run P w = .ok (.value v) w' := by
      intro v w' hr
      simp [execOp, ho, resolve, invoke, builtin, harr, hats, hr]
    rcases h with ⟨sh', rfl, hle, hk⟩ | ⟨n, k', xs, rfl, hR, hle, hk⟩
    · obtain ⟨v, w', g', h1, h2, h3⟩ := e_append_zero (ty := o.type) hs.wf ht hi hsz hby hz hxv ap (by rw [← hlen]; exact hle)
      have hA' := After.frame (A := R) (B := []) (R := []) (by simpa using hs.res) h2
      simp only [List.append_nil] at hA'
      exact upon_value hnd (hrun h1) (hn _ _ (next_put hs hA' hd (Vle.xs hzs _ _ _ h3) (hk _)))
    · obtain ⟨A, B, hAB, hset⟩ := split_at hR
      subst hAB
      obtain ⟨v, w', g', h1, h2, h3⟩ := e_append_tok (ty := o.type) hs.wf ht hi hsz hby hz hxv (hs.res.sub (by simp)) ap (by rw [← hlen]; exact hle)
      have hA' := After.frame hs.res h2
      rw [← hset (.tok g.nt sh)] at hA'
      have happ : Vle (.sl sh (xs ++ ys) (.t g.nt)) (.sl sh (xs ++ zs) (.t g.nt)) := by
        exact Vle.xs (VleL.app hzs xs)
      exact upon_value hnd (hrun h1) (hn _ _ (next_put hs hA' hd (happ _ _ _ h3) (hk _)))
  | made sh xs =>
    rw [hop] at h
    obtain ⟨t, n, parts, e, ho, ht, hsh, rfl, hk, hf, hn', hz, hn65⟩ := inv_made hop
    obtain ⟨cells, hr, hsz, hlen, hx⟩ := run_buildSlice (P := P) (w := w) (parts := parts.map fun (i, x) => (i, a.eval x)) ht hsh hz (by simpa [List.map_map, Function.comp_def] using hk) hf (by simpa [List.map_map, Function.comp_def] using parts_rel hs.fr parts.toList) hn'
    have hrun : (execOp a.eval o).run P w = .ok (.value (.slice (some ⟨w.heap.size, 0, none⟩) n n)) (w.alloc (.cells cells e)) := by
      simp only [execOp, ho]; exact run_v hr
    obtain ⟨g', hA, hv⟩ := e_made hs.wf (e := e) hsz hlen hx (by
      simp only [maxLen]; omega)
    have hA' := After.frame (A := R) (B := []) (R := []) (by simpa using hs.res) hA
    simp only [List.append_nil] at hA'
    exact upon_value hnd hrun (hn _ _ (next_put hs hA' hd hv (h _)))
  | call f vs =>
    rw [hop] at h
    have h : ∃ args', VleL vs args' ∧ SCall P f args' R fun v R' => (k (putO fr o.dst v)).wp P R' Q := by
      cases p with
      | false => exact h
      | true =>
        obtain ⟨args', v, h1, h2, h3⟩ := h
        exact ⟨args', h1, (h2.any R).mono fun u R' ⟨e1, e2⟩ => by subst e1; subst e2; exact h3⟩
    obtain ⟨args', hle, hc⟩ := h
    obtain ⟨x, args, ats, first, caps, ho, hx, rfl⟩ := inv_call hop
    have hv := ev_rel hs.fr x
    rw [hx] at hv
    simp only [RelV] at hv
    obtain ⟨l, m, he, hl, hm⟩ := hv
    have hargs : RelL g w args' (l.toList ++ args.toList.map a.eval ++ m.toList) := hle.rel (relL_append (relL_append hl (rel_map hs.fr args.toList)) hm)
    have := hc g w _ hs.wf hargs hs.res
    refine upon_answers hnd (s := callFunc f (l.toList ++ args.toList.map a.eval ++ m.toList).toArray) ?_ this ?_
    · have e1 : (l ++ args.map a.eval ++ m) = (l.toList ++ args.toList.map a.eval ++ m.toList).toArray := by apply Array.ext'; simp
      simp only [execOp, ho, resolve, he, Deferred.ofValue, Sem.run_bind, Sem.run_pure, Result.andThen_ok, invoke, e1]
    · rintro y w' ⟨v, g', R', hK, hA, hvy⟩
      exact hn _ _ (next_put hs hA hd hvy hK)
  | yld l vs =>
    rw [hop] at h
    have h : ∃ args', VleL vs args' ∧ YCall P l args' R fun b R' => (k (putO fr o.dst (.c (.bool b)))).wp P R' Q := by
      cases p with
      | false => exact h
      | true => exact h.elim
    obtain ⟨args', hle, hc⟩ := h
    obtain ⟨x, args, ats, ho, hx, rfl⟩ := inv_yld hop
    have hv := ev_rel hs.fr x
    rw [hx] at hv
    simp only [RelV, RelL] at hv
    obtain ⟨p, q, he, hp, hq⟩ := hv
    have hp' : p = #[] := by apply Array.ext'; simpa using hp
    have hq' : q = #[] := by apply Array.ext'; simpa using hq
    subst hp'; subst hq'
    have hargs : RelL g w args' (args.toList.map a.eval) := hle.rel (rel_map hs.fr args.toList)
    obtain ⟨f, tmps, assign, body, hy, hR⟩ := hc g w _ hs.wf hargs hs.res
    refine ⟨fun _ _ => trivial, ?_⟩
    rw [Oper.semAt_eq _ _ _ hnd]
    have e1 : (args.map a.eval) = (args.toList.map a.eval).toArray := by apply Array.ext'; simp
    have hrun : (execOp a.eval o).run P w = .ok (.round l f tmps assign body) w := by
      simp only [execOp, ho, resolve, he, Deferred.ofValue, Sem.run_bind, Sem.run_pure, Result.andThen_ok, invoke]
      simpa [e1] using hy
    rw [hrun]
    refine ⟨room_Fw r, ?_⟩
    have h3 : RoundIn (Fw r) 0 P l f tmps assign body w _ := hR
    refine h3.mono ?_
    rintro e w' ⟨b, g', R', rfl, hK, hA⟩
    exact hn _ _ (next_put hs hA hd (by simp only [RelV]) hK)
  | nilcmp eq xs =>
    rw [hop] at h
    obtain ⟨t, x, ty, e, sh, tok, ho, ht, hx⟩ := inv_nilcmp hop
    have hv := ev_rel hs.fr x
    rw [hx] at hv
    simp only [RelV] at hv
    obtain ⟨A, n, c, he, hlen, hc, _, hr⟩ := hv
    have hA : A = none → xs = [] := fun hA => by
      rcases hr with hr | ⟨b, q, hb, _⟩
      · exact hr
      · rw [hA] at hb; cases hb
    have hrun : (execOp a.eval o).run P w = .ok (.value (.bool (bif eq then A.isNone else !A.isNone))) w := by
      have := run_nilcmp (P := P) (w := w) (x := x) (A := A) (n := n) (c := c) eq ht
      simp only [execOp, ho, he]
      exact run_v this
    refine upon_value hnd hrun (hn _ _ (next_put hs (After.refl hs.wf hs.res) hd ?_ (h A.isNone (fun hb => hA (Option.isNone_iff_eq_none.1 hb)))))
    simp only [RelV]
  | elem sh xs n =>
    rw [hop] at h
    obtain ⟨i, u', u, hni, hi, hle, h⟩ := h
    have hlt := (List.getElem?_eq_some_iff.1 hi).1
    obtain ⟨x, g', w', h1, h2, h3⟩ := sOp_gives (P := P) (live := live) (o := o) (v := .pt sh (xs.getD n.toNat .undef) 0) hs.wf hs.fr (by rw [hop]; exact ⟨⟨by omega, by omega⟩, rfl⟩)
    have e : xs.getD n.toNat .undef = u' := by subst hni; simp [hi]
    rw [e] at h3
    exact upon_value hnd h1 (hn _ _ (next_put hs (after_of_ext hs.res h2) hd (Vle.pt hle _ _ _ h3) h))
  | eff e =>
    rw [hop] at h
    have h : e.W R fun v R' => (k (putO fr o.dst v)).wp P R' Q := by
      cases p with
      | false => exact h
      | true => exact h.elim
    obtain ⟨v, u, g', w', R', h1, h2, h3, h4⟩ := eff_sound hs.wf hs.res hs.fr (inv_eff hop) h
    exact upon_value hnd h1 (hn _ _ (next_put hs h2 hd h3 h4))
  | bad => rw [hop] at h; exact h.elim

end
end Go.Sv
