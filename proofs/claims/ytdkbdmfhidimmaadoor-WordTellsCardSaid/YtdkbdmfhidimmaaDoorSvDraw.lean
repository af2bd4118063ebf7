/- Regions whose order is drawn. -/
import Derived.Test.YtdkbdmfhidimmaaDoorSvSound
import Derived.OrdersIn
namespace Go.Sv
open Go

/-- 0: touches nothing that changes · 1: reads at most · 2: all else. -/
def kindOf (live : List Nat) (o : Oper) : Nat :=
  match o.op with
  | .load _ _ => bif o.dst.any live.contains then 1 else 0
  | .store _ _ _ => 2
  | .alloc _ => 2
  | .box _ _ => bif o.dst.any live.contains then 2 else 0
  | .buildSlice _ _ _ => bif o.dst.any live.contains then 2 else 0
  | .call c => match c.callee with
    | .builtin .append => 2
    | .builtin .copy => 2
    | .builtin .clear => 2
    | .value _ => bif o.dst.any live.contains then 2 else 0
    | _ => 0
  | .makeSlice _ _ _ => 2
  | .convert _ _ _ => bif o.dst.any live.contains then 2 else 0
  | .binOp _ _ _ y _ => match y with
    | .const (.slice none 0 0) => 2
    | _ => 0
  | _ => 0

/-- What an operation comes to, its guard looked at. -/
def opE (P : Program) (live : List Nat) (ops : Array Oper) (fr : Fr) (o : Oper) : OpR :=
  match o.guard with
  | none => sOp P live fr o
  | some (j, want) =>
    match (ops[j]?).bind (·.dst) with
    | none => .bad
    | some d => match fr d with
      | .c (.bool b) => bif b == want then sOp P live fr o else .val uV
      | .c (.tuple _) => .val uV
      | _ => .bad

def opW (P : Program) (p : Bool) (r : OpR) (R : List Res) (Y : V → List Res → Prop) : Prop :=
  match r with
  | .val v => Y v R
  | .need q v => q ∧ Y v R
  | .load b off sh => match p with
    | false => ∃ (i : Nat) (cs : List V) (v : V), R[i]? = some (.obj b cs) ∧ partOf sh cs off = some v ∧ Y v R
    | true => False
  | .store b off vs => ∃ (i : Nat) (cs us : List V), R[i]? = some (.obj b cs) ∧ VleL vs us ∧ off + us.length ≤ cs.length ∧ (∀ v ∈ vs, oneV v = true) ∧ Y .undef (R.set i (.obj b (splice cs off us)))
  | .alloc v => ∀ b, Fresh R b → Y (.loc b 0) (R ++ [.obj b v])
  | .append sh by_ x ys => ∃ zs, VleL ys zs ∧ (∀ y ∈ ys, okE sh y) ∧
      ((∃ sh', x = .sl sh' [] .zero ∧ zs.length * by_ ≤ 140737488355328 ∧ ∀ t, Y (.sl sh zs (.t t)) (R ++ [.tok t sh])) ∨
       (∃ (i t : Nat) (xs : List V), x = .sl sh xs (.t t) ∧ R[i]? = some (.tok t sh) ∧ (xs.length + zs.length) * by_ ≤ 140737488355328 ∧ ∀ t', Y (.sl sh (xs ++ zs) (.t t')) (R.set i (.tok t' sh))))
  | .made sh xs => ∀ t, Y (.sl sh xs (.t t)) (R ++ [.tok t sh])
  | .call f args => match p with
    | false => ∃ args', VleL args args' ∧ SCall P f args' R Y
    | true => ∃ args' v, VleL args args' ∧ PCall P f args' v ∧ Y v R
  | .yld l args => match p with
    | false => ∃ args', VleL args args' ∧ YCall P l args' R fun b R' => Y (.c (.bool b)) R'
    | true => False
  | .nilcmp e xs => ∀ b : Bool, (b = true → xs = []) → Y (.c (.bool (bif e then b else !b))) R
  | .elem sh xs n => ∃ (i : Nat) (u' u : V), n = i ∧ xs[i]? = some u' ∧ Vle u' u ∧ Y (.pt sh u 0) R
  | .eff e => match p with
    | false => e.W R Y
    | true => False
  | .bad => False

section
variable {P : Program} {live : List Nat} {ops : Array Oper} {R : List Res} {fr : Fr} {o : Oper}

theorem finish_wp {p : Bool} {r : OpR} {d : Option Nat} {k : Fr → Tree} {Q : Exit → Fr → List Res → Prop} : (finish p r d fr k).wp P R Q ↔ opW P p r R (fun v R' => (k (putO fr d v)).wp P R' Q) := by
  cases r <;> cases p <;> exact Iff.rfl

theorem opW_mono {p : Bool} {r : OpR} {Y Y' : V → List Res → Prop} (hy : ∀ v R, Y v R → Y' v R) (h : opW P p r R Y) : opW P p r R Y' := by
  cases r with
  | val v => exact hy _ _ h
  | need q v => exact ⟨h.1, hy _ _ h.2⟩
  | load b off sh => cases p with
    | false => obtain ⟨i, cs, v, h1, h2, h3⟩ := h; exact ⟨i, cs, v, h1, h2, hy _ _ h3⟩
    | true => exact h.elim
  | store b off vs => obtain ⟨i, cs, us, h1, h2, h3, h4, h5⟩ := h; exact ⟨i, cs, us, h1, h2, h3, h4, hy _ _ h5⟩
  | alloc cs => exact fun b hb => hy _ _ (h b hb)
  | append sh by_ x ys =>
    obtain ⟨zs, h1, h2, h3⟩ := h
    refine ⟨zs, h1, h2, ?_⟩
    rcases h3 with ⟨sh', h4, h5, h6⟩ | ⟨i, t, xs, h4, h5, h6, h7⟩
    · exact .inl ⟨sh', h4, h5, fun t => hy _ _ (h6 t)⟩
    · exact .inr ⟨i, t, xs, h4, h5, h6, fun t => hy _ _ (h7 t)⟩
  | made sh xs => exact fun t => hy _ _ (h t)
  | call f args => cases p with
    | false => obtain ⟨a, h1, h2⟩ := h; exact ⟨a, h1, h2.mono hy⟩
    | true => obtain ⟨a, v, h1, h2, h3⟩ := h; exact ⟨a, v, h1, h2, hy _ _ h3⟩
  | yld l args => cases p with
    | false => obtain ⟨a, h1, h2⟩ := h; exact ⟨a, h1, h2.mono fun b R' => hy _ _⟩
    | true => exact h.elim
  | nilcmp e xs => exact fun b hb => hy _ _ (h b hb)
  | elem sh xs n => obtain ⟨i, u', u, h1, h2, h3, h4⟩ := h; exact ⟨i, u', u, h1, h2, h3, hy _ _ h4⟩
  | eff e => cases p with
    | false => exact Eff.W_mono hy h
    | true => exact h.elim
  | bad => exact h.elim

def isPure (p : Bool) (r : OpR) : Prop := (∃ v, r = .val v) ∨ (∃ q v, r = .need q v) ∨ (p = true ∧ ∃ f a, r = .call f a) ∨ (p = true ∧ ∃ l a, r = .yld l a) ∨ (p = true ∧ ∃ b off sh, r = .load b off sh) ∨ (∃ sh xs n, r = .elem sh xs n) ∨ (p = true ∧ ∃ e, r = .eff e) ∨ r = .bad
def isLoad (p : Bool) (r : OpR) : Prop := p = false ∧ ∃ b off sh, r = .load b off sh

theorem opW_pure {p : Bool} {r : OpR} (h : isPure p r) : ∃ C : V → Prop, ∀ R Y, opW P p r R Y ↔ ∃ v, C v ∧ Y v R := by
  rcases h with ⟨v, rfl⟩ | ⟨q, v, rfl⟩ | ⟨rfl, f, a, rfl⟩ | ⟨rfl, l, a, rfl⟩ | ⟨rfl, b, off, sh, rfl⟩ | ⟨sh, xs, n, rfl⟩ | ⟨rfl, e, rfl⟩ | rfl
  · exact ⟨fun u => u = v, fun R Y => ⟨fun h => ⟨v, rfl, h⟩, fun ⟨u, e, h⟩ => e ▸ h⟩⟩
  · exact ⟨fun u => q ∧ u = v, fun R Y => ⟨fun h => ⟨v, ⟨h.1, rfl⟩, h.2⟩, fun ⟨u, e, h⟩ => ⟨e.1, e.2 ▸ h⟩⟩⟩
  · exact ⟨fun u => ∃ a', VleL a a' ∧ PCall P f a' u, fun R Y => ⟨fun ⟨a', v, h1, h2, h3⟩ => ⟨v, ⟨a', h1, h2⟩, h3⟩, fun ⟨v, ⟨a', h1, h2⟩, h3⟩ => ⟨a', v, h1, h2, h3⟩⟩⟩
  · exact ⟨fun _ => False, fun R Y => ⟨fun h => h.elim, fun ⟨_, h, _⟩ => h.elim⟩⟩
  · exact ⟨fun _ => False, fun R Y => ⟨fun h => h.elim, fun ⟨_, h, _⟩ => h.elim⟩⟩
  · exact ⟨fun v => ∃ (i : Nat) (u' u : V), n = i ∧ xs[i]? = some u' ∧ Vle u' u ∧ v = .pt sh u 0, fun R Y => ⟨fun ⟨i, u', u, h1, h2, h3, h4⟩ => ⟨_, ⟨i, u', u, h1, h2, h3, rfl⟩, h4⟩, fun ⟨v, ⟨i, u', u, h1, h2, h3, h5⟩, h4⟩ => ⟨i, u', u, h1, h2, h3, h5 ▸ h4⟩⟩⟩
  · exact ⟨fun _ => False, fun R Y => ⟨fun h => h.elim, fun ⟨_, h, _⟩ => h.elim⟩⟩
  · exact ⟨fun _ => False, fun R Y => ⟨fun h => h.elim, fun ⟨_, h, _⟩ => h.elim⟩⟩

theorem opW_load {p : Bool} {r : OpR} (h : isLoad p r) : ∃ C : V → List Res → Prop, ∀ R Y, opW P p r R Y ↔ ∃ v, C v R ∧ Y v R := by
  obtain ⟨rfl, b, off, sh, rfl⟩ := h
  exact ⟨fun v R => ∃ (i : Nat) (cs : List V), R[i]? = some (.obj b cs) ∧ partOf sh cs off = some v, fun R Y => ⟨fun ⟨i, cs, v, h1, h2, h3⟩ => ⟨v, ⟨i, cs, h1, h2⟩, h3⟩, fun ⟨v, ⟨i, cs, h1, h2⟩, h3⟩ => ⟨i, cs, v, h1, h2, h3⟩⟩⟩

theorem opW_calm {p : Bool} {r : OpR} (h : isPure p r ∨ isLoad p r) : ∃ C : V → List Res → Prop, ∀ R Y, opW P p r R Y ↔ ∃ v, C v R ∧ Y v R := by
  rcases h with h | h
  · obtain ⟨C, hC⟩ := opW_pure (P := P) h; exact ⟨fun v _ => C v, hC⟩
  · exact opW_load h

theorem opW_swap {p p' : Bool} {r r' : OpR} {Y : V → V → List Res → Prop} (hk : isPure p r ∨ (isLoad p r ∧ (isPure p' r' ∨ isLoad p' r'))) (h : opW P p r R fun v R1 => opW P p' r' R1 (Y v)) :
    opW P p' r' R fun u R1 => opW P p r R1 fun v R2 => Y v u R2 := by
  rcases hk with hk | ⟨hk, hk'⟩
  · obtain ⟨C, hC⟩ := opW_pure (P := P) hk
    rw [hC] at h
    obtain ⟨v, h1, h2⟩ := h
    exact opW_mono (fun u R1 hu => (hC _ _).2 ⟨v, h1, hu⟩) h2
  · obtain ⟨C, hC⟩ := opW_load (P := P) (p := p) hk
    obtain ⟨D, hD⟩ := opW_calm (P := P) hk'
    rw [hC] at h
    obtain ⟨v, h1, h2⟩ := h
    rw [hD] at h2
    obtain ⟨u, h3, h4⟩ := h2
    rw [hD]
    exact ⟨u, h3, (hC _ _).2 ⟨v, h1, h4⟩⟩

/-! ### Kinds -/
theorem kind_sOp (hk : kindOf live o ≤ 1) : isPure (pd true live o) (sOp P live fr o) ∨ (kindOf live o = 1 ∧ isLoad (pd true live o) (sOp P live fr o)) := by
  cases hr : sOp P live fr o with
  | val v => exact .inl (.inl ⟨v, rfl⟩)
  | need q v => exact .inl (.inr (.inl ⟨q, v, rfl⟩))
  | load b off sh =>
    obtain ⟨t, x, ho, _⟩ := inv_load hr
    cases hl : o.dst.any live.contains with
    | true => exact .inr ⟨by rw [kindOf, ho]; simp only [hl, cond_true], by simp [pd, hl], b, off, sh, rfl⟩
    | false => exact .inl (.inr (.inr (.inr (.inr (.inl ⟨by simp [pd, hl], b, off, sh, rfl⟩)))))
  | store b off vs =>
    obtain ⟨t, x, y, sh, ho, _⟩ := inv_store hr
    simp [kindOf, ho] at hk
  | alloc cs =>
    rcases inv_alloc hr with ⟨t, i, z, ho, _⟩ | ⟨t, x, ho, _⟩
    · simp [kindOf, ho] at hk
    · have hl : o.dst.any live.contains = false := by
        cases h : o.dst.any live.contains with
        | false => rfl
        | true => rw [kindOf, ho] at hk; simp only [h, cond_true] at hk; omega
      unfold sOp at hr
      rw [ho] at hr
      simp only [hl] at hr
      (repeat' split at hr) <;> simp_all
  | append sh by_ x ys =>
    obtain ⟨args, ats, t, tx, e, i, s, y, ho, _⟩ := inv_append hr
    simp [kindOf, ho] at hk
  | made sh xs =>
    obtain ⟨t, n, parts, e, ho, _⟩ := inv_made hr
    have hl : o.dst.any live.contains = false := by
      cases h : o.dst.any live.contains with
      | false => rfl
      | true => rw [kindOf, ho] at hk; simp only [h, cond_true] at hk; omega
    unfold sOp at hr
    rw [ho] at hr
    simp only [hl] at hr
    (repeat' split at hr) <;> simp_all
  | call f vs =>
    obtain ⟨x, args, ats, first, caps, ho, _⟩ := inv_call hr
    have hl : o.dst.any live.contains = false := by
      cases h : o.dst.any live.contains with
      | false => rfl
      | true => rw [kindOf, ho] at hk; simp only [h, cond_true] at hk; omega
    exact .inl (.inr (.inr (.inl ⟨by simp [pd, hl], f, vs, rfl⟩)))
  | yld l vs =>
    obtain ⟨x, args, ats, ho, _⟩ := inv_yld hr
    have hl : o.dst.any live.contains = false := by
      cases h : o.dst.any live.contains with
      | false => rfl
      | true => rw [kindOf, ho] at hk; simp only [h, cond_true] at hk; omega
    exact .inl (.inr (.inr (.inr (.inl ⟨by simp [pd, hl], l, vs, rfl⟩))))
  | nilcmp e xs =>
    obtain ⟨t, x, ty, e', sh, tok, ho, _⟩ := inv_nilcmp hr
    simp [kindOf, ho] at hk
  | elem sh xs n => exact .inl (.inr (.inr (.inr (.inr (.inr (.inl ⟨sh, xs, n, rfl⟩))))))
  | eff e =>
    have ho := inv_eff hr
    have live2 : ∀ {n : Nat}, kindOf live o = (bif o.dst.any live.contains then 2 else 0) → o.dst.any live.contains = false := fun h => by
      cases hl : o.dst.any live.contains with
      | false => rfl
      | true => rw [hl] at h; simp at h; omega
    have fin : o.dst.any live.contains = false → isPure (pd true live o) (.eff e) ∨ (kindOf live o = 1 ∧ isLoad (pd true live o) (.eff e)) := fun hl => .inl (.inr (.inr (.inr (.inr (.inr (.inr (.inl ⟨by simp [pd, hl], e, rfl⟩)))))))
    cases e with
    | app => obtain ⟨_, _, _, _, _, _, _, _, ho, _⟩ := ho; simp [kindOf, ho] at hk
    | appL => obtain ⟨_, _, _, _, _, _, _, _, _, _, ho, _⟩ := ho; simp [kindOf, ho] at hk
    | appZ => obtain ⟨_, _, _, _, _, _, _, _, _, _, _, ho, _⟩ := ho; simp [kindOf, ho] at hk
    | copy => obtain ⟨_, _, _, _, _, _, _, _, _, ho, _⟩ := ho; simp [kindOf, ho] at hk
    | copyL => obtain ⟨_, _, _, _, _, _, _, _, _, _, ho, _⟩ := ho; simp [kindOf, ho] at hk
    | clear => obtain ⟨_, _, _, _, _, _, _, _, ho, _⟩ := ho; simp [kindOf, ho] at hk
    | make => obtain ⟨_, _, _, _, _, _, _, _, ho, _⟩ := ho; simp [kindOf, ho] at hk
    | bytes => obtain ⟨_, _, _, _, _, ho, _⟩ := ho; exact fin (live2 (n := 0) (by simp [kindOf, ho]))
    | str => obtain ⟨_, _, _, _, _, ho, _⟩ := ho; exact fin (live2 (n := 0) (by simp [kindOf, ho]))
    | isNil => obtain ⟨_, _, _, _, _, _, _, _, ho, _⟩ := ho; simp [kindOf, ho] at hk
  | bad => exact .inl (.inr (.inr (.inr (.inr (.inr (.inr (.inr rfl)))))))

theorem kind_opE (hk : kindOf live o ≤ 1) : isPure (pd true live o) (opE P live ops fr o) ∨ (kindOf live o = 1 ∧ isLoad (pd true live o) (opE P live ops fr o)) := by
  unfold opE
  split
  · exact kind_sOp hk
  · split
    · exact .inl (.inr (.inr (.inr (.inr (.inr (.inr (.inr rfl)))))))
    · split
      · rename_i b _
        cases b == _ with
        | true => exact kind_sOp hk
        | false => exact .inl (.inl ⟨_, rfl⟩)
      · exact .inl (.inl ⟨_, rfl⟩)
      · exact .inl (.inr (.inr (.inr (.inr (.inr (.inr (.inr rfl)))))))

/-! ### What an operation looks at -/
theorem map_ev {fr fr' : Fr} {l : List Operand} (h : ∀ x ∈ l, ev fr x = ev fr' x) : l.map (ev fr) = l.map (ev fr') := List.map_congr_left h

set_option maxHeartbeats 4000000 in
theorem sOp_congr {fr fr' : Fr} (h : ∀ x ∈ o.op.operands.toList, ev fr x = ev fr' x) : sOp P live fr o = sOp P live fr' o := by
  unfold sOp
  cases hop : o.op <;> simp only [hop, Op.operands] at h ⊢
  case build t ps =>
    have : (ps.toList.map fun x => (x.1, ev fr x.2)) = ps.toList.map fun x => (x.1, ev fr' x.2) := List.map_congr_left fun x hx => by
      rw [h x.2 (by simp; exact ⟨x.1, Array.mem_def.2 hx⟩)]
    simp only [this]
  case buildSlice t n ps =>
    have : (ps.toList.map fun x => ev fr x.2) = ps.toList.map fun x => ev fr' x.2 := List.map_congr_left fun x hx => by
      rw [h x.2 (by simp; exact ⟨x.1, Array.mem_def.2 hx⟩)]
    simp only [this]
  case makeFunc f fi ca =>
    rw [map_ev (fr := fr) (fr' := fr') (l := fi.toList) fun x hx => h x (by simp; exact .inl (Array.mem_def.2 hx)), map_ev (fr := fr) (fr' := fr') (l := ca.toList) fun x hx => h x (by simp; exact .inr (Array.mem_def.2 hx))]
  case slice t x lo hi mx =>
    have hx := h x (by simp)
    have hl : lo.map (ev fr) = lo.map (ev fr') := by cases lo with | none => rfl | some y => simp only [Option.map_some]; rw [h y (by simp)]
    have hh : hi.map (ev fr) = hi.map (ev fr') := by cases hi with | none => rfl | some y => simp only [Option.map_some]; rw [h y (by simp)]
    rw [hx, hl, hh]
    have hm : ∀ m, mx = some m → ev fr m = ev fr' m := fun m e => h m (by simp [e])
    clear h hx hl hh
    cases P.underlying t with
    | none => rfl
    | some d => cases d <;> first
      | rfl
      | (cases ev fr' x <;> first
          | rfl
          | (cases mx with
             | none => first
               | rfl
               | (rename_i v; cases v <;> rfl)
             | some m => first
               | rfl
               | (simp only [hm m rfl]; done)
               | (dsimp only; rw [show Option.map (ev fr) (some m) = Option.map (ev fr') (some m) by simp only [Option.map_some, hm m rfl]]; done)
               | (rename_i v; cases v <;> rfl)))
  case call c =>
    have ha : c.args.toList.map (ev fr) = c.args.toList.map (ev fr') := map_ev fun x hx => h x (by
      unfold Call.operands
      split <;> simp <;> first | exact Array.mem_def.2 hx | exact .inr (Array.mem_def.2 hx))
    cases hc : c.callee with
    | value f =>
      have hf := h f (by simp [Call.operands, hc])
      simp only [ha, hf]
    | builtin b => cases b <;> simp only [ha]
    | invoke => rfl
  case binOp => simp only [h _ (List.mem_cons_self ..), h _ (List.mem_cons_of_mem _ (List.mem_cons_self ..))]
  all_goals first
    | rfl
    | (simp at h; simp only [h])

/-! ### The operations of a region, one behind the other -/
theorem ev_putO {fr : Fr} {d : Option Nat} {v : V} {x : Operand} (h : ∀ k, d = some k → x ≠ .tmp k) : ev (putO fr d v) x = ev fr x := by
  cases d with
  | none => rfl
  | some k =>
    cases x with
    | tmp t => exact put_other fun e => h k rfl (by rw [e])
    | _ => rfl

theorem opE_put {fr : Fr} {d : Option Nat} {v : V} (h : ∀ k, d = some k → k ∉ o.looksAt ops) : opE P live ops (putO fr d v) o = opE P live ops fr o := by
  have hs : sOp P live (putO fr d v) o = sOp P live fr o := sOp_congr fun x hx => ev_putO fun k hk e => h k hk (by
    subst e
    exact List.mem_append.2 (.inl (List.mem_filterMap.2 ⟨_, hx, rfl⟩)))
  unfold opE
  cases hg : o.guard with
  | none => exact hs
  | some q =>
    obtain ⟨j, want⟩ := q
    simp only
    cases hj : (ops[j]?).bind (·.dst) with
    | none => rfl
    | some e =>
      have : putO fr d v e = fr e := by
        cases d with
        | none => rfl
        | some k => exact put_other fun he => h k rfl (by
            subst he
            exact List.mem_append.2 (.inr (by simp [hg, hj])))
      simp only [this, hs]

theorem putO_comm {fr : Fr} {d e : Option Nat} {v u : V} (h : ∀ k, d = some k → e ≠ some k) : putO (putO fr d v) e u = putO (putO fr e u) d v := by
  cases d with
  | none => rfl
  | some k => cases e with
    | none => rfl
    | some j =>
      have hne : j ≠ k := fun he => h k rfl (by rw [he])
      funext t
      simp only [putO]
      by_cases h1 : t = j
      · subst h1; rw [put_same, put_other hne, put_same]
      · rw [put_other h1]
        by_cases h2 : t = k
        · subst h2; rw [put_same, put_same]
        · rw [put_other h2, put_other h2, put_other h1]

def RW (P : Program) (live : List Nat) (ops : Array Oper) (Φ : Fr → List Res → Prop) : List Nat → Fr → List Res → Prop
  | [], fr, R => Φ fr R
  | i :: l, fr, R => match ops[i]? with
    | none => False
    | some o => (∀ q ∈ latesOf live o, Apart fr o q) ∧ opW P (pd true live o) (opE P live ops fr o) R fun v R' => RW P live ops Φ l (putO fr o.dst v) R'

theorem relV_uV (g : Gh) (w : World) : RelV g w uV undef := by simp only [uV, RelV]; rfl

theorem late_wp {t : Tree} {Q : Exit → Fr → List Res → Prop} : (late true live o fr t).wp P R Q ↔ (∀ q ∈ latesOf live o, Apart fr o q) ∧ t.wp P R Q := by
  unfold late
  cases h : latesOf live o with
  | nil => simp
  | cons q l => exact Iff.rfl
theorem lates_guard {q : Nat × Bool} (h : o.guard = some q) : latesOf live o = [] := by
  unfold latesOf
  rw [h]
  split <;> simp_all

theorem execOps_RW {k : Fr → Tree} {Q : Exit → Fr → List Res → Prop} : ∀ (l : List Nat) (known : List (Nat × Bool)) (fr : Fr) (R : List Res), (∀ i ∈ l, i < ops.size) → (execOps P live true ops k (l.filterMap fun i => ops[i]?) known fr).wp P R Q →
    RW P live ops (fun fr R => (k fr).wp P R Q) l fr R
  | [], _, _, _, _, h => h
  | i :: l, known, fr, R, hl, h => by
    obtain ⟨o, hi⟩ : ∃ o, ops[i]? = some o := ⟨_, Array.getElem?_eq_getElem (hl i (by simp))⟩
    have hl' : ∀ j ∈ l, j < ops.size := fun j hj => hl j (by simp [hj])
    simp only [List.filterMap_cons, hi, execOps] at h
    simp only [RW, hi]
    have yes : ∀ (known1 : List (Nat × Bool)) (fr1 : Fr), (finish (pd true live o) (sOp P live fr1 o) o.dst fr1 fun fr' => execOps P live true ops k (l.filterMap fun i => ops[i]?) known1 fr').wp P R Q →
        opW P (pd true live o) (sOp P live fr1 o) R fun v R' => RW P live ops (fun fr R => (k fr).wp P R Q) l (putO fr1 o.dst v) R' := fun known1 fr1 h1 =>
      opW_mono (fun v R' h2 => execOps_RW l known1 _ R' hl' h2) (finish_wp.1 h1)
    unfold opE
    cases hg : o.guard with
    | none => rw [hg] at h; exact ⟨(late_wp.1 h).1, yes _ _ (late_wp.1 h).2⟩
    | some q =>
      refine ⟨by rw [lates_guard hg]; simp, ?_⟩
      obtain ⟨j, want⟩ := q
      rw [hg] at h
      simp only at h ⊢
      cases hj : (ops[j]?).bind (·.dst) with
      | none => rw [hj] at h; exact h.elim
      | some d =>
        rw [hj] at h
        simp only at h ⊢
        have want2 : want = true ∨ want = false := Bool.eq_false_or_eq_true want
        split at h
        · rename_i hfd
          simp only [hfd]
          rcases want2 with rfl | rfl
          · exact yes _ _ h
          · exact execOps_RW l _ _ R hl' h
        · rename_i hfd
          simp only [hfd]
          rcases want2 with rfl | rfl
          · exact execOps_RW l _ _ R hl' h
          · exact yes _ _ h
        · rename_i b _ hfd
          have hput : put fr d (.c (.bool b)) = fr := by
            funext t
            by_cases ht : t = d
            · subst ht; rw [put_same, hfd]
            · rw [put_other ht]
          simp only [hfd]
          have b2 : b = true ∨ b = false := Bool.eq_false_or_eq_true b
          rcases want2 with rfl | rfl
          · rcases b2 with rfl | rfl
            · have h1 := h.1 rfl; rw [hput] at h1; exact yes _ _ h1
            · have h1 := h.2 rfl; rw [hput] at h1; exact execOps_RW l _ _ R hl' h1
          · rcases b2 with rfl | rfl
            · have h1 := h.1 rfl; rw [hput] at h1; exact execOps_RW l _ _ R hl' h1
            · have h1 := h.2 rfl; rw [hput] at h1; exact yes _ _ h1
        · rename_i hfd
          simp only [hfd]
          exact execOps_RW l _ _ R hl' h
        · exact h.elim

/-- A slot that one of the operations fills is none that the other's pairs look at. -/
def lateFree (live : List Nat) (x y : Oper) : Bool := (match x.dst with | none => true | some d => !(latesOf live y).contains d) && (match y.dst with | none => true | some d => !(latesOf live x).contains d)
def lateB (live : List Nat) (x y : Oper) : Bool := match y.op with
  | .store _ (.tmp q) _ => (latesOf live x).contains q && Nat.beq (kindOf live x) 1
  | _ => false
def swapB (live : List Nat) (ops : Array Oper) (x y : Oper) : Bool :=
  x.apart ops y && lateFree live x y && ((Nat.beq (kindOf live x) 0 || (Nat.beq (kindOf live x) 1 && Nat.ble (kindOf live y) 1)) || lateB live x y)

theorem apart_put {fr : Fr} {d : Option Nat} {v : V} {q : Nat} (h : ∀ k, d = some k → k ∉ o.looksAt ops) (hq : ∀ k, d = some k → k ≠ q) : Apart (putO fr d v) o q ↔ Apart fr o q := by
  unfold Apart
  split
  · rename_i t x hop
    have h1 : ev (putO fr d v) x = ev fr x := ev_putO fun k hk e => h k hk (by
      subst e
      exact List.mem_append.2 (.inl (List.mem_filterMap.2 ⟨.tmp k, by rw [hop]; simp [Op.operands], rfl⟩)))
    have h2 : putO fr d v q = fr q := by
      cases d with
      | none => rfl
      | some k => exact put_other fun e => hq k rfl e.symm
    rw [h1, h2]
  · exact Iff.rfl

theorem lates_put {fr : Fr} {x y : Oper} {v : V} (h : ∀ k, x.dst = some k → k ∉ y.looksAt ops) (hf : ∀ k, x.dst = some k → k ∉ latesOf live y) : (∀ q ∈ latesOf live y, Apart (putO fr x.dst v) y q) ↔ (∀ q ∈ latesOf live y, Apart fr y q) :=
  ⟨fun hx q hq => (apart_put h (fun k hk e => hf k hk (e ▸ hq))).1 (hx q hq), fun hx q hq => (apart_put h (fun k hk e => hf k hk (e ▸ hq))).2 (hx q hq)⟩

theorem opW_swap_ls {b off b' off' : Nat} {sh : Option Nat} {vs : List V} {p' : Bool} {Y : V → V → List Res → Prop} (hne : b ≠ b') (h : opW P false (.load b off sh) R fun v R1 => opW P p' (.store b' off' vs) R1 (Y v)) :
    opW P p' (.store b' off' vs) R fun u R1 => opW P false (.load b off sh) R1 fun v R2 => Y v u R2 := by
  obtain ⟨i, cs, v, h1, h2, i', cs', us, g1, g2, g3, g4, g5⟩ := h
  refine ⟨i', cs', us, g1, g2, g3, g4, i, cs, v, ?_, h2, g5⟩
  rw [List.getElem?_set_ne]
  · exact h1
  · rintro rfl
    rw [h1] at g1
    cases g1
    exact hne rfl

set_option maxHeartbeats 1000000 in
theorem store_opE {fr : Fr} {t : TypeId} {x y : Operand} (h : o.op = .store t x y) : isPure (pd true live o) (opE P live ops fr o) ∨ ∃ b off vs, opE P live ops fr o = .store b off vs ∧ ev fr x = .loc b off := by
  have hs : sOp P live fr o = .bad ∨ ∃ b off vs, sOp P live fr o = .store b off vs ∧ ev fr x = .loc b off := by
    cases hr : sOp P live fr o with
    | store b off vs =>
      obtain ⟨t', x', y', sh, ho, _, hx, _⟩ := inv_store hr
      rw [h] at ho
      cases ho
      exact .inr ⟨b, off, vs, rfl, hx⟩
    | bad => exact .inl rfl
    | _ =>
      exfalso
      unfold sOp at hr
      rw [h] at hr
      simp only at hr
      (repeat' split at hr) <;> simp at hr
  have hb : isPure (pd true live o) (.bad : OpR) := .inr (.inr (.inr (.inr (.inr (.inr (.inr rfl))))))
  have hs' : isPure (pd true live o) (sOp P live fr o) ∨ ∃ b off vs, sOp P live fr o = .store b off vs ∧ ev fr x = .loc b off := by
    rcases hs with hs | hs
    · rw [hs]; exact .inl hb
    · exact .inr hs
  unfold opE
  split
  · exact hs'
  · split
    · exact .inl hb
    · split
      · rename_i b _
        cases b == _ with
        | true => exact hs'
        | false => exact .inl (.inl ⟨_, rfl⟩)
      · exact .inl (.inl ⟨_, rfl⟩)
      · exact .inl hb

theorem opW_calm_and {p : Bool} {r : OpR} (h : isPure p r ∨ isLoad p r) {A : Prop} {Y : V → List Res → Prop} (hw : opW P p r R fun v R1 => A ∧ Y v R1) : A ∧ opW P p r R Y := by
  obtain ⟨C, hC⟩ := opW_calm (P := P) h
  obtain ⟨v, h1, h2, h3⟩ := (hC _ _).1 hw
  exact ⟨h2, (hC _ _).2 ⟨v, h1, h3⟩⟩

theorem RW_swap {Φ : Fr → List Res → Prop} {i j : Nat} {x y : Oper} (hx : ops[j]? = some x) (hy : ops[i]? = some y) (hs : swapB live ops x y = true) {l : List Nat} {fr : Fr} {R : List Res} (h : RW P live ops Φ (j :: i :: l) fr R) : RW P live ops Φ (i :: j :: l) fr R := by
  simp only [swapB, Bool.and_eq_true, Bool.or_eq_true] at hs
  obtain ⟨⟨hap, hfree⟩, hk⟩ := hs
  obtain ⟨h1, h2, h3⟩ := Oper.apart_spec hap
  have f1 : ∀ k, x.dst = some k → k ∉ latesOf live y := by
    intro k hk hm
    simp only [lateFree, hk, Bool.and_eq_true] at hfree
    have := hfree.1
    simp [hm] at this
  have f2 : ∀ k, y.dst = some k → k ∉ latesOf live x := by
    intro k hk hm
    simp only [lateFree, hk, Bool.and_eq_true] at hfree
    have := hfree.2
    simp [hm] at this
  simp only [RW, hx, hy] at h ⊢
  obtain ⟨hlx, h⟩ := h
  have hcalm : isPure (pd true live x) (opE P live ops fr x) ∨ isLoad (pd true live x) (opE P live ops fr x) := by
    have : kindOf live x ≤ 1 := by
      rcases hk with (hk | ⟨hk, _⟩) | hk
      · have := Nat.eq_of_beq_eq_true hk; omega
      · have := Nat.eq_of_beq_eq_true hk; omega
      · unfold lateB at hk
        split at hk
        · simp only [Bool.and_eq_true] at hk
          have := Nat.eq_of_beq_eq_true hk.2; omega
        · cases hk
    rcases kind_opE (P := P) (ops := ops) (fr := fr) this with h | ⟨_, h⟩
    · exact .inl h
    · exact .inr h
  have h' := opW_mono (P := P) (Y' := fun v R1 => (∀ q ∈ latesOf live y, Apart fr y q) ∧ opW P (pd true live y) (opE P live ops fr y) R1 fun u R2 => RW P live ops Φ l (putO (putO fr x.dst v) y.dst u) R2) (fun v R1 h4 => by
    rw [lates_put h1 f1, opE_put h1] at h4
    exact h4) h
  obtain ⟨hly, h'⟩ := opW_calm_and hcalm h'
  refine ⟨hly, ?_⟩
  have fin : (opW P (pd true live y) (opE P live ops fr y) R fun u R1 => opW P (pd true live x) (opE P live ops fr x) R1 fun v R2 => RW P live ops Φ l (putO (putO fr x.dst v) y.dst u) R2) → opW P (pd true live y) (opE P live ops fr y) R fun v R' => (∀ q ∈ latesOf live x, Apart (putO fr y.dst v) x q) ∧ opW P (pd true live x) (opE P live ops (putO fr y.dst v) x) R' fun v_1 R' => RW P live ops Φ l (putO (putO fr y.dst v) x.dst v_1) R' := by
    intro h
    refine opW_mono (fun u R1 h4 => ⟨(lates_put h3 f2).2 hlx, ?_⟩) h
    rw [opE_put h3]
    refine opW_mono (fun v R2 h5 => ?_) h4
    rw [putO_comm h2] at h5
    exact h5
  refine fin ?_
  rcases hcalm with hp | hld
  · exact opW_swap (Y := fun v u R2 => RW P live ops Φ l (putO (putO fr x.dst v) y.dst u) R2) (.inl hp) h'
  · rcases hk with hk | hk
    · have hyc : isPure (pd true live y) (opE P live ops fr y) ∨ isLoad (pd true live y) (opE P live ops fr y) ∨ isPure (pd true live x) (opE P live ops fr x) := by
        rcases hk with hk | ⟨hk, hk2⟩
        · have hk := Nat.eq_of_beq_eq_true hk
          rcases kind_opE (P := P) (ops := ops) (fr := fr) (show kindOf live x ≤ 1 by omega) with h | ⟨h, _⟩
          · exact .inr (.inr h)
          · omega
        · have hk2 := Nat.le_of_ble_eq_true hk2
          rcases kind_opE (P := P) (ops := ops) (fr := fr) hk2 with h | ⟨_, h⟩
          · exact .inl h
          · exact .inr (.inl h)
      rcases hyc with hyc | hyc | hyc
      · exact opW_swap (Y := fun v u R2 => RW P live ops Φ l (putO (putO fr x.dst v) y.dst u) R2) (.inr ⟨hld, .inl hyc⟩) h'
      · exact opW_swap (Y := fun v u R2 => RW P live ops Φ l (putO (putO fr x.dst v) y.dst u) R2) (.inr ⟨hld, .inr hyc⟩) h'
      · exact opW_swap (Y := fun v u R2 => RW P live ops Φ l (putO (putO fr x.dst v) y.dst u) R2) (.inl hyc) h'
    · unfold lateB at hk
      split at hk
      · rename_i t q z hyop
        simp only [Bool.and_eq_true] at hk
        have hq : q ∈ latesOf live x := by simpa using hk.1
        rcases store_opE (P := P) (live := live) (ops := ops) (fr := fr) hyop with hyc | ⟨b', off', vs, hye, hyp⟩
        · exact opW_swap (Y := fun v u R2 => RW P live ops Φ l (putO (putO fr x.dst v) y.dst u) R2) (.inr ⟨hld, .inl hyc⟩) h'
        · obtain ⟨hpf, b, off, sh, hxe⟩ := hld
          have hxg : x.guard = none := by
            cases hg : x.guard with
            | none => rfl
            | some r => rw [lates_guard hg] at hq; cases hq
          have hxs : sOp P live fr x = .load b off sh := by
            unfold opE at hxe; rw [hxg] at hxe; exact hxe
          obtain ⟨t', x', hxop, _, hxp⟩ := inv_load hxs
          have hap2 := hlx q hq
          unfold Apart at hap2
          rw [hxop] at hap2
          obtain ⟨b1, o1, c, o2, e1, e2, e3⟩ := hap2
          rw [hxp] at e1; cases e1
          have hyp' : fr q = .loc b' off' := hyp
          rw [e2] at hyp'; cases hyp'
          rw [hpf, hxe, hye] at h' ⊢
          exact opW_swap_ls (Y := fun v u R2 => RW P live ops Φ l (putO (putO fr x.dst v) y.dst u) R2) e3 h'
      · cases hk

/-- May j's operation, earlier in the row, be passed by i's? -/
def passes (live : List Nat) (ops : Array Oper) (ms : List Nat) (j i : Nat) : Bool :=
  (ms.getD i 0).testBit j || match ops[j]?, ops[i]? with
    | some x, some y => swapB live ops x y
    | _, _ => false

theorem RW_front {Φ : Fr → List Res → Prop} {i : Nat} {l2 : List Nat} : ∀ (l1 : List Nat) (fr : Fr) (R : List Res), (∀ j ∈ l1, ∃ x y, ops[j]? = some x ∧ ops[i]? = some y ∧ swapB live ops x y = true) → RW P live ops Φ (l1 ++ i :: l2) fr R → RW P live ops Φ (i :: (l1 ++ l2)) fr R
  | [], _, _, _, h => h
  | j :: l1, fr, R, hs, h => by
    obtain ⟨x, y, hx, hy, hsw⟩ := hs j (by simp)
    refine RW_swap hx hy hsw ?_
    simp only [List.cons_append, RW, hx] at h ⊢
    exact ⟨h.1, opW_mono (fun v R' h2 => RW_front l1 _ R' (fun k hk => hs k (by simp [hk])) h2) h.2⟩

/-- The masks say no more than the edges do. -/
def maskB (ops : Array Oper) (ms : List Nat) : Bool :=
  (List.range ops.size).all fun i => match ops[i]? with
    | none => false
    | some o => (o.after.toList.all fun e => !Region.binds .any e || Nat.blt e.on i) &&
      (List.range ops.size).all fun j => !(ms.getD i 0).testBit j || o.after.toList.any fun e => Region.binds .any e && (Nat.beq e.on j || (ms.getD e.on 0).testBit j)

def pairsB (live : List Nat) (ops : Array Oper) (ms : List Nat) : List Nat → Bool
  | [] => true
  | j :: l => l.all (passes live ops ms j) && pairsB live ops ms l

def nodupB : List Nat → Bool
  | [] => true
  | j :: l => !(l.contains j) && nodupB l

def drawB (live : List Nat) (ops : Array Oper) (ord : List Nat) (ms : List Nat) : Bool :=
  Nat.beq ord.length ops.size && nodupB ord && ord.all (Nat.blt · ops.size) && (List.range ops.size).all (fun i => ord.contains i) && maskB ops ms && pairsB live ops ms ord
theorem mask_listed {ms : List Nat} {listed : Array Bool} (hm : maskB ops ms = true) (hc : ∀ i o, ops[i]? = some o → listed.getD i false = true → ∀ e ∈ o.after, Region.binds .any e = true → listed.getD e.on false = true) :
    ∀ (i : Nat) (o : Oper), ops[i]? = some o → (∀ e ∈ o.after, Region.binds .any e = true → listed.getD e.on false = true) → ∀ j, j < ops.size → (ms.getD i 0).testBit j = true → listed.getD j false = true := by
  intro i
  induction i using Nat.strongRecOn with
  | _ i ih =>
    intro o ho hl j hj hb
    have hlt := (Array.getElem?_eq_some_iff.1 ho).1
    have h1 := List.all_eq_true.1 hm i (List.mem_range.2 hlt)
    simp only [ho, Bool.and_eq_true, List.all_eq_true] at h1
    have h2 := h1.2 j (List.mem_range.2 hj)
    rw [hb] at h2
    simp only [Bool.not_true, Bool.false_or, List.any_eq_true, Bool.and_eq_true, Bool.or_eq_true] at h2
    obtain ⟨e, he, hbind, h3⟩ := h2
    have he' := Array.mem_def.2 he
    have hon := hl e he' hbind
    rcases h3 with h3 | h3
    · rw [← Nat.eq_of_beq_eq_true h3]; exact hon
    · have h4 := h1.1 e he
      rw [hbind] at h4
      have h5 : e.on < i := by simpa using h4
      have h6 : ops[e.on]? = some ops[e.on] := Array.getElem?_eq_getElem (by omega)
      exact ih e.on h5 _ h6 (hc _ _ h6 hon) j hj h3

theorem pairs_front {ms : List Nat} {i : Nat} {l2 : List Nat} : ∀ {l1 : List Nat}, pairsB live ops ms (l1 ++ i :: l2) = true → (∀ j ∈ l1, passes live ops ms j i = true) ∧ pairsB live ops ms (l1 ++ l2) = true
  | [], h => by
    simp only [List.nil_append, pairsB, Bool.and_eq_true] at h
    exact ⟨by simp, h.2⟩
  | j :: l1, h => by
    simp only [List.cons_append, pairsB, Bool.and_eq_true, List.all_eq_true] at h ⊢
    obtain ⟨h1, h2⟩ := pairs_front h.2
    refine ⟨fun k hk => ?_, fun k hk => h.1 k ?_, h2⟩
    · rcases List.mem_cons.1 hk with rfl | hk
      · exact h.1 i (by simp)
      · exact h1 k hk
    · simp only [List.mem_append, List.mem_cons] at hk ⊢
      rcases hk with hk | hk
      · exact .inl hk
      · exact .inr (.inr hk)

variable {N n0 : Nat} {Q : Exit → Fr → List Res → Prop} {g0 : Gh} {w0 : World} {R0 : List Res}

theorem any_sound {r : Option Nat} {ms : List Nat} {Qp : Exit → Act → World → Prop} (hN : ∀ o ∈ ops.toList, ∀ k, o.dst = some k → k < N) (hm : maskB ops ms = true) {Φ : Fr → List Res → Prop}
    (hend : ∀ (fr : Fr) (R : List Res) (g : Gh) (w : World) (a : Act), Φ fr R → After g0 w0 R0 g w R → St N n0 g w R fr a → Qp .normal a w) :
    ∀ (fuel : Nat) (listed : Array Bool) (rem : List Nat) (fr : Fr) (R : List Res) (g : Gh) (w : World) (a : Act), listed.size = ops.size → rem.Nodup → (∀ i, listed.getD i true = false ↔ i ∈ rem) →
      (∀ i o, ops[i]? = some o → listed.getD i false = true → ∀ e ∈ o.after, Region.binds .any e = true → listed.getD e.on false = true) → pairsB live ops ms rem = true → rem.length ≤ fuel →
      After g0 w0 R0 g w R → St N n0 g w R fr a → RW P live ops Φ rem fr R → wpAnyIn (Fw r) 0 P .any ops Qp fuel listed a w := by
  intro fuel
  have none_ready : ∀ (listed : Array Bool) (rem : List Nat), listed.size = ops.size → (∀ i, listed.getD i true = false ↔ i ∈ rem) → Region.ready .any ops listed = [] → rem = [] := by
    intro listed rem hsz hmem hr
    refine Classical.byContradiction fun hne => ?_
    have hex : ∃ i, listed.getD i true = false := by
      cases rem with
      | nil => exact absurd rfl hne
      | cons i l => exact ⟨i, (hmem i).2 (by simp)⟩
    obtain ⟨i0, hi0⟩ := hex
    obtain ⟨i, hi, hleast⟩ : ∃ m, listed.getD m true = false ∧ ∀ k, k < m → ¬ listed.getD k true = false := by
      clear hr hmem hne
      induction i0 using Nat.strongRecOn with
      | _ n ih =>
        by_cases hx : ∃ k, k < n ∧ listed.getD k true = false
        · obtain ⟨k, hk, hp⟩ := hx; exact ih k hk hp
        · exact ⟨n, hi0, fun k hk hp => hx ⟨k, hk, hp⟩⟩
    have hlt : i < ops.size := by
      refine Classical.byContradiction fun hge => ?_
      rw [Array.getD_eq_getD_getElem?, Array.getElem?_eq_none (by omega)] at hi
      simp at hi
    have ho : ops[i]? = some ops[i] := Array.getElem?_eq_getElem hlt
    have h1 := List.all_eq_true.1 hm i (List.mem_range.2 hlt)
    simp only [ho, Bool.and_eq_true, List.all_eq_true] at h1
    have : i ∈ Region.ready .any ops listed := mem_ready.2 ⟨hi, _, ho, fun e he hb => by
      have h2 := h1.1 e (Array.mem_def.1 he)
      rw [hb] at h2
      have h3 : e.on < i := by simpa using h2
      have h4 := hleast e.on h3
      have h5 : e.on < listed.size := by omega
      rw [Array.getD_eq_getD_getElem?, Array.getElem?_eq_getElem h5] at h4 ⊢
      simpa using h4⟩
    rw [hr] at this
    cases this
  induction fuel with
  | zero =>
    intro listed rem fr R g w a hsz hnd hmem hcl hp hlen hA hs h
    have hrem : rem = [] := List.eq_nil_of_length_eq_zero (by omega)
    subst hrem
    refine ⟨?_, hend fr R g w a h hA hs⟩
    refine List.eq_nil_iff_forall_not_mem.2 fun i hi => ?_
    have := (hmem i).1 (mem_ready.1 hi).1
    cases this
  | succ fuel ih =>
    intro listed rem fr R g w a hsz hnd hmem hcl hp hlen hA hs h
    refine ⟨fun hr => ?_, fun i hi => ?_⟩
    · have hrem := none_ready listed rem hsz hmem hr
      subst hrem
      exact hend fr R g w a h hA hs
    · obtain ⟨h0, o, ho, hall⟩ := mem_ready.1 hi
      have him := (hmem i).1 h0
      obtain ⟨l1, l2, rfl⟩ := List.append_of_mem him
      obtain ⟨hpass, hp'⟩ := pairs_front hp
      have hilt := (Array.getElem?_eq_some_iff.1 ho).1
      have hsw : ∀ j ∈ l1, ∃ x y, ops[j]? = some x ∧ ops[i]? = some y ∧ swapB live ops x y = true := by
        intro j hj
        have hjl : listed.getD j true = false := (hmem j).2 (by simp [hj])
        have hjlt : j < ops.size := by
          refine Classical.byContradiction fun hge => ?_
          rw [Array.getD_eq_getD_getElem?, Array.getElem?_eq_none (by omega)] at hjl
          simp at hjl
        have h1 := hpass j hj
        simp only [passes, Bool.or_eq_true] at h1
        rcases h1 with h1 | h1
        · have h2 := mask_listed hm hcl i o ho hall j hjlt h1
          have h5 : j < listed.size := by omega
          rw [Array.getD_eq_getD_getElem?, Array.getElem?_eq_getElem h5] at h2 hjl
          simp at h2 hjl
          rw [h2] at hjl; cases hjl
        · have hx : ops[j]? = some ops[j] := Array.getElem?_eq_getElem hjlt
          rw [hx, ho] at h1
          exact ⟨_, _, hx, ho, h1⟩
      have h1 := RW_front l1 fr R hsw h
      simp only [RW, ho] at h1
      replace h1 := h1.2
      simp only [wpOpIn, ho]
      have hd := hN o (Array.mem_toList_iff.2 (Array.mem_of_getElem? ho))
      have hnd' : (l1 ++ l2).Nodup ∧ i ∉ l1 ++ l2 := by
        have := List.nodup_append.1 hnd
        obtain ⟨a1, a2, a3⟩ := this
        have a4 := List.nodup_cons.1 a2
        refine ⟨List.nodup_append.2 ⟨a1, a4.2, fun x hx y hy => a3 x hx y (by simp [hy])⟩, fun hm => ?_⟩
        rcases List.mem_append.1 hm with hm | hm
        · exact a3 i hm i (by simp) rfl
        · exact a4.1 hm
      -- what holds behind this operation
      have next : ∀ (fr' : Fr) (R' : List Res) (g' : Gh) (w' : World) (a' : Act), After g w R g' w' R' → St N n0 g' w' R' fr' a' → RW P live ops Φ (l1 ++ l2) fr' R' → wpAnyIn (Fw r) 0 P .any ops Qp fuel (listed.setIfInBounds i true) a' w' := by
        intro fr' R' g' w' a' hA' hs' h'
        refine ih (listed.setIfInBounds i true) (l1 ++ l2) fr' R' g' w' a' (by simpa using hsz) hnd'.1 (fun k => ?_) (fun k ok hk hkl e he hb => ?_) hp' (by simp at hlen ⊢; omega) (hA.trans hA') hs' h'
        · by_cases hki : k = i
          · subst hki
            have : (listed.setIfInBounds k true).getD k true = true := by simp [show k < listed.size by omega]
            rw [this]
            exact ⟨fun h => (by cases h), fun h => absurd h hnd'.2⟩
          · rw [getD_set_ne true (Ne.symm hki), hmem]
            simp only [List.mem_append, List.mem_cons]
            constructor
            · rintro (h | h | h)
              · exact .inl h
              · exact absurd h hki
              · exact .inr h
            · rintro (h | h)
              · exact .inl h
              · exact .inr (.inr h)
        · by_cases hki : k = i
          · subst hki
            rw [ho] at hk; cases hk
            exact getD_set_true (hall e he hb)
          · rw [getD_set_ne false (Ne.symm hki)] at hkl
            exact getD_set_true (hcl k ok hk hkl e he hb)
      unfold opE at h1
      have run : opW P (pd true live o) (sOp P live fr o) R (fun v R' => RW P live ops Φ (l1 ++ l2) (putO fr o.dst v) R') → o.wpIn (Fw r) 0 P a w (wpAnyIn (Fw r) 0 P .any ops Qp fuel (listed.setIfInBounds i true)) Qp := by
        intro h2
        refine op_step (p := pd true live o) (k := fun fr' => .leaf .normal fr') (Q := fun _ fr' R' => RW P live ops Φ (l1 ++ l2) fr' R') hs hd (finish_wp.2 h2) r ?_
        rintro a' w' ⟨g', fr', R', hk, hA', hf, hmk⟩
        exact next fr' R' g' w' a' hA' ⟨hA'.ext.wf, hf, hA'.res, hmk⟩ hk
      cases hg : o.guard with
      | none =>
        rw [hg] at h1
        rw [if_pos (by simp [Region.wanted, hg])]
        exact run h1
      | some q =>
        obtain ⟨j, want⟩ := q
        rw [hg] at h1
        simp only at h1
        cases hdj : (ops[j]?).bind (·.dst) with
        | none => rw [hdj] at h1; exact h1.elim
        | some d =>
          rw [hdj] at h1
          simp only at h1
          split at h1
          · rename_i b hfd
            have hsl : a.tmps[d]? = some (.bool b) := by
              have := hs.fr.2 d
              rw [hfd] at this
              simp only [RelV] at this
              rw [Array.getD_eq_getD_getElem?] at this
              cases ht : a.tmps[d]? with
              | none => rw [ht] at this; simp [undef] at this
              | some x => rw [ht] at this; simpa using this
            have hw : Region.wanted o (yielded ops a.tmps) = (b == want) := by
              simp [Region.wanted, hg, yielded, hdj, hsl]
            rw [hw]
            cases hbw : (b == want) with
            | true => rw [hbw] at h1; rw [if_pos rfl]; exact run h1
            | false =>
              rw [hbw] at h1
              rw [if_neg (by simp)]
              refine ⟨fun _ _ => trivial, ?_⟩
              exact next _ R g w _ (After.refl hs.wf hs.res) ⟨hs.wf, hs.fr.put hd (relV_uV _ _), hs.res, by rw [put_defers]; exact hs.marks⟩ h1
          · rename_i l hfd
            have hsl : (a.tmps[d]?).getD undef = .tuple l := by
              have := hs.fr.2 d
              rw [hfd] at this
              simp only [RelV] at this
              rw [Array.getD_eq_getD_getElem?] at this
              exact this
            have hw : Region.wanted o (yielded ops a.tmps) = false := by
              cases ht : a.tmps[d]? with
              | none => simp [Region.wanted, hg, yielded, hdj, ht]
              | some x =>
                rw [ht] at hsl
                simp only [Option.getD_some] at hsl
                simp [Region.wanted, hg, yielded, hdj, ht, hsl]
            rw [hw, if_neg (by simp)]
            refine ⟨fun _ _ => trivial, ?_⟩
            exact next _ R g w _ (After.refl hs.wf hs.res) ⟨hs.wf, hs.fr.put hd (relV_uV _ _), hs.res, by rw [put_defers]; exact hs.marks⟩ h1
          · exact h1.elim

theorem drew_after {g : Gh} {w : World} {R : List Res} (hw : Wf g w) (hr : RelR g w R) : After g w R g { w with drawn := w.drawn + 1 } R ∧ Pre g w g { w with drawn := w.drawn + 1 } := by
  have hp : Pre g w g { w with drawn := w.drawn + 1 } := ⟨fun _ => Nat.le_refl _, fun _ _ _ => rfl, Nat.le_refl _, fun _ _ => rfl⟩
  refine ⟨⟨{ hp with os := rfl, tape := rfl, output := rfl, size := Nat.le_refl _, frame := fun _ _ _ => rfl, cmeq := fun _ _ _ => rfl, wf := ⟨hw.cm, hw.ex, hp.st hw⟩ }, ⟨fun x hx => ((hr.all x hx).kept hp fun b _ => ⟨rfl, rfl⟩).1, hr.nodup⟩, fun b hb => .inl hb⟩, hp⟩

theorem draw_sound {r : Option Nat} {id : Nat} {ord : List Nat} {ms : List Nat} {g : Gh} {w : World} {R : List Res} {fr : Fr} {a : Act} {Qp : Exit → Act → World → Prop} (hmix : P.follows .mixedOrders = true) (hN : ∀ o ∈ ops.toList, ∀ k, o.dst = some k → k < N) (hok : drawB live ops ord ms = true)
    (hs : St N n0 g w R fr a) (h : (execOps P live true ops (fun fr' => .leaf .normal fr') (ord.filterMap fun i => ops[i]?) [] fr).wp P R Q)
    (hend : ∀ (fr' : Fr) (R' : List Res) (g' : Gh) (w' : World) (a' : Act), Q .normal fr' R' → After g w R g' w' R' → St N n0 g' w' R' fr' a' → Qp .normal a' w') : (Code.region id ops true).wpIn (Fw r) 0 P Qp a w := by
  simp only [drawB, Bool.and_eq_true] at hok
  obtain ⟨⟨⟨⟨⟨h1, h2⟩, h3⟩, h4⟩, h5⟩, h6⟩ := hok
  have h1 := Nat.eq_of_beq_eq_true h1
  have hlt : ∀ i ∈ ord, i < ops.size := fun i hi => by simpa using List.all_eq_true.1 h3 i hi
  have hnd : ∀ l : List Nat, nodupB l = true → l.Nodup := by
    intro l
    induction l with
    | nil => intro _; exact List.nodup_nil
    | cons j l ih => intro hl; simp only [nodupB, Bool.and_eq_true] at hl; exact List.nodup_cons.2 ⟨by simpa using hl.1, ih hl.2⟩
  obtain ⟨hA, hp⟩ := drew_after hs.wf hs.res
  refine wpIn_region_any hmix ?_
  refine any_sound (g0 := g) (w0 := w) (R0 := R) hN h5 (Φ := fun fr R => Q .normal fr R) (fun fr' R' g' w' a' hq hA' hs' => hend fr' R' g' w' a' hq hA' hs') ops.size _ ord fr R g _ a (by simp) (hnd ord h2) (fun i => ?_) (fun i o _ hl => ?_) h6 (by omega) hA ⟨⟨hs.wf.cm, hs.wf.ex, hp.st hs.wf⟩, hs.fr.mono hp, hA.res, hs.marks.after hA⟩
    (execOps_RW (k := fun fr' => .leaf .normal fr') ord [] fr R hlt h)
  · by_cases hi : i < ops.size
    · have : i ∈ ord := by
        have := List.all_eq_true.1 h4 i (List.mem_range.2 hi)
        simpa using this
      simp [hi, this]
    · have : i ∉ ord := fun hm => hi (hlt i hm)
      simp [hi, this]
  · exfalso
    by_cases hi : i < ops.size <;> simp [Array.getElem?_replicate, hi] at hl
end
end Go.Sv
