/- Parts of the proof, one behind the other. -/
import Derived.Test.YtonnbjcbjjigiaaGreatDoorMgRowStepTells2
import Derived.OrdersIn
import Derived.RangeFuncNested
namespace Go.Sv
open Go
def kindOf (live : List Nat) (o : Oper) : Nat :=
  match o.op with
  | .load _ _ => bif o.dst.any live.contains then 1 else 0
  | .store _ _ _ => 2
  | .alloc _ => 2
  | .box _ _ => bif o.dst.any live.contains then 2 else 0
  | .buildSlice _ _ _ => bif o.dst.any live.contains then 2 else 0
  | .call c => match c.callee with
    | .builtin .append => 2
    | .builtin .copy => 2
    | .builtin .clear => 2
    | .value _ => bif o.dst.any live.contains then 2 else 0
    | _ => 0
  | .makeSlice _ _ _ => 2
  | .convert _ _ _ => bif o.dst.any live.contains then 2 else 0
  | .binOp _ _ _ y _ => match y with
    | .const (.slice none 0 0) => 2
    | _ => 0
  | _ => 0
def opE (P : Program) (live : List Nat) (ops : Array Oper) (fr : Fr) (o : Oper) : OpR :=
  match o.guard with
  | none => sOp P live fr o
  | some (j, want) =>
    match (ops[j]?).bind (·.dst) with
    | none => .bad
    | some d => match fr d with
      | .c (.bool b) => bif b == want then sOp P live fr o else .val uV
      | .c (.tuple _) => .val uV
      | _ => .bad
def opW (P : Program) (p : Bool) (r : OpR) (R : List Res) (Y : V → List Res → Prop) : Prop :=
  match r with
  | .val v => Y v R
  | .need q v => q ∧ Y v R
  | .load b off sh => match p with
    | false => ∃ (i : Nat) (cs : List V) (v : V), R[i]? = some (.obj b cs) ∧ partOf sh cs off = some v ∧ Y v R
    | true => False
  | .store b off vs => ∃ (i : Nat) (cs us : List V), R[i]? = some (.obj b cs) ∧ VleL vs us ∧ off + us.length ≤ cs.length ∧ (∀ v ∈ vs, oneV v = true) ∧ Y .undef (R.set i (.obj b (splice cs off us)))
  | .alloc v => ∀ b, (v ≠ [] → Fresh R b) → Y (.loc b 0) (R ++ [.obj b v])
  | .append sh by_ x ys => ∃ zs, VleL ys zs ∧ (∀ y ∈ ys, okE sh y) ∧
      ((∃ sh', x = .sl sh' [] .zero ∧ zs.length * by_ ≤ 140737488355328 ∧ ∀ t, Y (.sl sh zs (.t t)) (R ++ [.tok t sh])) ∨
       (∃ (i t : Nat) (xs : List V), x = .sl sh xs (.t t) ∧ R[i]? = some (.tok t sh) ∧ (xs.length + zs.length) * by_ ≤ 140737488355328 ∧ ∀ t', Y (.sl sh (xs ++ zs) (.t t')) (R.set i (.tok t' sh))))
  | .made sh xs => ∀ t, Y (.sl sh xs (.t t)) (R ++ [.tok t sh])
  | .call f args => match p with
    | false => ∃ args', VleL args args' ∧ SCall P f args' R Y
    | true => ∃ args' v, VleL args args' ∧ PCall P f args' v ∧ Y v R
  | .yld l args => match p with
    | false => ∃ args', VleL args args' ∧ YCall P l args' R fun b R' => Y (.c (.bool b)) R'
    | true => False
  | .nilcmp e xs => ∀ b : Bool, (b = true → xs = []) → Y (.c (.bool (bif e then b else !b))) R
  | .elem sh xs n => ∃ (i : Nat) (u' u : V), n = i ∧ xs[i]? = some u' ∧ Vle u' u ∧ Y (.pt sh u 0) R
  | .eff e => match p with
    | false => e.W R Y
    | true => False
  | .bad => False
section
variable {P : Program} {live : List Nat} {ops : Array Oper} {R : List Res} {fr : Fr} {o : Oper}
theorem finish_wp {p : Bool} {r : OpR} {d : Option Nat} {k : Fr → Tree} {Q : Exit → Fr → List Res → Prop} : (finish p r d fr k).wp P R Q ↔ opW P p r R (fun v R' => (k (putO fr d v)).wp P R' Q) := by
  cases r <;> cases p <;> exact Iff.rfl
theorem opW_mono {p : Bool} {r : OpR} {Y Y' : V → List Res → Prop} (hy : ∀ v R, Y v R → Y' v R) (h : opW P p r R Y) : opW P p r R Y' := by
  cases r with
  | val v => exact hy _ _ h
  | need q v => exact ⟨h.1, hy _ _ h.2⟩
  | load b off sh => cases p with
    | false => obtain ⟨i, cs, v, h1, h2, h3⟩ := h; exact ⟨i, cs, v, h1, h2, hy _ _ h3⟩
    | true => exact h.elim
  | store b off vs => obtain ⟨i, cs, us, h1, h2, h3, h4, h5⟩ := h; exact ⟨i, cs, us, h1, h2, h3, h4, hy _ _ h5⟩
  | alloc cs => exact fun b hb => hy _ _ (h b hb)
  | append sh by_ x ys =>
    obtain ⟨zs, h1, h2, h3⟩ := h
    refine ⟨zs, h1, h2, ?_⟩
    rcases h3 with ⟨sh', h4, h5, h6⟩ | ⟨i, t, xs, h4, h5, h6, h7⟩
    · exact .inl ⟨sh', h4, h5, fun t => hy _ _ (h6 t)⟩
    · exact .inr ⟨i, t, xs, h4, h5, h6, fun t => hy _ _ (h7 t)⟩
  | made sh xs => exact fun t => hy _ _ (h t)
  | call f args => cases p with
    | false => obtain ⟨a, h1, h2⟩ := h; exact ⟨a, h1, h2.mono hy⟩
    | true => obtain ⟨a, v, h1, h2, h3⟩ := h; exact ⟨a, v, h1, h2, hy _ _ h3⟩
  | yld l args => cases p with
    | false => obtain ⟨a, h1, h2⟩ := h; exact ⟨a, h1, h2.mono fun b R' => hy _ _⟩
    | true => exact h.elim
  | nilcmp e xs => exact fun b hb => hy _ _ (h b hb)
  | elem sh xs n => obtain ⟨i, u', u, h1, h2, h3, h4⟩ := h; exact ⟨i, u', u, h1, h2, h3, hy _ _ h4⟩
  | eff e => cases p with
    | false => exact Eff.W_mono hy h
    | true => exact h.elim
  | bad => exact h.elim
def opX (P : Program) (m : Bool) (ok : Nat → Prop) (p : Bool) (r : OpR) (R : List Res) (Y : V → List Res → Prop) : Prop :=
  match m with
  | false => opW P p r R Y
  | true => match p with
    | true => opW P true r R Y
    | false => match r with
      | .call f args => ∃ (args' : List V) (A R0 B : List Res), VleL args args' ∧ (A ++ R0 ++ B).Perm R ∧ (∀ c cs, Res.obj c cs ∈ R0 → ok c) ∧ SCall P f args' R0 fun v R1 => Y v (A ++ R1 ++ B)
      | r => opW P false r R Y
theorem opX_mono {m p : Bool} {ok : Nat → Prop} {r : OpR} {Y Y' : V → List Res → Prop} (hy : ∀ v R, Y v R → Y' v R) (h : opX P m ok p r R Y) : opX P m ok p r R Y' := by
  cases m with
  | false => exact opW_mono hy h
  | true => cases p with
    | true => exact opW_mono (P := P) (p := true) (r := r) hy h
    | false => cases r with
      | call f args => obtain ⟨a, A, R0, B, h1, h2, h3, h4⟩ := h; exact ⟨a, A, R0, B, h1, h2, h3, h4.mono fun v R1 h5 => hy _ _ h5⟩
      | _ => (simp only [opX] at h ⊢; exact opW_mono (P := P) (p := false) hy h)
theorem opX_opW {m p : Bool} {ok : Nat → Prop} {r : OpR} {Y : V → List Res → Prop} (h : opX P m ok p r R Y) : opW P p r R Y := by
  cases m with
  | false => exact h
  | true => cases p with
    | true => exact h
    | false => cases r with
      | call f args =>
        obtain ⟨a, A, R0, B, h1, h2, h3, h4⟩ := h
        refine ⟨a, h1, (h4.frame.perm h2).mono ?_⟩
        rintro v R' ⟨R1, h5, rfl⟩
        exact h5
      | _ => exact h
theorem opX_false {ok : Nat → Prop} {p : Bool} {r : OpR} {Y : V → List Res → Prop} : opX P false ok p r R Y = opW P p r R Y := rfl
theorem perm_get {R R' : List Res} (hp : R.Perm R') {i : Nat} {a : Res} (h : R[i]? = some a) : ∃ j, R'[j]? = some a ∧ ∀ x, (R.set i x).Perm (R'.set j x) := by
  obtain ⟨j, hj⟩ := List.mem_iff_getElem?.1 (hp.mem_iff.1 (List.mem_of_getElem? h))
  obtain ⟨A, B, rfl, h1⟩ := split_at h
  obtain ⟨C, D, rfl, h2⟩ := split_at hj
  refine ⟨j, hj, fun x => ?_⟩
  rw [h1, h2]
  simp only [List.append_assoc, List.singleton_append] at hp ⊢
  have h3 : (A ++ B).Perm (C ++ D) := ((List.perm_middle.symm.trans hp).trans List.perm_middle).cons_inv
  exact (List.perm_middle.trans (h3.cons x)).trans List.perm_middle.symm
theorem Fresh.perm {R R' : List Res} {b : Nat} (h : Fresh R b) (hp : R.Perm R') : Fresh R' b := fun i c cs hR hne => by
  obtain ⟨j, hj, _⟩ := perm_get hp.symm hR
  exact h j c cs hj hne
theorem appW_perm {sh : Option Nat} {by_ m : Nat} {x : V} {src : List V} {R R' : List Res} {Y : V → List Res → Prop} (hp : R.Perm R') (hY : ∀ v R1 R2, R1.Perm R2 → Y v R1 → Y v R2) (h : AppW sh by_ x m src R Y) : AppW sh by_ x m src R' Y := by
  rcases h with ⟨sh', h1, h2, h3⟩ | ⟨i, b, o, n, cap, cs, h1, h2, h3, h4, h5⟩ | ⟨i, b, n, cap, cs, h1, h2, h3, h4, h5⟩
  · exact .inl ⟨sh', h1, h2, fun b cap sp e1 e2 => hY _ _ _ (hp.append_right _) (h3 b cap sp e1 e2)⟩
  · obtain ⟨j, hj, hs⟩ := perm_get hp h2
    exact .inr (.inl ⟨j, b, o, n, cap, cs, h1, hj, h3, h4, hY _ _ _ (hs _) h5⟩)
  · obtain ⟨j, hj, hs⟩ := perm_get hp h2
    exact .inr (.inr ⟨j, b, n, cap, cs, h1, hj, h3, h4, fun b' cap' sp e1 e2 => hY _ _ _ (hs _) (h5 b' cap' sp e1 e2)⟩)
theorem effW_perm {e : Eff} {R R' : List Res} {Y : V → List Res → Prop} (hp : R.Perm R') (hY : ∀ v R1 R2, R1.Perm R2 → Y v R1 → Y v R2) (h : e.W R Y) : e.W R' Y := by
  cases e with
  | app sh by_ x ys => obtain ⟨src, h1, h2, h3⟩ := h; exact ⟨src, h1, h2, appW_perm hp hY h3⟩
  | appL sh by_ x b o n =>
    obtain ⟨j, cs, src, h1, h2, h3, h4, h5⟩ := h
    obtain ⟨k, hk, _⟩ := perm_get hp h1
    exact ⟨k, cs, src, hk, h2, h3, h4, appW_perm hp hY h5⟩
  | appZ sh by_ x zero m => exact ⟨h.1, h.2.1, h.2.2.1, appW_perm hp hY h.2.2.2⟩
  | copy sh b o n ys =>
    obtain ⟨i, cs, src, h1, h2, h3, h4, h5⟩ := h
    obtain ⟨j, hj, hs⟩ := perm_get hp h3
    exact ⟨j, cs, src, h1, h2, hj, h4, hY _ _ _ (hs _) h5⟩
  | copyL sh b o n b' o' n' =>
    obtain ⟨i, j, cs, cs', src, h1, h2, h3, h4, h5, h6, h7⟩ := h
    obtain ⟨i', hi', hs⟩ := perm_get hp h1
    obtain ⟨j', hj', _⟩ := perm_get hp h2
    exact ⟨i', j', cs, cs', src, hi', hj', h3, h4, h5, h6, hY _ _ _ (hs _) h7⟩
  | clear sh b o n zero =>
    obtain ⟨i, cs, h1, h2, h3, h4⟩ := h
    obtain ⟨j, hj, hs⟩ := perm_get hp h1
    exact ⟨j, cs, hj, h2, h3, hY _ _ _ (hs _) h4⟩
  | make sh by_ zero n cap => exact ⟨h.1, h.2.1, h.2.2.1, fun b => hY _ _ _ (hp.append_right _) (h.2.2.2 b)⟩
  | bytes s => exact fun b cap sp e => hY _ _ _ (hp.append_right _) (h b cap sp e)
  | str b o n =>
    obtain ⟨i, cs, l, h1, h2, h3, h4⟩ := h
    obtain ⟨j, hj, _⟩ := perm_get hp h1
    exact ⟨j, cs, l, hj, h2, h3, hY _ _ _ hp h4⟩
  | isNil eq n => exact fun b hb => hY _ _ _ hp (h b hb)
  | lit sh xs => exact ⟨h.1, fun b => hY _ _ _ (hp.append_right _) (h.2 b)⟩
theorem opW_perm {p : Bool} {r : OpR} {R R' : List Res} {Y : V → List Res → Prop} (hp : R.Perm R') (hY : ∀ v R1 R2, R1.Perm R2 → Y v R1 → Y v R2) (h : opW P p r R Y) : opW P p r R' Y := by
  cases r with
  | val v => exact hY _ _ _ hp h
  | need q v => exact ⟨h.1, hY _ _ _ hp h.2⟩
  | load b off sh => cases p with
    | false =>
      obtain ⟨i, cs, v, h1, h2, h3⟩ := h
      obtain ⟨j, hj, _⟩ := perm_get hp h1
      exact ⟨j, cs, v, hj, h2, hY _ _ _ hp h3⟩
    | true => exact h.elim
  | store b off vs =>
    obtain ⟨i, cs, us, h1, h2, h3, h4, h5⟩ := h
    obtain ⟨j, hj, hs⟩ := perm_get hp h1
    exact ⟨j, cs, us, hj, h2, h3, h4, hY _ _ _ (hs _) h5⟩
  | alloc cs => exact fun b hb => hY _ _ _ (hp.append_right _) (h b fun hne => (hb hne).perm hp.symm)
  | append sh by_ x ys =>
    obtain ⟨zs, h1, h2, h3⟩ := h
    refine ⟨zs, h1, h2, ?_⟩
    rcases h3 with ⟨sh', h4, h5, h6⟩ | ⟨i, t, xs, h4, h5, h6, h7⟩
    · exact .inl ⟨sh', h4, h5, fun t => hY _ _ _ (hp.append_right _) (h6 t)⟩
    · obtain ⟨j, hj, hs⟩ := perm_get hp h5
      exact .inr ⟨j, t, xs, h4, hj, h6, fun t => hY _ _ _ (hs _) (h7 t)⟩
  | made sh xs => exact fun t => hY _ _ _ (hp.append_right _) (h t)
  | call f args => cases p with
    | false => obtain ⟨a, h1, h2⟩ := h; exact ⟨a, h1, h2.perm hp⟩
    | true => obtain ⟨a, v, h1, h2, h3⟩ := h; exact ⟨a, v, h1, h2, hY _ _ _ hp h3⟩
  | yld l args => cases p with
    | false => obtain ⟨a, h1, h2⟩ := h; exact ⟨a, h1, h2.perm hp⟩
    | true => exact h.elim
  | nilcmp e xs => exact fun b hb => hY _ _ _ hp (h b hb)
  | elem sh xs n => obtain ⟨i, u', u, h1, h2, h3, h4⟩ := h; exact ⟨i, u', u, h1, h2, h3, hY _ _ _ hp h4⟩
  | eff e => cases p with
    | false => exact effW_perm hp hY h
    | true => exact h.elim
  | bad => exact h.elim
theorem opX_perm {m p : Bool} {ok : Nat → Prop} {r : OpR} {R R' : List Res} {Y : V → List Res → Prop} (hp : R.Perm R') (hY : ∀ v R1 R2, R1.Perm R2 → Y v R1 → Y v R2) (h : opX P m ok p r R Y) : opX P m ok p r R' Y := by
  cases m with
  | false => exact opW_perm hp hY h
  | true => cases p with
    | true => exact opW_perm (P := P) (p := true) (r := r) hp hY h
    | false => cases r with
      | call f args => obtain ⟨a, A, R0, B, h1, h2, h3, h4⟩ := h; exact ⟨a, A, R0, B, h1, h2.trans hp, h3, h4⟩
      | _ => (simp only [opX] at h ⊢; exact opW_perm (P := P) (p := false) hp hY h)
def movB (p : Bool) : OpR → Bool
  | .made _ _ => false
  | .yld _ _ => p
  | .eff _ => p
  | _ => true
theorem set_snoc {R : List Res} {i : Nat} {a x z : Res} (h : R[i]? = some a) : (R ++ [z])[i]? = some a ∧ (R ++ [z]).set i x = R.set i x ++ [z] := by
  have hlt := (List.getElem?_eq_some_iff.1 h).1
  refine ⟨by rw [List.getElem?_append_left hlt]; exact h, ?_⟩
  rw [List.set_append_left _ _ hlt]
theorem Fresh.set {R : List Res} {i b : Nat} {x : Res} (h : Fresh R b) (hx : ∀ c ds, x = .obj c ds → ds ≠ [] → c ≠ b) : Fresh (R.set i x) b := fun j c ds hj hne => by
  rw [List.getElem?_set] at hj
  split at hj
  · split at hj
    · exact hx c ds (Option.some.inj hj) hne
    · cases hj
  · exact h j c ds hj hne
theorem Fresh.snoc {R : List Res} {b : Nat} {x : Res} (h : Fresh R b) (hx : ∀ c ds, x = .obj c ds → ds ≠ [] → c ≠ b) : Fresh (R ++ [x]) b := fun j c ds hj hne => by
  rcases Nat.lt_trichotomy j R.length with hl | hl | hl
  · rw [List.getElem?_append_left hl] at hj; exact h j c ds hj hne
  · subst hl; simp at hj; exact hx c ds hj hne
  · rw [List.getElem?_eq_none (by simp; omega)] at hj; cases hj
theorem perm_swap2 {R : List Res} {x z : Res} : (R ++ [x] ++ [z]).Perm (R ++ [z] ++ [x]) := by
  simp only [List.append_assoc, List.singleton_append]
  exact (List.Perm.swap z x []).append_left R
theorem opW_snoc {p : Bool} {r : OpR} {R : List Res} {b : Nat} {cs : List V} {Y0 Y : V → List Res → Prop} (hm : movB p r = true) (hf : cs ≠ [] → Fresh R b) (h : opW P p r R Y0)
    (hk : ∀ v R1 R2, Y0 v R1 → (cs ≠ [] → Fresh R1 b) → (R1 ++ [Res.obj b cs]).Perm R2 → Y v R2) : opW P p r (R ++ [Res.obj b cs]) Y := by
  cases r with
  | val v => exact hk _ _ _ h hf (List.Perm.refl _)
  | need q v => exact ⟨h.1, hk _ _ _ h.2 hf (List.Perm.refl _)⟩
  | load b off sh => cases p with
    | false =>
      obtain ⟨i, cs, v, h1, h2, h3⟩ := h
      exact ⟨i, cs, v, (set_snoc (x := .tok 0 none) h1).1, h2, hk _ _ _ h3 hf (List.Perm.refl _)⟩
    | true => exact h.elim
  | store b' off vs =>
    obtain ⟨i, ds, us, h1, h2, h3, h4, h5⟩ := h
    refine ⟨i, ds, us, (set_snoc (x := .tok 0 none) h1).1, h2, h3, h4, ?_⟩
    rw [(set_snoc h1).2]
    refine hk _ _ _ h5 (fun hne => (hf hne).set fun c es e hes => ?_) (List.Perm.refl _)
    cases e
    refine hf hne i _ _ h1 fun e => ?_
    subst e
    have hu : us = [] := by simp at h3; exact h3.2
    subst hu
    exact hes (by simp [splice])
  | alloc ds =>
    intro b1 hb1
    refine hk _ _ _ (h b1 fun hne i c es hi hes => hb1 hne i c es (set_snoc (x := .tok 0 none) hi).1 hes) (fun hne => (hf hne).snoc fun c es e hes => ?_) perm_swap2
    cases e
    intro e
    subst e
    exact hb1 hes R.length b1 cs (by simp) hne rfl
  | append sh by_ x ys =>
    obtain ⟨zs, h1, h2, h3⟩ := h
    refine ⟨zs, h1, h2, ?_⟩
    rcases h3 with ⟨sh', h4, h5, h6⟩ | ⟨i, t, xs, h4, h5, h6, h7⟩
    · exact .inl ⟨sh', h4, h5, fun t => hk _ _ _ (h6 t) (fun hne => (hf hne).snoc fun c es e => by cases e) perm_swap2⟩
    · refine .inr ⟨i, t, xs, h4, (set_snoc (x := .tok 0 none) h5).1, h6, fun t => ?_⟩
      rw [(set_snoc h5).2]
      exact hk _ _ _ (h7 t) (fun hne => (hf hne).set fun c es e => by cases e) (List.Perm.refl _)
  | made sh xs => cases hm
  | call f args => cases p with
    | false =>
      obtain ⟨a, h1, h2⟩ := h
      refine ⟨a, h1, h2.snoc.mono ?_⟩
      rintro v R' ⟨R1, hY, rfl, hf1⟩
      exact hk _ _ _ hY hf1 (List.Perm.refl _)
    | true => obtain ⟨a, v, h1, h2, h3⟩ := h; exact ⟨a, v, h1, h2, hk _ _ _ h3 hf (List.Perm.refl _)⟩
  | yld l args => cases p with
    | false => cases hm
    | true => exact h.elim
  | nilcmp e xs => exact fun b hb => hk _ _ _ (h b hb) hf (List.Perm.refl _)
  | elem sh xs n => obtain ⟨i, u', u, h1, h2, h3, h4⟩ := h; exact ⟨i, u', u, h1, h2, h3, hk _ _ _ h4 hf (List.Perm.refl _)⟩
  | eff e => cases p with
    | false => cases hm
    | true => exact h.elim
  | bad => exact h.elim
def framedB (live : List Nat) (o : Oper) : Bool := match framedQ live o with
  | [] => false
  | _ => true
theorem framedB_spec (h : framedB live o = true) : o.guard = none ∧ ∃ c g, o.op = .call c ∧ c.callee = .value (.func g) := by
  have h' : framedQ live o ≠ [] := fun e => by unfold framedB at h; rw [e] at h; cases h
  unfold framedQ at h'
  split at h'
  · rename_i c d hop hd hg
    split at h'
    · rename_i g hc
      exact ⟨hg, c, g, hop, hc⟩
    · exact absurd rfl h'
  · exact absurd rfl h'
theorem framed_sOp (h : framedB live o = true) : ∃ c g, o.op = .call c ∧ sOp P live fr o = .call g (c.args.toList.map (ev fr)) := by
  obtain ⟨_, c, g, h1, h2⟩ := framedB_spec h
  refine ⟨c, g, h1, ?_⟩
  unfold sOp
  rw [h1]
  simp only [h2, ev, List.nil_append, List.append_nil]
theorem framed_lates (h : framedB live o = true) : latesOf live o = [] := by
  obtain ⟨_, c, g, h1, _⟩ := framedB_spec h
  unfold latesOf
  rw [h1]
def isPure (p : Bool) (r : OpR) : Prop := (∃ v, r = .val v) ∨ (∃ q v, r = .need q v) ∨ (p = true ∧ ∃ f a, r = .call f a) ∨ (p = true ∧ ∃ l a, r = .yld l a) ∨ (p = true ∧ ∃ b off sh, r = .load b off sh) ∨ (∃ sh xs n, r = .elem sh xs n) ∨ (p = true ∧ ∃ e, r = .eff e) ∨ r = .bad
def isLoad (p : Bool) (r : OpR) : Prop := p = false ∧ ∃ b off sh, r = .load b off sh
theorem opW_pure {p : Bool} {r : OpR} (h : isPure p r) : ∃ C : V → Prop, ∀ R Y, opW P p r R Y ↔ ∃ v, C v ∧ Y v R := by
  rcases h with ⟨v, rfl⟩ | ⟨q, v, rfl⟩ | ⟨rfl, f, a, rfl⟩ | ⟨rfl, l, a, rfl⟩ | ⟨rfl, b, off, sh, rfl⟩ | ⟨sh, xs, n, rfl⟩ | ⟨rfl, e, rfl⟩ | rfl
  · exact ⟨fun u => u = v, fun R Y => ⟨fun h => ⟨v, rfl, h⟩, fun ⟨u, e, h⟩ => e ▸ h⟩⟩
  · exact ⟨fun u => q ∧ u = v, fun R Y => ⟨fun h => ⟨v, ⟨h.1, rfl⟩, h.2⟩, fun ⟨u, e, h⟩ => ⟨e.1, e.2 ▸ h⟩⟩⟩
  · exact ⟨fun u => ∃ a', VleL a a' ∧ PCall P f a' u, fun R Y => ⟨fun ⟨a', v, h1, h2, h3⟩ => ⟨v, ⟨a', h1, h2⟩, h3⟩, fun ⟨v, ⟨a', h1, h2⟩, h3⟩ => ⟨a', v, h1, h2, h3⟩⟩⟩
  · exact ⟨fun _ => False, fun R Y => ⟨fun h => h.elim, fun ⟨_, h, _⟩ => h.elim⟩⟩
  · exact ⟨fun _ => False, fun R Y => ⟨fun h => h.elim, fun ⟨_, h, _⟩ => h.elim⟩⟩
  · exact ⟨fun v => ∃ (i : Nat) (u' u : V), n = i ∧ xs[i]? = some u' ∧ Vle u' u ∧ v = .pt sh u 0, fun R Y => ⟨fun ⟨i, u', u, h1, h2, h3, h4⟩ => ⟨_, ⟨i, u', u, h1, h2, h3, rfl⟩, h4⟩, fun ⟨v, ⟨i, u', u, h1, h2, h3, h5⟩, h4⟩ => ⟨i, u', u, h1, h2, h3, h5 ▸ h4⟩⟩⟩
  · exact ⟨fun _ => False, fun R Y => ⟨fun h => h.elim, fun ⟨_, h, _⟩ => h.elim⟩⟩
  · exact ⟨fun _ => False, fun R Y => ⟨fun h => h.elim, fun ⟨_, h, _⟩ => h.elim⟩⟩
theorem opW_load {p : Bool} {r : OpR} (h : isLoad p r) : ∃ C : V → List Res → Prop, ∀ R Y, opW P p r R Y ↔ ∃ v, C v R ∧ Y v R := by
  obtain ⟨rfl, b, off, sh, rfl⟩ := h
  exact ⟨fun v R => ∃ (i : Nat) (cs : List V), R[i]? = some (.obj b cs) ∧ partOf sh cs off = some v, fun R Y => ⟨fun ⟨i, cs, v, h1, h2, h3⟩ => ⟨v, ⟨i, cs, h1, h2⟩, h3⟩, fun ⟨v, ⟨i, cs, h1, h2⟩, h3⟩ => ⟨i, cs, v, h1, h2, h3⟩⟩⟩
theorem opX_calm {m p : Bool} {ok : Nat → Prop} {r : OpR} {Y : V → List Res → Prop} (h : isPure p r ∨ isLoad p r) : opX P m ok p r R Y ↔ opW P p r R Y := by
  cases m with
  | false => exact Iff.rfl
  | true => cases p with
    | true => exact Iff.rfl
    | false => cases r with
      | call f args =>
        exfalso
        rcases h with h | ⟨_, b, off, sh, h⟩
        · rcases h with ⟨v, h⟩ | ⟨q, v, h⟩ | ⟨h, _⟩ | ⟨h, _⟩ | ⟨h, _⟩ | ⟨sh, xs, n, h⟩ | ⟨h, _⟩ | h <;> cases h
        · cases h
      | _ => exact Iff.rfl
theorem opW_calm {p : Bool} {r : OpR} (h : isPure p r ∨ isLoad p r) : ∃ C : V → List Res → Prop, ∀ R Y, opW P p r R Y ↔ ∃ v, C v R ∧ Y v R := by
  rcases h with h | h
  · obtain ⟨C, hC⟩ := opW_pure (P := P) h; exact ⟨fun v _ => C v, hC⟩
  · exact opW_load h
theorem opW_swap {p p' : Bool} {r r' : OpR} {Y : V → V → List Res → Prop} (hk : isPure p r ∨ (isLoad p r ∧ (isPure p' r' ∨ isLoad p' r'))) (h : opW P p r R fun v R1 => opW P p' r' R1 (Y v)) :
    opW P p' r' R fun u R1 => opW P p r R1 fun v R2 => Y v u R2 := by
  rcases hk with hk | ⟨hk, hk'⟩
  · obtain ⟨C, hC⟩ := opW_pure (P := P) hk
    rw [hC] at h
    obtain ⟨v, h1, h2⟩ := h
    exact opW_mono (fun u R1 hu => (hC _ _).2 ⟨v, h1, hu⟩) h2
  · obtain ⟨C, hC⟩ := opW_load (P := P) (p := p) hk
    obtain ⟨D, hD⟩ := opW_calm (P := P) hk'
    rw [hC] at h
    obtain ⟨v, h1, h2⟩ := h
    rw [hD] at h2
    obtain ⟨u, h3, h4⟩ := h2
    rw [hD]
    exact ⟨u, h3, (hC _ _).2 ⟨v, h1, h4⟩⟩
theorem opX_swap {m p p' : Bool} {ok : Nat → Prop} {r r' : OpR} {Y : V → V → List Res → Prop} (hk : isPure p r ∨ (isLoad p r ∧ (isPure p' r' ∨ isLoad p' r'))) (h : opW P p r R fun v R1 => opX P m ok p' r' R1 (Y v)) :
    opX P m ok p' r' R fun u R1 => opW P p r R1 fun v R2 => Y v u R2 := by
  rcases hk with hk | ⟨hk, hk'⟩
  · obtain ⟨C, hC⟩ := opW_pure (P := P) hk
    rw [hC] at h
    obtain ⟨v, h1, h2⟩ := h
    exact opX_mono (fun u R1 hu => (hC _ _).2 ⟨v, h1, hu⟩) h2
  · rw [opX_calm hk']
    exact opW_swap (.inr ⟨hk, hk'⟩) (opW_mono (fun v R1 h1 => (opX_calm hk').1 h1) h)
theorem opX_swap_lc {b off : Nat} {sh : Option Nat} {f : FuncId} {args : List V} {ok : Nat → Prop} {m p' : Bool} {Y : V → V → List Res → Prop} (hm : m = true) (hne : ¬ ok b) (h : opW P false (.load b off sh) R fun v R1 => opX P m ok p' (.call f args) R1 (Y v)) :
    opX P m ok p' (.call f args) R fun u R1 => opW P false (.load b off sh) R1 fun v R2 => Y v u R2 := by
  subst hm
  cases p' with
  | true => exact opX_swap (m := true) (ok := ok) (p' := true) (.inr ⟨⟨rfl, b, off, sh, rfl⟩, .inl (.inr (.inr (.inl ⟨rfl, f, args, rfl⟩)))⟩) h
  | false =>
    obtain ⟨i, cs, v, h1, h2, a, A, R0, B, g1, g2, g3, g4⟩ := h
    refine ⟨a, A, R0, B, g1, g2, g3, g4.mono fun u R1 h5 => ?_⟩
    have hmem : Res.obj b cs ∈ A ++ R0 ++ B := g2.mem_iff.2 (List.mem_of_getElem? h1)
    have h0 : Res.obj b cs ∉ R0 := fun hm => hne (g3 b cs hm)
    have hmem' : Res.obj b cs ∈ A ++ R1 ++ B := by
      simp only [List.mem_append] at hmem ⊢
      rcases hmem with (hm | hm) | hm
      · exact .inl (.inl hm)
      · exact absurd hm h0
      · exact .inr hm
    obtain ⟨j, hj⟩ := List.mem_iff_getElem?.1 hmem'
    exact ⟨j, cs, v, hj, h2, h5⟩
theorem kind_sOp (hk : kindOf live o ≤ 1) : isPure (pd true live o) (sOp P live fr o) ∨ (kindOf live o = 1 ∧ isLoad (pd true live o) (sOp P live fr o)) := by
  cases hr : sOp P live fr o with
  | val v => exact .inl (.inl ⟨v, rfl⟩)
  | need q v => exact .inl (.inr (.inl ⟨q, v, rfl⟩))
  | load b off sh =>
    obtain ⟨t, x, ho, _⟩ := inv_load hr
    cases hl : o.dst.any live.contains with
    | true => exact .inr ⟨by rw [kindOf, ho]; simp only [hl, cond_true], by simp [pd, hl], b, off, sh, rfl⟩
    | false => exact .inl (.inr (.inr (.inr (.inr (.inl ⟨by simp [pd, hl], b, off, sh, rfl⟩)))))
  | store b off vs =>
    obtain ⟨t, x, y, sh, ho, _⟩ := inv_store hr
    simp [kindOf, ho] at hk
  | alloc cs =>
    rcases inv_alloc hr with ⟨t, i, z, ho, _⟩ | ⟨t, x, ho, _⟩
    · simp [kindOf, ho] at hk
    · have hl : o.dst.any live.contains = false := by
        cases h : o.dst.any live.contains with
        | false => rfl
        | true => rw [kindOf, ho] at hk; simp only [h, cond_true] at hk; omega
      unfold sOp at hr
      rw [ho] at hr
      simp only [hl] at hr
      (repeat' split at hr) <;> simp_all
  | append sh by_ x ys =>
    obtain ⟨args, ats, t, tx, e, i, s, y, ho, _⟩ := inv_append hr
    simp [kindOf, ho] at hk
  | made sh xs =>
    obtain ⟨t, n, parts, e, ho, _⟩ := inv_made hr
    have hl : o.dst.any live.contains = false := by
      cases h : o.dst.any live.contains with
      | false => rfl
      | true => rw [kindOf, ho] at hk; simp only [h, cond_true] at hk; omega
    unfold sOp at hr
    rw [ho] at hr
    simp only [hl] at hr
    (repeat' split at hr) <;> simp_all
  | call f vs =>
    obtain ⟨x, args, ats, first, caps, ho, _⟩ := inv_call hr
    have hl : o.dst.any live.contains = false := by
      cases h : o.dst.any live.contains with
      | false => rfl
      | true => rw [kindOf, ho] at hk; simp only [h, cond_true] at hk; omega
    exact .inl (.inr (.inr (.inl ⟨by simp [pd, hl], f, vs, rfl⟩)))
  | yld l vs =>
    obtain ⟨x, args, ats, ho, _⟩ := inv_yld hr
    have hl : o.dst.any live.contains = false := by
      cases h : o.dst.any live.contains with
      | false => rfl
      | true => rw [kindOf, ho] at hk; simp only [h, cond_true] at hk; omega
    exact .inl (.inr (.inr (.inr (.inl ⟨by simp [pd, hl], l, vs, rfl⟩))))
  | nilcmp e xs =>
    obtain ⟨t, x, ty, e', sh, tok, ho, _⟩ := inv_nilcmp hr
    simp [kindOf, ho] at hk
  | elem sh xs n => exact .inl (.inr (.inr (.inr (.inr (.inr (.inl ⟨sh, xs, n, rfl⟩))))))
  | eff e =>
    have ho := inv_eff hr
    have live2 : ∀ {n : Nat}, kindOf live o = (bif o.dst.any live.contains then 2 else 0) → o.dst.any live.contains = false := fun h => by
      cases hl : o.dst.any live.contains with
      | false => rfl
      | true => rw [hl] at h; simp at h; omega
    have fin : o.dst.any live.contains = false → isPure (pd true live o) (.eff e) ∨ (kindOf live o = 1 ∧ isLoad (pd true live o) (.eff e)) := fun hl => .inl (.inr (.inr (.inr (.inr (.inr (.inr (.inl ⟨by simp [pd, hl], e, rfl⟩)))))))
    cases e with
    | app => obtain ⟨_, _, _, _, _, _, _, _, ho, _⟩ := ho; simp [kindOf, ho] at hk
    | appL => obtain ⟨_, _, _, _, _, _, _, _, _, _, ho, _⟩ := ho; simp [kindOf, ho] at hk
    | appZ => obtain ⟨_, _, _, _, _, _, _, _, _, _, _, ho, _⟩ := ho; simp [kindOf, ho] at hk
    | copy => obtain ⟨_, _, _, _, _, _, _, _, _, ho, _⟩ := ho; simp [kindOf, ho] at hk
    | copyL => obtain ⟨_, _, _, _, _, _, _, _, _, _, ho, _⟩ := ho; simp [kindOf, ho] at hk
    | clear => obtain ⟨_, _, _, _, _, _, _, _, ho, _⟩ := ho; simp [kindOf, ho] at hk
    | make => obtain ⟨_, _, _, _, _, _, _, _, ho, _⟩ := ho; simp [kindOf, ho] at hk
    | bytes => obtain ⟨_, _, _, _, _, ho, _⟩ := ho; exact fin (live2 (n := 0) (by simp [kindOf, ho]))
    | str => obtain ⟨_, _, _, _, _, ho, _⟩ := ho; exact fin (live2 (n := 0) (by simp [kindOf, ho]))
    | isNil => obtain ⟨_, _, _, _, _, _, _, _, ho, _⟩ := ho; simp [kindOf, ho] at hk
    | lit => obtain ⟨_, _, _, _, ho, _⟩ := ho; exact fin (live2 (n := 0) (by simp [kindOf, ho]))
  | bad => exact .inl (.inr (.inr (.inr (.inr (.inr (.inr (.inr rfl)))))))
theorem kind_opE (hk : kindOf live o ≤ 1) : isPure (pd true live o) (opE P live ops fr o) ∨ (kindOf live o = 1 ∧ isLoad (pd true live o) (opE P live ops fr o)) := by
  unfold opE
  split
  · exact kind_sOp hk
  · split
    · exact .inl (.inr (.inr (.inr (.inr (.inr (.inr (.inr rfl)))))))
    · split
      · rename_i b _
        cases b == _ with
        | true => exact kind_sOp hk
        | false => exact .inl (.inl ⟨_, rfl⟩)
      · exact .inl (.inl ⟨_, rfl⟩)
      · exact .inl (.inr (.inr (.inr (.inr (.inr (.inr (.inr rfl)))))))
theorem map_ev {fr fr' : Fr} {l : List Operand} (h : ∀ x ∈ l, ev fr x = ev fr' x) : l.map (ev fr) = l.map (ev fr') := List.map_congr_left h
set_option maxHeartbeats 4000000 in
theorem sOp_congr {fr fr' : Fr} (h : ∀ x ∈ o.op.operands.toList, ev fr x = ev fr' x) : sOp P live fr o = sOp P live fr' o := by
  unfold sOp
  cases hop : o.op <;> simp only [hop, Op.operands] at h ⊢
  case build t ps =>
    have : (ps.toList.map fun x => (x.1, ev fr x.2)) = ps.toList.map fun x => (x.1, ev fr' x.2) := List.map_congr_left fun x hx => by
      rw [h x.2 (by simp; exact ⟨x.1, Array.mem_def.2 hx⟩)]
    simp only [this]
  case buildSlice t n ps =>
    have : (ps.toList.map fun x => ev fr x.2) = ps.toList.map fun x => ev fr' x.2 := List.map_congr_left fun x hx => by
      rw [h x.2 (by simp; exact ⟨x.1, Array.mem_def.2 hx⟩)]
    simp only [this]
  case makeFunc f fi ca =>
    rw [map_ev (fr := fr) (fr' := fr') (l := fi.toList) fun x hx => h x (by simp; exact .inl (Array.mem_def.2 hx)), map_ev (fr := fr) (fr' := fr') (l := ca.toList) fun x hx => h x (by simp; exact .inr (Array.mem_def.2 hx))]
  case slice t x lo hi mx =>
    have hx := h x (by simp)
    have hl : lo.map (ev fr) = lo.map (ev fr') := by cases lo with | none => rfl | some y => simp only [Option.map_some]; rw [h y (by simp)]
    have hh : hi.map (ev fr) = hi.map (ev fr') := by cases hi with | none => rfl | some y => simp only [Option.map_some]; rw [h y (by simp)]
    rw [hx, hl, hh]
    have hm : ∀ m, mx = some m → ev fr m = ev fr' m := fun m e => h m (by simp [e])
    clear h hx hl hh
    cases P.underlying t with
    | none => rfl
    | some d => cases d <;> first
      | rfl
      | (cases ev fr' x <;> first
          | rfl
          | (cases mx with
             | none => first
               | rfl
               | (rename_i v; cases v <;> rfl)
             | some m => first
               | rfl
               | (simp only [hm m rfl]; done)
               | (dsimp only; rw [show Option.map (ev fr) (some m) = Option.map (ev fr') (some m) by simp only [Option.map_some, hm m rfl]]; done)
               | (rename_i v; cases v <;> rfl)))
  case call c =>
    have ha : c.args.toList.map (ev fr) = c.args.toList.map (ev fr') := map_ev fun x hx => h x (by
      unfold Call.operands
      split <;> simp <;> first | exact Array.mem_def.2 hx | exact .inr (Array.mem_def.2 hx))
    cases hc : c.callee with
    | value f =>
      have hf := h f (by simp [Call.operands, hc])
      simp only [ha, hf]
    | builtin b => cases b <;> simp only [ha]
    | invoke => rfl
  case binOp => simp only [h _ (List.mem_cons_self ..), h _ (List.mem_cons_of_mem _ (List.mem_cons_self ..))]
  all_goals first
    | rfl
    | (simp at h; simp only [h])
theorem ev_putO {fr : Fr} {d : Option Nat} {v : V} {x : Operand} (h : ∀ k, d = some k → x ≠ .tmp k) : ev (putO fr d v) x = ev fr x := by
  cases d with
  | none => rfl
  | some k =>
    cases x with
    | tmp t => exact put_other fun e => h k rfl (by rw [e])
    | _ => rfl
theorem opE_put {fr : Fr} {d : Option Nat} {v : V} (h : ∀ k, d = some k → k ∉ o.looksAt ops) : opE P live ops (putO fr d v) o = opE P live ops fr o := by
  have hs : sOp P live (putO fr d v) o = sOp P live fr o := sOp_congr fun x hx => ev_putO fun k hk e => h k hk (by
    subst e
    exact List.mem_append.2 (.inl (List.mem_filterMap.2 ⟨_, hx, rfl⟩)))
  unfold opE
  cases hg : o.guard with
  | none => exact hs
  | some q =>
    obtain ⟨j, want⟩ := q
    simp only
    cases hj : (ops[j]?).bind (·.dst) with
    | none => rfl
    | some e =>
      have : putO fr d v e = fr e := by
        cases d with
        | none => rfl
        | some k => exact put_other fun he => h k rfl (by
            subst he
            exact List.mem_append.2 (.inr (by simp [hg, hj])))
      simp only [this, hs]
theorem putO_comm {fr : Fr} {d e : Option Nat} {v u : V} (h : ∀ k, d = some k → e ≠ some k) : putO (putO fr d v) e u = putO (putO fr e u) d v := by
  cases d with
  | none => rfl
  | some k => cases e with
    | none => rfl
    | some j =>
      have hne : j ≠ k := fun he => h k rfl (by rw [he])
      funext t
      simp only [putO]
      by_cases h1 : t = j
      · subst h1; rw [put_same, put_other hne, put_same]
      · rw [put_other h1]
        by_cases h2 : t = k
        · subst h2; rw [put_same, put_same]
        · rw [put_other h2, put_other h2, put_other h1]
def RW (P : Program) (live : List Nat) (ops : Array Oper) (Φ : Fr → List Res → Prop) : List Nat → Fr → List Res → Prop
  | [], fr, R => Φ fr R
  | i :: l, fr, R => match ops[i]? with
    | none => False
    | some o => (∀ q ∈ latesOf live o, Apart fr o q) ∧ opX P (framedB live o) (okq fr (framedQ live o)) (pd true live o) (opE P live ops fr o) R fun v R' => RW P live ops Φ l (putO fr o.dst v) R'
theorem relV_uV (g : Gh) (w : World) : RelV g w uV undef := by simp only [uV, RelV]; rfl
theorem late_wp {k : Fr → Tree} {Q : Exit → Fr → List Res → Prop} (h : (late true live o fr (finish (pd true live o) (sOp P live fr o) o.dst fr k)).wp P R Q) :
    (∀ q ∈ latesOf live o, Apart fr o q) ∧ opX P (framedB live o) (okq fr (framedQ live o)) (pd true live o) (sOp P live fr o) R fun v R' => (k (putO fr o.dst v)).wp P R' Q := by
  unfold late at h
  cases hq : framedQ live o with
  | cons q l =>
    have hf : framedB live o = true := by unfold framedB; rw [hq]
    rw [hq] at h
    obtain ⟨c, g, h1, h2⟩ := framed_sOp (P := P) (fr := fr) hf
    refine ⟨by rw [framed_lates hf]; simp, ?_⟩
    rw [h2] at h ⊢
    rw [hf]
    cases hp : pd true live o with
    | false => rw [hp] at h; obtain ⟨a, A, R0, B, g1, g2, g3, g4⟩ := h; exact ⟨a, A, R0, B, g1, g2 ▸ List.Perm.refl _, g3, g4⟩
    | true => rw [hp] at h; exact h
  | nil =>
    have hf : framedB live o = false := by unfold framedB; rw [hq]
    rw [hq] at h
    rw [hf]
    simp only at h
    cases hl : latesOf live o with
    | nil => rw [hl] at h; exact ⟨by simp, finish_wp.1 h⟩
    | cons q l => rw [hl] at h; exact ⟨h.1, finish_wp.1 h.2⟩
theorem framed_guard {q : Nat × Bool} (h : o.guard = some q) : framedB live o = false := by
  cases hf : framedB live o with
  | false => rfl
  | true => have := (framedB_spec hf).1; rw [h] at this; cases this
theorem lates_guard {q : Nat × Bool} (h : o.guard = some q) : latesOf live o = [] := by
  unfold latesOf
  rw [h]
  split <;> simp_all
theorem execOps_RW {k : Fr → Tree} {Q : Exit → Fr → List Res → Prop} : ∀ (l : List Nat) (known : List (Nat × Bool)) (fr : Fr) (R : List Res), (∀ i ∈ l, i < ops.size) → (execOps P live true ops k (l.filterMap fun i => ops[i]?) known fr).wp P R Q →
    RW P live ops (fun fr R => (k fr).wp P R Q) l fr R
  | [], _, _, _, _, h => h
  | i :: l, known, fr, R, hl, h => by
    obtain ⟨o, hi⟩ : ∃ o, ops[i]? = some o := ⟨_, Array.getElem?_eq_getElem (hl i (by simp))⟩
    have hl' : ∀ j ∈ l, j < ops.size := fun j hj => hl j (by simp [hj])
    simp only [List.filterMap_cons, hi, execOps] at h
    simp only [RW, hi]
    have yes : ∀ (known1 : List (Nat × Bool)) (fr1 : Fr), (finish (pd true live o) (sOp P live fr1 o) o.dst fr1 fun fr' => execOps P live true ops k (l.filterMap fun i => ops[i]?) known1 fr').wp P R Q →
        opW P (pd true live o) (sOp P live fr1 o) R fun v R' => RW P live ops (fun fr R => (k fr).wp P R Q) l (putO fr1 o.dst v) R' := fun known1 fr1 h1 =>
      opW_mono (fun v R' h2 => execOps_RW l known1 _ R' hl' h2) (finish_wp.1 h1)
    unfold opE
    cases hg : o.guard with
    | none => rw [hg] at h; exact ⟨(late_wp h).1, opX_mono (fun v R' h2 => execOps_RW l _ _ R' hl' h2) (late_wp h).2⟩
    | some q =>
      refine ⟨by rw [lates_guard hg]; simp, ?_⟩
      rw [framed_guard hg, opX_false]
      obtain ⟨j, want⟩ := q
      rw [hg] at h
      simp only at h ⊢
      cases hj : (ops[j]?).bind (·.dst) with
      | none => rw [hj] at h; exact h.elim
      | some d =>
        rw [hj] at h
        simp only at h ⊢
        have want2 : want = true ∨ want = false := Bool.eq_false_or_eq_true want
        split at h
        · rename_i hfd
          simp only [hfd]
          rcases want2 with rfl | rfl
          · exact yes _ _ h
          · exact execOps_RW l _ _ R hl' h
        · rename_i hfd
          simp only [hfd]
          rcases want2 with rfl | rfl
          · exact execOps_RW l _ _ R hl' h
          · exact yes _ _ h
        · rename_i b _ hfd
          have hput : put fr d (.c (.bool b)) = fr := by
            funext t
            by_cases ht : t = d
            · subst ht; rw [put_same, hfd]
            · rw [put_other ht]
          simp only [hfd]
          have b2 : b = true ∨ b = false := Bool.eq_false_or_eq_true b
          rcases want2 with rfl | rfl
          · rcases b2 with rfl | rfl
            · have h1 := h.1 rfl; rw [hput] at h1; exact yes _ _ h1
            · have h1 := h.2 rfl; rw [hput] at h1; exact execOps_RW l _ _ R hl' h1
          · rcases b2 with rfl | rfl
            · have h1 := h.1 rfl; rw [hput] at h1; exact execOps_RW l _ _ R hl' h1
            · have h1 := h.2 rfl; rw [hput] at h1; exact yes _ _ h1
        · rename_i hfd
          simp only [hfd]
          exact execOps_RW l _ _ R hl' h
        · exact h.elim
def lateFree (live : List Nat) (x y : Oper) : Bool := (match x.dst with | none => true | some d => !(latesOf live y).contains d && !(framedQ live y).contains d) && (match y.dst with | none => true | some d => !(latesOf live x).contains d && !(framedQ live x).contains d)
def lateB (live : List Nat) (x y : Oper) : Bool := match y.op with
  | .store _ (.tmp q) _ => (latesOf live x).contains q && Nat.beq (kindOf live x) 1
  | .call _ => framedB live y && Nat.beq (kindOf live x) 1 && (framedQ live y).all (latesOf live x).contains
  | _ => false
def movable (live : List Nat) (x : Oper) : Bool := match x.op with
  | .call c => match c.callee with
    | .value (.func _) => !framedB live x
    | .builtin .append => !(x.dst.any live.contains)
    | _ => false
  | .store _ _ _ => true
  | .alloc _ => true
  | .load _ _ => true
  | _ => false
def allocB (P : Program) (y : Oper) : Bool := match y.op, y.guard with
  | .alloc t, none => match P.info? t with
    | some i => match i.zero with
      | some z => (cellsO (ofC z)).isSome
      | none => false
    | none => false
  | _, _ => false
def moveB (P : Program) (live : List Nat) (x y : Oper) : Bool := allocB P y && movable live x
def swapB (P : Program) (live : List Nat) (ops : Array Oper) (x y : Oper) : Bool :=
  x.apart ops y && lateFree live x y && ((Nat.beq (kindOf live x) 0 || (Nat.beq (kindOf live x) 1 && Nat.ble (kindOf live y) 1)) || (lateB live x y || moveB P live x y))
theorem apart_put {fr : Fr} {d : Option Nat} {v : V} {q : Nat} (h : ∀ k, d = some k → k ∉ o.looksAt ops) (hq : ∀ k, d = some k → k ≠ q) : Apart (putO fr d v) o q ↔ Apart fr o q := by
  unfold Apart
  split
  · rename_i t x hop
    have h1 : ev (putO fr d v) x = ev fr x := ev_putO fun k hk e => h k hk (by
      subst e
      exact List.mem_append.2 (.inl (List.mem_filterMap.2 ⟨.tmp k, by rw [hop]; simp [Op.operands], rfl⟩)))
    have h2 : putO fr d v q = fr q := by
      cases d with
      | none => rfl
      | some k => exact put_other fun e => hq k rfl e.symm
    rw [h1, h2]
  · exact Iff.rfl
theorem lates_put {fr : Fr} {x y : Oper} {v : V} (h : ∀ k, x.dst = some k → k ∉ y.looksAt ops) (hf : ∀ k, x.dst = some k → k ∉ latesOf live y) : (∀ q ∈ latesOf live y, Apart (putO fr x.dst v) y q) ↔ (∀ q ∈ latesOf live y, Apart fr y q) :=
  ⟨fun hx q hq => (apart_put h (fun k hk e => hf k hk (e ▸ hq))).1 (hx q hq), fun hx q hq => (apart_put h (fun k hk e => hf k hk (e ▸ hq))).2 (hx q hq)⟩
theorem okq_put {fr : Fr} {d : Option Nat} {v : V} {qs : List Nat} (h : ∀ k, d = some k → k ∉ qs) : okq (putO fr d v) qs = okq fr qs := by
  funext c
  have key : ∀ q ∈ qs, putO fr d v q = fr q := fun q hq => by
    cases d with
    | none => rfl
    | some k => exact put_other fun e => h k rfl (e ▸ hq)
  exact propext ⟨fun ⟨q, hq, off, e⟩ => ⟨q, hq, off, (key q hq) ▸ e⟩, fun ⟨q, hq, off, e⟩ => ⟨q, hq, off, (key q hq).trans e⟩⟩
theorem opW_swap_ls {b off b' off' : Nat} {sh : Option Nat} {vs : List V} {p' : Bool} {Y : V → V → List Res → Prop} (hne : b ≠ b') (h : opW P false (.load b off sh) R fun v R1 => opW P p' (.store b' off' vs) R1 (Y v)) :
    opW P p' (.store b' off' vs) R fun u R1 => opW P false (.load b off sh) R1 fun v R2 => Y v u R2 := by
  obtain ⟨i, cs, v, h1, h2, i', cs', us, g1, g2, g3, g4, g5⟩ := h
  refine ⟨i', cs', us, g1, g2, g3, g4, i, cs, v, ?_, h2, g5⟩
  rw [List.getElem?_set_ne]
  · exact h1
  · rintro rfl
    rw [h1] at g1
    cases g1
    exact hne rfl
set_option maxHeartbeats 1000000 in
theorem store_opE {fr : Fr} {t : TypeId} {x y : Operand} (h : o.op = .store t x y) : isPure (pd true live o) (opE P live ops fr o) ∨ ∃ b off vs, opE P live ops fr o = .store b off vs ∧ ev fr x = .loc b off := by
  have hs : sOp P live fr o = .bad ∨ ∃ b off vs, sOp P live fr o = .store b off vs ∧ ev fr x = .loc b off := by
    cases hr : sOp P live fr o with
    | store b off vs =>
      obtain ⟨t', x', y', sh, ho, _, hx, _⟩ := inv_store hr
      rw [h] at ho
      cases ho
      exact .inr ⟨b, off, vs, rfl, hx⟩
    | bad => exact .inl rfl
    | _ =>
      exfalso
      unfold sOp at hr
      rw [h] at hr
      simp only at hr
      (repeat' split at hr) <;> simp at hr
  have hb : isPure (pd true live o) (.bad : OpR) := .inr (.inr (.inr (.inr (.inr (.inr (.inr rfl))))))
  have hs' : isPure (pd true live o) (sOp P live fr o) ∨ ∃ b off vs, sOp P live fr o = .store b off vs ∧ ev fr x = .loc b off := by
    rcases hs with hs | hs
    · rw [hs]; exact .inl hb
    · exact .inr hs
  unfold opE
  split
  · exact hs'
  · split
    · exact .inl hb
    · split
      · rename_i b _
        cases b == _ with
        | true => exact hs'
        | false => exact .inl (.inl ⟨_, rfl⟩)
      · exact .inl (.inl ⟨_, rfl⟩)
      · exact .inl hb
theorem opW_calm_and {p : Bool} {r : OpR} (h : isPure p r ∨ isLoad p r) {A : Prop} {Y : V → List Res → Prop} (hw : opW P p r R fun v R1 => A ∧ Y v R1) : A ∧ opW P p r R Y := by
  obtain ⟨C, hC⟩ := opW_calm (P := P) h
  obtain ⟨v, h1, h2, h3⟩ := (hC _ _).1 hw
  exact ⟨h2, (hC _ _).2 ⟨v, h1, h3⟩⟩
theorem RW_mono {Φ Φ' : Fr → List Res → Prop} (hΦ : ∀ fr R, Φ fr R → Φ' fr R) : ∀ (l : List Nat) (fr : Fr) (R : List Res), RW P live ops Φ l fr R → RW P live ops Φ' l fr R
  | [], fr, R, h => hΦ fr R h
  | i :: l, fr, R, h => by
    simp only [RW] at h ⊢
    cases ho : ops[i]? with
    | none => rw [ho] at h; exact h.elim
    | some o => rw [ho] at h; exact ⟨h.1, opX_mono (fun v R1 h2 => RW_mono hΦ l _ R1 h2) h.2⟩
theorem movB_sOp (hm : movable live o = true) : movB (pd true live o) (sOp P live fr o) = true := by
  cases hr : sOp P live fr o with
  | made sh xs =>
    obtain ⟨t, n, parts, e, ho, _⟩ := inv_made hr
    simp [movable, ho] at hm
  | yld l vs =>
    obtain ⟨x, args, ats, ho, hx, _⟩ := inv_yld hr
    simp only [movable, ho] at hm
    split at hm
    · rename_i g hg
      cases hg
      simp [ev] at hx
    · rename_i hg; cases hg
    · cases hm
  | eff e =>
    have ho := inv_eff hr
    have app : ∀ {args : Array Operand} {ats : Array TypeId}, o.op = .call { callee := .builtin .append, args := args, argTypes := ats } → movB (pd true live o) (.eff e) = true := fun ho => by
      simp only [movable, ho] at hm
      simpa [movB, pd] using hm
    cases e with
    | app => obtain ⟨_, _, _, _, _, _, _, _, ho, _⟩ := ho; exact app ho
    | appL => obtain ⟨_, _, _, _, _, _, _, _, _, _, ho, _⟩ := ho; exact app ho
    | appZ => obtain ⟨_, _, _, _, _, _, _, _, _, _, _, ho, _⟩ := ho; exact app ho
    | copy => obtain ⟨_, _, _, _, _, _, _, _, _, ho, _⟩ := ho; simp [movable, ho] at hm
    | copyL => obtain ⟨_, _, _, _, _, _, _, _, _, _, ho, _⟩ := ho; simp [movable, ho] at hm
    | clear => obtain ⟨_, _, _, _, _, _, _, _, ho, _⟩ := ho; simp [movable, ho] at hm
    | make => obtain ⟨_, _, _, _, _, _, _, _, ho, _⟩ := ho; simp [movable, ho] at hm
    | bytes => obtain ⟨_, _, _, _, _, ho, _⟩ := ho; simp [movable, ho] at hm
    | str => obtain ⟨_, _, _, _, _, ho, _⟩ := ho; simp [movable, ho] at hm
    | isNil => obtain ⟨_, _, _, _, _, _, _, _, ho, _⟩ := ho; simp [movable, ho] at hm
    | lit => obtain ⟨_, _, _, _, ho, _⟩ := ho; simp [movable, ho] at hm
  | _ => rfl
theorem movB_opE (hm : movable live o = true) : movB (pd true live o) (opE P live ops fr o) = true := by
  unfold opE
  split
  · exact movB_sOp hm
  · split
    · rfl
    · split
      · rename_i b _
        cases b == _ with
        | true => exact movB_sOp hm
        | false => rfl
      · rfl
      · rfl
theorem allocB_spec {y : Oper} (h : allocB P y = true) : y.guard = none ∧ latesOf live y = [] ∧ framedB live y = false ∧ ∃ cs, ∀ fr, sOp P live fr y = .alloc cs := by
  unfold allocB at h
  split at h
  · rename_i t hop hg
    refine ⟨hg, by unfold latesOf; rw [hop], ?_, ?_⟩
    · cases hf : framedB live y with
      | false => rfl
      | true => obtain ⟨_, _, _, h7, _⟩ := framedB_spec hf; rw [hop] at h7; cases h7
    · split at h
      · rename_i i hi
        split at h
        · rename_i z hz
          cases hc : cellsO (ofC z) with
          | none => rw [hc] at h; cases h
          | some cs => exact ⟨cs, fun fr => by unfold sOp; rw [hop]; simp only [hi, hz, hc]⟩
        · cases h
      · cases h
  · cases h
theorem movable_framed (hm : movable live o = true) : framedB live o = false := by
  cases hf : framedB live o with
  | false => rfl
  | true =>
    obtain ⟨_, c, g, h1, h2⟩ := framedB_spec hf
    obtain ⟨callee, args, ats⟩ := c
    cases h2
    simp only [movable, h1, hf] at hm
    cases hm
theorem RW_perm {Φ : Fr → List Res → Prop} (hΦ : ∀ fr R R', R.Perm R' → Φ fr R → Φ fr R') : ∀ (l : List Nat) (fr : Fr) (R R' : List Res), R.Perm R' → RW P live ops Φ l fr R → RW P live ops Φ l fr R'
  | [], fr, R, R', hp, h => hΦ fr R R' hp h
  | i :: l, fr, R, R', hp, h => by
    simp only [RW] at h ⊢
    cases ho : ops[i]? with
    | none => rw [ho] at h; exact h.elim
    | some o => rw [ho] at h; exact ⟨h.1, opX_perm hp (fun v R1 R2 hp2 h2 => RW_perm hΦ l _ R1 R2 hp2 h2) h.2⟩
theorem RW_swap {Φ : Fr → List Res → Prop} (hΦ : ∀ fr R R', R.Perm R' → Φ fr R → Φ fr R') {i j : Nat} {x y : Oper} (hx : ops[j]? = some x) (hy : ops[i]? = some y) (hs : swapB P live ops x y = true) {l : List Nat} {fr : Fr} {R : List Res} (h : RW P live ops Φ (j :: i :: l) fr R) : RW P live ops Φ (i :: j :: l) fr R := by
  simp only [swapB, Bool.and_eq_true, Bool.or_eq_true] at hs
  obtain ⟨⟨hap, hfree⟩, hk⟩ := hs
  obtain ⟨h1, h2, h3⟩ := Oper.apart_spec hap
  have f1 : ∀ k, x.dst = some k → k ∉ latesOf live y := by
    intro k hk hm
    simp only [lateFree, hk, Bool.and_eq_true] at hfree
    have := hfree.1.1
    simp [hm] at this
  have q1 : ∀ k, x.dst = some k → k ∉ framedQ live y := by
    intro k hk hm
    simp only [lateFree, hk, Bool.and_eq_true] at hfree
    have := hfree.1.2
    simp [hm] at this
  have f2 : ∀ k, y.dst = some k → k ∉ latesOf live x := by
    intro k hk hm
    simp only [lateFree, hk, Bool.and_eq_true] at hfree
    have := hfree.2.1
    simp [hm] at this
  have q2 : ∀ k, y.dst = some k → k ∉ framedQ live x := by
    intro k hk hm
    simp only [lateFree, hk, Bool.and_eq_true] at hfree
    have := hfree.2.2
    simp [hm] at this
  by_cases hmv : moveB P live x y = true
  · simp only [moveB, Bool.and_eq_true] at hmv
    obtain ⟨hy1, hy2, hy3, cs, hy4⟩ := allocB_spec (live := live) hmv.1
    have hfx := movable_framed hmv.2
    have hye : ∀ fr, opE P live ops fr y = .alloc cs := fun fr => by unfold opE; rw [hy1]; exact hy4 fr
    simp only [RW, hx, hy] at h ⊢
    obtain ⟨hlx, h⟩ := h
    refine ⟨by rw [hy2]; simp, ?_⟩
    rw [hy3, opX_false, hye]
    intro b hb
    refine ⟨(lates_put h3 f2).2 hlx, ?_⟩
    rw [hfx, opX_false] at h ⊢
    rw [opE_put h3]
    refine opW_snoc (movB_opE hmv.2) hb h fun v R1 R2 hY hf hp => ?_
    obtain ⟨_, hY⟩ := hY
    rw [hy3, opX_false, hye] at hY
    have h5 : RW P live ops Φ l (putO (putO fr x.dst v) y.dst (.loc b 0)) (R1 ++ [Res.obj b cs]) := hY b hf
    rw [putO_comm h2] at h5
    exact RW_perm hΦ l _ _ _ hp h5
  replace hk : ((Nat.beq (kindOf live x) 0 = true) ∨ (Nat.beq (kindOf live x) 1 = true ∧ Nat.ble (kindOf live y) 1 = true)) ∨ lateB live x y = true := by
    rcases hk with hk | hk | hk
    · exact .inl hk
    · exact .inr hk
    · exact absurd hk hmv
  simp only [RW, hx, hy] at h ⊢
  obtain ⟨hlx, h⟩ := h
  have hcalm : isPure (pd true live x) (opE P live ops fr x) ∨ isLoad (pd true live x) (opE P live ops fr x) := by
    have : kindOf live x ≤ 1 := by
      rcases hk with (hk | ⟨hk, _⟩) | hk
      · have := Nat.eq_of_beq_eq_true hk; omega
      · have := Nat.eq_of_beq_eq_true hk; omega
      · unfold lateB at hk
        split at hk
        · simp only [Bool.and_eq_true] at hk
          have := Nat.eq_of_beq_eq_true hk.2; omega
        · simp only [Bool.and_eq_true] at hk
          have := Nat.eq_of_beq_eq_true hk.1.2; omega
        · cases hk
    rcases kind_opE (P := P) (ops := ops) (fr := fr) this with h | ⟨_, h⟩
    · exact .inl h
    · exact .inr h
  have h' := opW_mono (P := P) (Y' := fun v R1 => (∀ q ∈ latesOf live y, Apart fr y q) ∧ opX P (framedB live y) (okq fr (framedQ live y)) (pd true live y) (opE P live ops fr y) R1 fun u R2 => RW P live ops Φ l (putO (putO fr x.dst v) y.dst u) R2) (fun v R1 h4 => by
    rw [lates_put h1 f1, opE_put h1, okq_put q1] at h4
    exact h4) ((opX_calm hcalm).1 h)
  obtain ⟨hly, h'⟩ := opW_calm_and hcalm h'
  refine ⟨hly, ?_⟩
  have fin : (opX P (framedB live y) (okq fr (framedQ live y)) (pd true live y) (opE P live ops fr y) R fun u R1 => opW P (pd true live x) (opE P live ops fr x) R1 fun v R2 => RW P live ops Φ l (putO (putO fr x.dst v) y.dst u) R2) → opX P (framedB live y) (okq fr (framedQ live y)) (pd true live y) (opE P live ops fr y) R fun v R' => (∀ q ∈ latesOf live x, Apart (putO fr y.dst v) x q) ∧ opX P (framedB live x) (okq (putO fr y.dst v) (framedQ live x)) (pd true live x) (opE P live ops (putO fr y.dst v) x) R' fun v_1 R' => RW P live ops Φ l (putO (putO fr y.dst v) x.dst v_1) R' := by
    intro h
    refine opX_mono (fun u R1 h4 => ⟨(lates_put h3 f2).2 hlx, ?_⟩) h
    rw [opE_put h3, opX_calm hcalm]
    refine opW_mono (fun v R2 h5 => ?_) h4
    rw [putO_comm h2] at h5
    exact h5
  refine fin ?_
  rcases hcalm with hp | hld
  · exact opX_swap (Y := fun v u R2 => RW P live ops Φ l (putO (putO fr x.dst v) y.dst u) R2) (.inl hp) h'
  · rcases hk with hk | hk
    · have hyc : isPure (pd true live y) (opE P live ops fr y) ∨ isLoad (pd true live y) (opE P live ops fr y) ∨ isPure (pd true live x) (opE P live ops fr x) := by
        rcases hk with hk | ⟨hk, hk2⟩
        · have hk := Nat.eq_of_beq_eq_true hk
          rcases kind_opE (P := P) (ops := ops) (fr := fr) (show kindOf live x ≤ 1 by omega) with h | ⟨h, _⟩
          · exact .inr (.inr h)
          · omega
        · have hk2 := Nat.le_of_ble_eq_true hk2
          rcases kind_opE (P := P) (ops := ops) (fr := fr) hk2 with h | ⟨_, h⟩
          · exact .inl h
          · exact .inr (.inl h)
      rcases hyc with hyc | hyc | hyc
      · exact opX_swap (Y := fun v u R2 => RW P live ops Φ l (putO (putO fr x.dst v) y.dst u) R2) (.inr ⟨hld, .inl hyc⟩) h'
      · exact opX_swap (Y := fun v u R2 => RW P live ops Φ l (putO (putO fr x.dst v) y.dst u) R2) (.inr ⟨hld, .inr hyc⟩) h'
      · exact opX_swap (Y := fun v u R2 => RW P live ops Φ l (putO (putO fr x.dst v) y.dst u) R2) (.inl hyc) h'
    · unfold lateB at hk
      split at hk
      · rename_i t q z hyop
        simp only [Bool.and_eq_true] at hk
        have hq : q ∈ latesOf live x := by simpa using hk.1
        rcases store_opE (P := P) (live := live) (ops := ops) (fr := fr) hyop with hyc | ⟨b', off', vs, hye, hyp⟩
        · exact opX_swap (Y := fun v u R2 => RW P live ops Φ l (putO (putO fr x.dst v) y.dst u) R2) (.inr ⟨hld, .inl hyc⟩) h'
        · obtain ⟨hpf, b, off, sh, hxe⟩ := hld
          have hxg : x.guard = none := by
            cases hg : x.guard with
            | none => rfl
            | some r => rw [lates_guard hg] at hq; cases hq
          have hxs : sOp P live fr x = .load b off sh := by
            unfold opE at hxe; rw [hxg] at hxe; exact hxe
          obtain ⟨t', x', hxop, _, hxp⟩ := inv_load hxs
          have hap2 := hlx q hq
          unfold Apart at hap2
          rw [hxop] at hap2
          obtain ⟨b1, o1, e1, e3⟩ := hap2
          rw [hxp] at e1; cases e1
          have hyp' : fr q = .loc b' off' := hyp
          have e3 := e3 _ _ hyp'
          have hfy : framedB live y = false := by
            cases hf : framedB live y with
            | false => rfl
            | true => obtain ⟨_, _, _, h7, _⟩ := framedB_spec hf; rw [hyop] at h7; cases h7
          rw [hpf, hxe, hye] at h' ⊢
          rw [hfy] at h' ⊢
          exact opW_swap_ls (p' := pd true live y) (Y := fun v u R2 => RW P live ops Φ l (putO (putO fr x.dst v) y.dst u) R2) e3 h'
      · rename_i c hyop
        simp only [Bool.and_eq_true] at hk
        have hfy := hk.1.1
        obtain ⟨c', g, h8, h9⟩ := framed_sOp (P := P) (fr := fr) hfy
        rw [hyop] at h8; cases h8
        have hye : opE P live ops fr y = .call g (c.args.toList.map (ev fr)) := by
          unfold opE; rw [(framedB_spec hfy).1]; exact h9
        obtain ⟨hpf, b, off, sh, hxe⟩ := hld
        rw [hye] at h' ⊢
        rw [hpf, hxe] at h'
        rw [hpf, hxe]
        refine opX_swap_lc (Y := fun v u R2 => RW P live ops Φ l (putO (putO fr x.dst v) y.dst u) R2) hfy ?_ h'
        rintro ⟨q, hqm, off', hq'⟩
        have hq : q ∈ latesOf live x := by simpa using List.all_eq_true.1 hk.2 q hqm
        have hxg : x.guard = none := by
          cases hg : x.guard with
          | none => rfl
          | some r => rw [lates_guard hg] at hq; cases hq
        have hxs : sOp P live fr x = .load b off sh := by
          unfold opE at hxe; rw [hxg] at hxe; exact hxe
        obtain ⟨t', x', hxop, _, hxp⟩ := inv_load hxs
        have hap2 := hlx q hq
        unfold Apart at hap2
        rw [hxop] at hap2
        obtain ⟨b1, o1, e1, e3⟩ := hap2
        rw [hxp] at e1; cases e1
        exact e3 _ _ hq' rfl
      · cases hk
def passes (P : Program) (live : List Nat) (ops : Array Oper) (ms : List Nat) (j i : Nat) : Bool :=
  (ms.getD i 0).testBit j || match ops[j]?, ops[i]? with
    | some x, some y => swapB P live ops x y
    | _, _ => false
theorem RW_front {Φ : Fr → List Res → Prop} (hΦ : ∀ fr R R', R.Perm R' → Φ fr R → Φ fr R') {i : Nat} {l2 : List Nat} : ∀ (l1 : List Nat) (fr : Fr) (R : List Res), (∀ j ∈ l1, ∃ x y, ops[j]? = some x ∧ ops[i]? = some y ∧ swapB P live ops x y = true) → RW P live ops Φ (l1 ++ i :: l2) fr R → RW P live ops Φ (i :: (l1 ++ l2)) fr R
  | [], _, _, _, h => h
  | j :: l1, fr, R, hs, h => by
    obtain ⟨x, y, hx, hy, hsw⟩ := hs j (by simp)
    refine RW_swap hΦ hx hy hsw ?_
    simp only [List.cons_append, RW, hx] at h ⊢
    exact ⟨h.1, opX_mono (fun v R' h2 => RW_front hΦ l1 _ R' (fun k hk => hs k (by simp [hk])) h2) h.2⟩
def maskB (ops : Array Oper) (ms : List Nat) : Bool :=
  (List.range ops.size).all fun i => match ops[i]? with
    | none => false
    | some o => (o.after.toList.all fun e => !Region.binds .any e || Nat.blt e.on i) &&
      (List.range ops.size).all fun j => !(ms.getD i 0).testBit j || o.after.toList.any fun e => Region.binds .any e && (Nat.beq e.on j || (ms.getD e.on 0).testBit j)
def pairsB (P : Program) (live : List Nat) (ops : Array Oper) (ms : List Nat) : List Nat → Bool
  | [] => true
  | j :: l => l.all (passes P live ops ms j) && pairsB P live ops ms l
def nodupB : List Nat → Bool
  | [] => true
  | j :: l => !(l.contains j) && nodupB l
def drawB (P : Program) (live : List Nat) (ops : Array Oper) (ord : List Nat) (ms : List Nat) : Bool :=
  Nat.beq ord.length ops.size && nodupB ord && ord.all (Nat.blt · ops.size) && (List.range ops.size).all (fun i => ord.contains i) && maskB ops ms && pairsB P live ops ms ord
theorem mask_listed {ms : List Nat} {listed : Array Bool} (hm : maskB ops ms = true) (hc : ∀ i o, ops[i]? = some o → listed.getD i false = true → ∀ e ∈ o.after, Region.binds .any e = true → listed.getD e.on false = true) :
    ∀ (i : Nat) (o : Oper), ops[i]? = some o → (∀ e ∈ o.after, Region.binds .any e = true → listed.getD e.on false = true) → ∀ j, j < ops.size → (ms.getD i 0).testBit j = true → listed.getD j false = true := by
  intro i
  induction i using Nat.strongRecOn with
  | _ i ih =>
    intro o ho hl j hj hb
    have hlt := (Array.getElem?_eq_some_iff.1 ho).1
    have h1 := List.all_eq_true.1 hm i (List.mem_range.2 hlt)
    simp only [ho, Bool.and_eq_true, List.all_eq_true] at h1
    have h2 := h1.2 j (List.mem_range.2 hj)
    rw [hb] at h2
    simp only [Bool.not_true, Bool.false_or, List.any_eq_true, Bool.and_eq_true, Bool.or_eq_true] at h2
    obtain ⟨e, he, hbind, h3⟩ := h2
    have he' := Array.mem_def.2 he
    have hon := hl e he' hbind
    rcases h3 with h3 | h3
    · rw [← Nat.eq_of_beq_eq_true h3]; exact hon
    · have h4 := h1.1 e he
      rw [hbind] at h4
      have h5 : e.on < i := by simpa using h4
      have h6 : ops[e.on]? = some ops[e.on] := Array.getElem?_eq_getElem (by omega)
      exact ih e.on h5 _ h6 (hc _ _ h6 hon) j hj h3
theorem pairs_front {ms : List Nat} {i : Nat} {l2 : List Nat} : ∀ {l1 : List Nat}, pairsB P live ops ms (l1 ++ i :: l2) = true → (∀ j ∈ l1, passes P live ops ms j i = true) ∧ pairsB P live ops ms (l1 ++ l2) = true
  | [], h => by
    simp only [List.nil_append, pairsB, Bool.and_eq_true] at h
    exact ⟨by simp, h.2⟩
  | j :: l1, h => by
    simp only [List.cons_append, pairsB, Bool.and_eq_true, List.all_eq_true] at h ⊢
    obtain ⟨h1, h2⟩ := pairs_front h.2
    refine ⟨fun k hk => ?_, fun k hk => h.1 k ?_, h2⟩
    · rcases List.mem_cons.1 hk with rfl | hk
      · exact h.1 i (by simp)
      · exact h1 k hk
    · simp only [List.mem_append, List.mem_cons] at hk ⊢
      rcases hk with hk | hk
      · exact .inl hk
      · exact .inr (.inr hk)
variable {N n0 : Nat} {Q : Exit → Fr → List Res → Prop} {g0 : Gh} {w0 : World} {R0 : List Res}
theorem any_sound {r : Option Nat} {ms : List Nat} {Qp : Exit → Act → World → Prop} (hN : ∀ o ∈ ops.toList, ∀ k, o.dst = some k → k < N) (hm : maskB ops ms = true) {Φ : Fr → List Res → Prop} (hΦ : ∀ fr R R', R.Perm R' → Φ fr R → Φ fr R')
    (hend : ∀ (fr : Fr) (R : List Res) (g : Gh) (w : World) (a : Act), Φ fr R → After g0 w0 R0 g w R → St N n0 g w R fr a → Qp .normal a w) :
    ∀ (fuel : Nat) (listed : Array Bool) (rem : List Nat) (fr : Fr) (R : List Res) (g : Gh) (w : World) (a : Act), listed.size = ops.size → rem.Nodup → (∀ i, listed.getD i true = false ↔ i ∈ rem) →
      (∀ i o, ops[i]? = some o → listed.getD i false = true → ∀ e ∈ o.after, Region.binds .any e = true → listed.getD e.on false = true) → pairsB P live ops ms rem = true → rem.length ≤ fuel →
      After g0 w0 R0 g w R → St N n0 g w R fr a → RW P live ops Φ rem fr R → wpAnyIn (Fw r) 0 P .any ops Qp fuel listed a w := by
  intro fuel
  have none_ready : ∀ (listed : Array Bool) (rem : List Nat), listed.size = ops.size → (∀ i, listed.getD i true = false ↔ i ∈ rem) → Region.ready .any ops listed = [] → rem = [] := by
    intro listed rem hsz hmem hr
    refine Classical.byContradiction fun hne => ?_
    have hex : ∃ i, listed.getD i true = false := by
      cases rem with
      | nil => exact absurd rfl hne
      | cons i l => exact ⟨i, (hmem i).2 (by simp)⟩
    obtain ⟨i0, hi0⟩ := hex
    obtain ⟨i, hi, hleast⟩ : ∃ m, listed.getD m true = false ∧ ∀ k, k < m → ¬ listed.getD k true = false := by
      clear hr hmem hne
      induction i0 using Nat.strongRecOn with
      | _ n ih =>
        by_cases hx : ∃ k, k < n ∧ listed.getD k true = false
        · obtain ⟨k, hk, hp⟩ := hx; exact ih k hk hp
        · exact ⟨n, hi0, fun k hk hp => hx ⟨k, hk, hp⟩⟩
    have hlt : i < ops.size := by
      refine Classical.byContradiction fun hge => ?_
      rw [Array.getD_eq_getD_getElem?, Array.getElem?_eq_none (by omega)] at hi
      simp at hi
    have ho : ops[i]? = some ops[i] := Array.getElem?_eq_getElem hlt
    have h1 := List.all_eq_true.1 hm i (List.mem_range.2 hlt)
    simp only [ho, Bool.and_eq_true, List.all_eq_true] at h1
    have : i ∈ Region.ready .any ops listed := mem_ready.2 ⟨hi, _, ho, fun e he hb => by
      have h2 := h1.1 e (Array.mem_def.1 he)
      rw [hb] at h2
      have h3 : e.on < i := by simpa using h2
      have h4 := hleast e.on h3
      have h5 : e.on < listed.size := by omega
      rw [Array.getD_eq_getD_getElem?, Array.getElem?_eq_getElem h5] at h4 ⊢
      simpa using h4⟩
    rw [hr] at this
    cases this
  induction fuel with
  | zero =>
    intro listed rem fr R g w a hsz hnd hmem hcl hp hlen hA hs h
    have hrem : rem = [] := List.eq_nil_of_length_eq_zero (by omega)
    subst hrem
    refine ⟨?_, hend fr R g w a h hA hs⟩
    refine List.eq_nil_iff_forall_not_mem.2 fun i hi => ?_
    have := (hmem i).1 (mem_ready.1 hi).1
    cases this
  | succ fuel ih =>
    intro listed rem fr R g w a hsz hnd hmem hcl hp hlen hA hs h
    refine ⟨fun hr => ?_, fun i hi => ?_⟩
    · have hrem := none_ready listed rem hsz hmem hr
      subst hrem
      exact hend fr R g w a h hA hs
    · obtain ⟨h0, o, ho, hall⟩ := mem_ready.1 hi
      have him := (hmem i).1 h0
      obtain ⟨l1, l2, rfl⟩ := List.append_of_mem him
      obtain ⟨hpass, hp'⟩ := pairs_front hp
      have hilt := (Array.getElem?_eq_some_iff.1 ho).1
      have hsw : ∀ j ∈ l1, ∃ x y, ops[j]? = some x ∧ ops[i]? = some y ∧ swapB P live ops x y = true := by
        intro j hj
        have hjl : listed.getD j true = false := (hmem j).2 (by simp [hj])
        have hjlt : j < ops.size := by
          refine Classical.byContradiction fun hge => ?_
          rw [Array.getD_eq_getD_getElem?, Array.getElem?_eq_none (by omega)] at hjl
          simp at hjl
        have h1 := hpass j hj
        simp only [passes, Bool.or_eq_true] at h1
        rcases h1 with h1 | h1
        · have h2 := mask_listed hm hcl i o ho hall j hjlt h1
          have h5 : j < listed.size := by omega
          rw [Array.getD_eq_getD_getElem?, Array.getElem?_eq_getElem h5] at h2 hjl
          simp at h2 hjl
          rw [h2] at hjl; cases hjl
        · have hx : ops[j]? = some ops[j] := Array.getElem?_eq_getElem hjlt
          rw [hx, ho] at h1
          exact ⟨_, _, hx, ho, h1⟩
      have h1 := RW_front hΦ l1 fr R hsw h
      simp only [RW, ho] at h1
      replace h1 := opX_opW h1.2
      simp only [wpOpIn, ho]
      have hd := hN o (Array.mem_toList_iff.2 (Array.mem_of_getElem? ho))
      have hnd' : (l1 ++ l2).Nodup ∧ i ∉ l1 ++ l2 := by
        have := List.nodup_append.1 hnd
        obtain ⟨a1, a2, a3⟩ := this
        have a4 := List.nodup_cons.1 a2
        refine ⟨List.nodup_append.2 ⟨a1, a4.2, fun x hx y hy => a3 x hx y (by simp [hy])⟩, fun hm => ?_⟩
        rcases List.mem_append.1 hm with hm | hm
        · exact a3 i hm i (by simp) rfl
        · exact a4.1 hm
      -- what holds behind this operation
      have next : ∀ (fr' : Fr) (R' : List Res) (g' : Gh) (w' : World) (a' : Act), After g w R g' w' R' → St N n0 g' w' R' fr' a' → RW P live ops Φ (l1 ++ l2) fr' R' → wpAnyIn (Fw r) 0 P .any ops Qp fuel (listed.setIfInBounds i true) a' w' := by
        intro fr' R' g' w' a' hA' hs' h'
        refine ih (listed.setIfInBounds i true) (l1 ++ l2) fr' R' g' w' a' (by simpa using hsz) hnd'.1 (fun k => ?_) (fun k ok hk hkl e he hb => ?_) hp' (by simp at hlen ⊢; omega) (hA.trans hA') hs' h'
        · by_cases hki : k = i
          · subst hki
            have : (listed.setIfInBounds k true).getD k true = true := by simp [show k < listed.size by omega]
            rw [this]
            exact ⟨fun h => (by cases h), fun h => absurd h hnd'.2⟩
          · rw [getD_set_ne true (Ne.symm hki), hmem]
            simp only [List.mem_append, List.mem_cons]
            constructor
            · rintro (h | h | h)
              · exact .inl h
              · exact absurd h hki
              · exact .inr h
            · rintro (h | h)
              · exact .inl h
              · exact .inr (.inr h)
        · by_cases hki : k = i
          · subst hki
            rw [ho] at hk; cases hk
            exact getD_set_true (hall e he hb)
          · rw [getD_set_ne false (Ne.symm hki)] at hkl
            exact getD_set_true (hcl k ok hk hkl e he hb)
      unfold opE at h1
      have run : opW P (pd true live o) (sOp P live fr o) R (fun v R' => RW P live ops Φ (l1 ++ l2) (putO fr o.dst v) R') → o.wpIn (Fw r) 0 P a w (wpAnyIn (Fw r) 0 P .any ops Qp fuel (listed.setIfInBounds i true)) Qp := by
        intro h2
        refine op_step (p := pd true live o) (k := fun fr' => .leaf .normal fr') (Q := fun _ fr' R' => RW P live ops Φ (l1 ++ l2) fr' R') hs hd (finish_wp.2 h2) r ?_
        rintro a' w' ⟨g', fr', R', hk, hA', hf, hmk⟩
        exact next fr' R' g' w' a' hA' ⟨hA'.ext.wf, hf, hA'.res, hmk⟩ hk
      cases hg : o.guard with
      | none =>
        rw [hg] at h1
        rw [if_pos (by simp [Region.wanted, hg])]
        exact run h1
      | some q =>
        obtain ⟨j, want⟩ := q
        rw [hg] at h1
        simp only at h1
        cases hdj : (ops[j]?).bind (·.dst) with
        | none => rw [hdj] at h1; exact h1.elim
        | some d =>
          rw [hdj] at h1
          simp only at h1
          split at h1
          · rename_i b hfd
            have hsl : a.tmps[d]? = some (.bool b) := by
              have := hs.fr.2 d
              rw [hfd] at this
              simp only [RelV] at this
              rw [Array.getD_eq_getD_getElem?] at this
              cases ht : a.tmps[d]? with
              | none => rw [ht] at this; simp [undef] at this
              | some x => rw [ht] at this; simpa using this
            have hw : Region.wanted o (yielded ops a.tmps) = (b == want) := by
              simp [Region.wanted, hg, yielded, hdj, hsl]
            rw [hw]
            cases hbw : (b == want) with
            | true => rw [hbw] at h1; rw [if_pos rfl]; exact run h1
            | false =>
              rw [hbw] at h1
              rw [if_neg (by simp)]
              refine ⟨fun _ _ => trivial, ?_⟩
              exact next _ R g w _ (After.refl hs.wf hs.res) ⟨hs.wf, hs.fr.put hd (relV_uV _ _), hs.res, by rw [put_defers]; exact hs.marks⟩ h1
          · rename_i l hfd
            have hsl : (a.tmps[d]?).getD undef = .tuple l := by
              have := hs.fr.2 d
              rw [hfd] at this
              simp only [RelV] at this
              rw [Array.getD_eq_getD_getElem?] at this
              exact this
            have hw : Region.wanted o (yielded ops a.tmps) = false := by
              cases ht : a.tmps[d]? with
              | none => simp [Region.wanted, hg, yielded, hdj, ht]
              | some x =>
                rw [ht] at hsl
                simp only [Option.getD_some] at hsl
                simp [Region.wanted, hg, yielded, hdj, ht, hsl]
            rw [hw, if_neg (by simp)]
            refine ⟨fun _ _ => trivial, ?_⟩
            exact next _ R g w _ (After.refl hs.wf hs.res) ⟨hs.wf, hs.fr.put hd (relV_uV _ _), hs.res, by rw [put_defers]; exact hs.marks⟩ h1
          · exact h1.elim
theorem drew_after {g : Gh} {w : World} {R : List Res} (hw : Wf g w) (hr : RelR g w R) : After g w R g { w with drawn := w.drawn + 1 } R ∧ Pre g w g { w with drawn := w.drawn + 1 } := by
  have hp : Pre g w g { w with drawn := w.drawn + 1 } := ⟨fun _ => Nat.le_refl _, fun _ _ _ => rfl, Nat.le_refl _, fun _ _ => rfl, fun _ _ _ => rfl⟩
  refine ⟨⟨{ hp with os := rfl, tape := rfl, output := rfl, drawn := fun _ => by first | exact Nat.le_refl _ | exact Nat.le_succ _, size := Nat.le_refl _, frame := fun _ _ _ => rfl, cmeq := fun _ _ _ => rfl, wf := ⟨hw.cm, hw.ex, hp.st hw⟩ }, ⟨fun x hx => ((hr.all x hx).kept hp fun b _ => ⟨rfl, rfl⟩).1, hr.nodup⟩, fun b hb => .inl hb⟩, hp⟩
theorem draw_sound {r : Option Nat} {id : Nat} {ord : List Nat} {ms : List Nat} {g : Gh} {w : World} {R : List Res} {fr : Fr} {a : Act} {Qp : Exit → Act → World → Prop} (hmix : P.follows .mixedOrders = true) (hN : ∀ o ∈ ops.toList, ∀ k, o.dst = some k → k < N) (hok : drawB P live ops ord ms = true)
    (hs : St N n0 g w R fr a) (h : (execOps P live true ops (fun fr' => .leaf .normal fr') (ord.filterMap fun i => ops[i]?) [] fr).wp P R Q)
    (hend : ∀ (fr' : Fr) (R' : List Res) (g' : Gh) (w' : World) (a' : Act), Q .normal fr' R' → After g w R g' w' R' → St N n0 g' w' R' fr' a' → Qp .normal a' w') : (Code.region id ops true).wpIn (Fw r) 0 P Qp a w := by
  simp only [drawB, Bool.and_eq_true] at hok
  obtain ⟨⟨⟨⟨⟨h1, h2⟩, h3⟩, h4⟩, h5⟩, h6⟩ := hok
  have h1 := Nat.eq_of_beq_eq_true h1
  have hlt : ∀ i ∈ ord, i < ops.size := fun i hi => by simpa using List.all_eq_true.1 h3 i hi
  have hnd : ∀ l : List Nat, nodupB l = true → l.Nodup := by
    intro l
    induction l with
    | nil => intro _; exact List.nodup_nil
    | cons j l ih => intro hl; simp only [nodupB, Bool.and_eq_true] at hl; exact List.nodup_cons.2 ⟨by simpa using hl.1, ih hl.2⟩
  obtain ⟨hA, hp⟩ := drew_after hs.wf hs.res
  refine wpIn_region_any hmix ?_
  refine any_sound (g0 := g) (w0 := w) (R0 := R) hN h5 (Φ := fun fr R => ∃ R0, R.Perm R0 ∧ Q .normal fr R0) (fun fr R R' hp ⟨R0, h1, h2⟩ => ⟨R0, hp.symm.trans h1, h2⟩) (fun fr' R' g' w' a' ⟨R0, hp, hq⟩ hA' hs' => hend fr' R0 g' w' a' hq (hA'.perm hp) ⟨hs'.wf, hs'.fr, hs'.res.perm hp, hs'.marks.after ((After.refl hs'.wf hs'.res).perm hp)⟩) ops.size _ ord fr R g _ a (by simp) (hnd ord h2) (fun i => ?_) (fun i o _ hl => ?_) h6 (by omega) hA ⟨⟨hs.wf.cm, hs.wf.ex, hp.st hs.wf⟩, hs.fr.mono hp, hA.res, hs.marks.after hA⟩
    (RW_mono (fun fr R h => ⟨R, List.Perm.refl R, h⟩) ord fr R (execOps_RW (k := fun fr' => .leaf .normal fr') ord [] fr R hlt h))
  · by_cases hi : i < ops.size
    · have : i ∈ ord := by
        have := List.all_eq_true.1 h4 i (List.mem_range.2 hi)
        simpa using this
      simp [hi, this]
    · have : i ∉ ord := fun hm => hi (hlt i hm)
      simp [hi, this]
  · exfalso
    by_cases hi : i < ops.size <;> simp [hi] at hl
end
end Go.Sv
namespace Go.Sv
open Go
section
variable {P : Program} {N n0 : Nat} {Q : Exit → Fr → List Res → Prop} {g : Gh} {w : World} {R : List Res} {fr : Fr}
theorem cell_alloc_other {o : Obj} (h : ∀ c e f, o ≠ .cells c e f) (b i : Nat) : cell (w.alloc o) b i = cell w b i := by
  by_cases hb : b < w.heap.size
  · exact cell_alloc_old hb
  · by_cases he : b = w.heap.size
    · subst he
      have h1 := heap_alloc_new w o
      have h2 : w.heap[w.heap.size]? = none := Array.getElem?_eq_none (Nat.le_refl _)
      unfold cell World.cell?
      simp only [h1, h2]
      cases o <;> first | rfl | exact absurd rfl (h _ _ _)
    · have h1 : (w.alloc o).heap[b]? = none := Array.getElem?_eq_none (by simp; omega)
      have h2 : w.heap[b]? = none := Array.getElem?_eq_none (by omega)
      unfold cell World.cell?
      simp only [h1, h2]
theorem after_alloc_other (hw : Wf g w) (hr : RelR g w R) {o : Obj} (h : ∀ c e f, o ≠ .cells c e f) : After g w R g (w.alloc o) R := by
  have hc := cell_alloc_other (w := w) h
  have hp : Pre g w g (w.alloc o) := ⟨fun _ => Nat.le_refl _, fun b i _ => hc b i, Nat.le_refl _, fun _ _ => rfl, fun b i _ => by rw [hc]⟩
  have hext : Ext [] g w g (w.alloc o) := { hp with os := rfl, tape := rfl, output := rfl, drawn := fun _ => by first | exact Nat.le_refl _ | exact Nat.le_succ _, size := by simp, frame := fun b hb _ => Go.RowKit.Below.heap_alloc w o b hb, cmeq := fun _ _ _ => rfl, wf := ⟨fun b hb => hw.cm b (by simp at hb; omega), fun b i hi => by rw [hc]; exact hw.ex b i hi, hp.st hw⟩ }
  exact after_of_ext hr hext
theorem after_enter {l : Nat} {lp : Loop} (hw : Wf g w) (hr : RelR g w R) (hl : w.heap[l]? = some (.loop lp)) (hn : l ∉ blocks g R) (hf : ∀ t, RelV g w (fr t) (lp.tmps.getD t undef)) : RelR g w (R ++ [.lop l lp fr]) := by
  have hcm : g.cm l = 0 := by
    refine Classical.byContradiction fun h0 => ?_
    have h1 := hw.ex l 0 (by omega)
    unfold cell World.cell? at h1
    simp [hl] at h1
  refine ⟨fun x hx => ?_, ?_⟩
  · rcases List.mem_append.1 hx with hx | hx
    · exact hr.all x hx
    · simp only [List.mem_singleton] at hx; subst hx; exact ⟨hl, hcm, hf⟩
  · rw [blocks_append]
    refine List.nodup_append.2 ⟨hr.nodup, by simp [blocks, Res.blocks], fun b hb c hc e => ?_⟩
    simp [blocks, Res.blocks] at hc
    subst e; subst hc; exact hn hb
theorem after_putLoop {l : Nat} {lp : Loop} {lp' : Loop} (hw : Wf g w) (hr : RelR g w (R ++ [.lop l lp fr])) (ht : lp'.tmps = lp.tmps) : After g w (R ++ [.lop l lp fr]) g (w.putObj l (.loop lp')) (R ++ [.lop l lp' fr]) := by
  obtain ⟨hl, hcm, hf⟩ := hr.all (.lop l lp fr) (by simp)
  have hlt := (Array.getElem?_eq_some_iff.1 hl).1
  have hother : ∀ k, k ≠ l → (w.putObj l (.loop lp')).heap[k]? = w.heap[k]? := fun k hk => World.putObj_heap_other hk
  have hcell : ∀ b o, cell (w.putObj l (.loop lp')) b o = cell w b o := fun b o => by
    by_cases hb : b = l
    · subst hb
      have h1 : (w.putObj b (.loop lp')).heap[b]? = some (.loop lp') := World.putObj_heap_same hlt
      unfold cell World.cell?
      simp only [h1, hl]
    · exact World.cell?_of_block (w := w) (hother b hb)
  have hp : Pre g w g (w.putObj l (.loop lp')) := ⟨fun _ => Nat.le_refl _, fun b o _ => hcell b o, Nat.le_refl _, fun _ _ => rfl, fun b o _ => by rw [hcell]⟩
  have hbl : ∀ lq : Loop, blocks g (R ++ [.lop l lq fr]) = blocks g R ++ [l] := fun lq => by simp [blocks, Res.blocks]
  have hnl : l ∉ blocks g R := fun hm => by
    have := hr.nodup
    rw [hbl, List.nodup_append] at this
    exact this.2.2 l hm l (by simp) rfl
  have hr0 : RelR g w R := hr.sub (List.sublist_append_left _ _)
  refine ⟨{ hp with os := rfl, tape := rfl, output := rfl, drawn := fun _ => by first | exact Nat.le_refl _ | exact Nat.le_succ _, size := by simp, frame := fun b hb hn => hother b (fun e => hn (by rw [hbl, e]; simp)), cmeq := fun _ _ _ => rfl, wf := ⟨fun b hb => hw.cm b (by simpa using hb), fun b o ho => by rw [hcell]; exact hw.ex b o ho, hp.st hw⟩ }, ?_, fun b hb => .inl (by rw [hbl] at hb ⊢; exact hb)⟩
  have hr1 : RelR g (w.putObj l (.loop lp')) R := ⟨fun x hx => ((hr0.all x hx).kept hp fun b hb => ⟨hother b (fun e => hnl (by subst e; exact mem_blocks.2 ⟨x, hx, hb⟩)), rfl⟩).1, hr0.nodup⟩
  exact after_enter ⟨fun b hb => hw.cm b (by simpa using hb), fun b o ho => by rw [hcell]; exact hw.ex b o ho, hp.st hw⟩ hr1 (World.putObj_heap_same hlt) hnl (fun t => by rw [ht]; exact RelV.mono hp _ _ (hf t))
theorem relF_params {ps : List Nat} (hN : ∀ p ∈ ps, p < N) : ∀ {args : List V} {xs : List Value} {fr : Fr} {tmps : Array Value}, args.length = ps.length → RelF N g w fr tmps → RelL g w args xs →
    RelF N g w (putAll fr ps args) ((ps.zip xs).foldl (fun t (p, v) => t.setIfInBounds p v) tmps) := by
  induction ps with
  | nil => intro args xs fr tmps _ hf _; simpa [putAll] using hf
  | cons p ps ih =>
    intro args xs fr tmps hlen hf hx
    cases args with
    | nil => simp at hlen
    | cons v args =>
      simp only [RelL] at hx
      obtain ⟨x, ys, rfl, hv, hvs⟩ := hx
      simp only [putAll, List.zip_cons_cons, List.foldl_cons]
      have := RelF.put (a := { tmps := tmps, defers := [] }) hf (d := some p) (fun k hk => by cases hk; exact hN p (by simp)) hv
      exact ih (fun q hq => hN q (by simp [hq])) (by simpa using hlen) this hvs
structure Rnd (n0 : Nat) (r : Option Nat) (g : Gh) (w : World) (R : List Res) : Prop where
  size : n0 ≤ w.heap.size
  lop : ∀ l, r = some l → (∃ lp, w.heap[l]? = some (.loop lp)) ∧ l ∉ blocks g R
theorem Rnd.after {r : Option Nat} (h : Rnd n0 r g w R) {g' : Gh} {w' : World} {R' : List Res} (ha : After g w R g' w' R') : Rnd n0 r g' w' R' :=
  ⟨Nat.le_trans h.size ha.ext.size, fun l hl => by
    obtain ⟨⟨lp, h1⟩, h2⟩ := h.lop l hl
    have hlt := (Array.getElem?_eq_some_iff.1 h1).1
    refine ⟨⟨lp, by rw [ha.ext.frame l hlt h2]; exact h1⟩, fun hm => ?_⟩
    rcases ha.own l hm with h3 | h3
    · exact h2 h3
    · omega⟩
theorem Rnd.sub {r : Option Nat} (h : Rnd n0 r g w R) {R' : List Res} (hs : R'.Sublist R) : Rnd n0 r g w R' :=
  ⟨h.size, fun l hl => ⟨(h.lop l hl).1, fun hm => (h.lop l hl).2 ((blocks_sub hs).subset hm)⟩⟩
def PostC (N n0 : Nat) (Q : Exit → Fr → List Res → Prop) (g : Gh) (w : World) (R : List Res) : Exit → Act → World → Prop := fun e a' w' =>
  ∃ g' fr' R', Q e fr' R' ∧ After g w R g' w' R' ∧ RelF N g' w' fr' a'.tmps ∧ Marks n0 g' w' R' a'.defers
theorem ycall_round {l : Nat} {lp : Loop} {B : List Res → Prop} {E : Exit → List Res → Prop} {args : List V} {R1 : List Res} (hst : lp.state = .ready) (hpe : lp.pending = none) (hsz : lp.tmps.size = N) (hps : ∀ p ∈ lp.params.toList, p < N)
    (hlen : args.length = lp.params.toList.length)
    (hbody : ∀ (g1 : Gh) (w1 : World) (fr1 : Fr) (a1 : Act), St N 0 g1 w1 R1 fr1 a1 → fr1 = putAll fr lp.params.toList args → Rnd 0 (some l) g1 w1 R1 →
      lp.assign.wpIn (Fw (some l)) 0 P (Exit.then (fun a2 w2 => ∃ g2 fr2 R2, After g1 w1 R1 g2 w2 R2 ∧ RelF N g2 w2 fr2 a2.tmps ∧ Marks 0 g2 w2 R2 a2.defers ∧
        ∀ w3, St N 0 g2 w3 R2 fr2 a2 → Rnd 0 (some l) g2 w3 R2 → lp.body.wpIn (Fw (some l)) 0 P (PostC N 0 (roundEnd B E) g2 w3 R2) a2 w3) fun _ _ _ => False) a1 w1) :
    YCall P l args (R1 ++ [.lop l lp fr]) (yieldPost l lp fr B E) := by
  intro g1 w1 xs hw1 hx hr1
  obtain ⟨hl, hcm, hf⟩ := hr1.all (.lop l lp fr) (by simp)
  have hlt := (Array.getElem?_eq_some_iff.1 hl).1
  have hxl := relL_length hx
  have hy := run_yield (P := P) (args := xs.toArray) hl (by simp at hlen ⊢; omega)
  refine ⟨_, _, _, _, hy, roundIn_of_wpIn trivial ?_⟩
  have hr0 : RelR g1 w1 R1 := hr1.sub (List.sublist_append_left _ _)
  have hnl : l ∉ blocks g1 R1 := fun hm => by
    have := hr1.nodup
    rw [blocks_append, List.nodup_append] at this
    exact this.2.2 l hm l (by simp [blocks, Res.blocks]) rfl
  have hf1 : RelF N g1 w1 (putAll fr lp.params.toList args) ((lp.params.zip xs.toArray).foldl (fun t (p, v) => t.setIfInBounds p v) lp.tmps) := by
    have := relF_params hps hlen (⟨hsz, hf⟩ : RelF N g1 w1 fr lp.tmps) hx
    rw [← Array.foldl_toList]
    simpa using this
  have hrnd : Rnd 0 (some l) g1 w1 R1 := ⟨Nat.zero_le _, fun k hk => by cases hk; exact ⟨⟨lp, hl⟩, hnl⟩⟩
  refine wpIn_mono (hbody g1 w1 _ _ ⟨hw1, hf1, hr0, ⟨⟨[], rfl, List.nodup_nil, by simp⟩⟩⟩ rfl hrnd) ?_
  intro e a2 w2 he
  cases e with
  | normal =>
    obtain ⟨g2, fr2, R2, hA, hf2, hm2, hnext⟩ := he
    have hA1 : After g1 w1 (R1 ++ [.lop l lp fr]) g2 w2 (R2 ++ [.lop l lp fr]) := by simpa using After.frame (A := []) (B := [.lop l lp fr]) (by simpa using hr1) hA
    have hl2 := (hA1.res.all (.lop l lp fr) (by simp)).1
    have hA2 := after_putLoop (lp' := { lp with state := .busy }) hA.ext.wf hA1.res rfl
    refine ⟨_, run_beginRound hl2 hst, ?_⟩
    have hm3 : Marks 0 g2 (w2.putObj l (.loop { lp with state := .busy })) R2 a2.defers := by
      obtain ⟨rs, h1, h2, h3⟩ := hm2.ex
      refine ⟨rs, h1, h2, fun k hk => ?_⟩
      obtain ⟨h4, h5, h6⟩ := h3 k hk
      have hne : l ≠ k := fun e => by subst e; rw [hl2] at h4; cases h4
      exact ⟨(World.putObj_heap_other (Ne.symm hne)).trans h4, h5, h6⟩
    have hres3 := hA2.res
    have hrnd2 := hrnd.after hA
    have hnl2 : l ∉ blocks g2 R2 := (hrnd2.lop l rfl).2
    have hst3 : St N 0 g2 (w2.putObj l (.loop { lp with state := .busy })) R2 fr2 a2 := ⟨hA2.ext.wf, hf2.mono hA2.ext.toPre, hres3.sub (List.sublist_append_left _ _), hm3⟩
    refine wpIn_mono (hnext _ hst3 ⟨Nat.zero_le _, fun k hk => by cases hk; exact ⟨⟨_, (hres3.all (.lop l { lp with state := .busy } fr) (by simp)).1⟩, hnl2⟩⟩) ?_
    rintro e3 a4 w4 ⟨g4, fr4, R4, hq, hA3, hf4, hm4⟩
    have hA4 : After g2 (w2.putObj l (.loop { lp with state := .busy })) (R2 ++ [.lop l { lp with state := .busy } fr]) g4 w4 (R4 ++ [.lop l { lp with state := .busy } fr]) := by
      simpa using After.frame (A := []) (B := [.lop l { lp with state := .busy } fr]) (by simpa using hres3) hA3
    have hl4 := (hA4.res.all (.lop l { lp with state := .busy } fr) (by simp)).1
    have fin : ∀ (jump : Option Code), After g1 w1 (R1 ++ [.lop l lp fr]) g4 (w4.putObj l (.loop { lp with state := if jump.isNone then .ready else .done, pending := jump })) (R4 ++ [.lop l { lp with state := if jump.isNone then .ready else .done, pending := jump } fr]) := fun jump =>
      ((hA1.trans hA2).trans hA4).trans (after_putLoop hA3.ext.wf hA4.res rfl)
    have hready : ({ lp with state := .ready, pending := none } : Loop) = lp := by cases lp; simp_all
    cases e3 with
    | normal =>
      refine ⟨_, _, run_endRound none hl4, true, g4, R4 ++ [.lop l lp fr], rfl, .inl ⟨rfl, R4, rfl, hq⟩, ?_⟩
      have := fin none
      simp only [Option.isNone_none, if_true, hready] at this ⊢
      exact this
    | ret =>
      refine ⟨_, _, run_endRound (some .ret) hl4, false, g4, R4 ++ [.lop l (lp.left .ret) fr], rfl, .inr ⟨rfl, .ret, R4, .inl rfl, rfl, hq⟩, ?_⟩
      exact fin (some .ret)
    | exit id =>
      refine ⟨_, _, run_endRound (some (.exit id)) hl4, false, g4, R4 ++ [.lop l (lp.left (.exit id)) fr], rfl, .inr ⟨rfl, .exit id, R4, .inr ⟨id, rfl⟩, rfl, hq⟩, ?_⟩
      exact fin (some (.exit id))
    | goto t => exact hq.elim
    | panic c => exact hq.elim
    | outgrown => exact hq.elim
  | _ => exact he.elim
end
end Go.Sv
namespace Go.Sv
open Go
section
variable {P : Program} {N n0 : Nat} {Q : Exit → Fr → List Res → Prop} {g g0 : Gh} {w w0 : World} {R R0 : List Res} {fr : Fr} {a : Act} {live : List Nat} {ords : List (Nat × List Nat)}
theorem PostC.from (ha : After g0 w0 R0 g w R) {e : Exit} {a' : Act} {w' : World} (h : PostC N n0 Q g w R e a' w') : PostC N n0 Q g0 w0 R0 e a' w' := by
  obtain ⟨g', fr', R', h1, h2, h3, h4⟩ := h
  exact ⟨g', fr', R', h1, ha.trans h2, h3, h4⟩
theorem St.next (_ : St N n0 g w R fr a) {g' : Gh} {w' : World} {R' : List Res} {fr' : Fr} {a' : Act} (ha : After g w R g' w' R') (hf : RelF N g' w' fr' a'.tmps) (hm : Marks n0 g' w' R' a'.defers) : St N n0 g' w' R' fr' a' :=
  ⟨ha.ext.wf, hf, ha.res, hm⟩
theorem bool_slot {d : Nat} {b : Bool} (hf : RelF N g w fr a.tmps) (h : fr d = .c (.bool b)) : a.tmps[d]? = some (.bool b) := by
  have := hf.2 d
  rw [h] at this
  simp only [RelV] at this
  rw [Array.getD_eq_getD_getElem?] at this
  cases ht : a.tmps[d]? with
  | none => rw [ht] at this; simp [undef] at this
  | some x => rw [ht] at this; simpa using this
theorem RelF.lit {d : Nat} {b : Bool} (hf : RelF N g w fr a.tmps) (h : fr d = .c (.bool b)) : RelF N g w (Sv.put fr d (.c (.bool b))) a.tmps := by
  refine ⟨hf.1, fun t => ?_⟩
  by_cases e : t = d
  · subst e; rw [put_same, ← h]; exact hf.2 t
  · rw [put_other e]; exact hf.2 t
theorem UpdF.go {fr' : Fr} {R' : List Res} (h : UpdF fr R fr' R') (hw : Wf g w) (hf : RelF N g w fr a.tmps) (hr : RelR g w R) : ∃ g', After g w R g' w R' ∧ RelF N g' w fr' a.tmps := by
  obtain ⟨g', h1, h2⟩ := h g w (fun t => a.tmps.getD t undef) hw hf.2 hr
  exact ⟨g', h1, hf.1, h2⟩
theorem RelF.put_none (hf : RelF N g w fr a.tmps) {d : Option Nat} (hd : ∀ k, d = some k → k < N) : RelF N g w (putO fr d uV) (a.put d undef).tmps := hf.put hd (relV_uV _ _)
theorem ops_sound {r : Option Nat} {ops : Array Oper} (hok : ∀ o ∈ ops.toList, ∀ k, o.dst = some k → k < N) : ∀ (l : List Oper) (i : Nat) (known : List (Nat × Bool)) (fr : Fr) (R : List Res) (g : Gh) (w : World) (a : Act),
    ops.toList.drop i = l → After g0 w0 R0 g w R → St N n0 g w R fr a → (execOps P live false ops (fun fr' => .leaf .normal fr') l known fr).wp P R Q →
    wpOpsIn (Fw r) 0 P ops (PostC N n0 Q g0 w0 R0) (List.range' i l.length) a w
  | [], i, known, fr, R, g, w, a, _, ha, hs, h => by
    simp only [execOps] at h
    exact ⟨g, fr, R, h, ha, hs.fr, hs.marks⟩
  | o :: l, i, known, fr, R, g, w, a, hdrop, ha, hs, h => by
    have hi : ops[i]? = some o := by
      have : (ops.toList.drop i)[0]? = some o := by rw [hdrop]; rfl
      simpa using this
    have hrest : ops.toList.drop (i + 1) = l := by
      have : (ops.toList.drop i).drop 1 = l := by rw [hdrop]; rfl
      simpa [List.drop_drop, Nat.add_comm] using this
    have hd := hok o (by
      have : o ∈ ops.toList.drop i := by rw [hdrop]; simp
      exact List.mem_of_mem_drop this)
    simp only [List.length_cons, List.range'_succ, wpOpsIn, hi]
    -- on behind an operation that was carried out
    have go : ∀ (fr1 : Fr) (known1 : List (Nat × Bool)), RelF N g w fr1 a.tmps → (finish (pd false live o) (sOp P live fr1 o) o.dst fr1 fun fr' => execOps P live false ops (fun fr' => .leaf .normal fr') l known1 fr').wp P R Q →
        o.wpIn (Fw r) 0 P a w (wpOpsIn (Fw r) 0 P ops (PostC N n0 Q g0 w0 R0) (List.range' (i + 1) l.length)) (PostC N n0 Q g0 w0 R0) := by
      intro fr1 known1 hf1 h1
      refine op_step ⟨hs.wf, hf1, hs.res, hs.marks⟩ hd h1 r ?_
      rintro a' w' ⟨g', fr', R', hk, hA, hf, hm⟩
      exact ops_sound hok l (i + 1) known1 fr' R' g' w' a' hrest (ha.trans hA) (hs.next hA hf hm) hk
    -- on behind one that was passed over
    have skip : ∀ (fr1 : Fr) (known1 : List (Nat × Bool)), RelF N g w fr1 a.tmps → (execOps P live false ops (fun fr' => .leaf .normal fr') l known1 (putO fr1 o.dst uV)).wp P R Q →
        (∀ f, o.about P w a.eval = some f → (Fw r).fn f) ∧ wpOpsIn (Fw r) 0 P ops (PostC N n0 Q g0 w0 R0) (List.range' (i + 1) l.length) (a.put o.dst undef) w := by
      intro fr1 known1 hf1 h1
      exact ⟨fun _ _ => trivial, ops_sound hok l (i + 1) known1 _ R g w _ hrest ha ⟨hs.wf, hf1.put_none hd, hs.res, by rw [put_defers]; exact hs.marks⟩ h1⟩
    simp only [execOps, late] at h
    cases hg : o.guard with
    | none =>
      rw [hg] at h
      rw [if_pos (by simp [Region.wanted, hg])]
      exact go fr known hs.fr h
    | some q =>
      obtain ⟨j, want⟩ := q
      rw [hg] at h
      simp only at h
      cases hdj : (ops[j]?).bind (·.dst) with
      | none => rw [hdj] at h; exact h.elim
      | some d =>
        rw [hdj] at h
        simp only at h
        -- what the guard says
        have hw : ∀ b, fr d = .c (.bool b) → Region.wanted o (yielded ops a.tmps) = (b == want) := by
          intro b hb
          have := bool_slot hs.fr hb
          simp [Region.wanted, hg, yielded, hdj, this]
        have want2 : want = true ∨ want = false := Bool.eq_false_or_eq_true want
        split at h
        · rename_i hfd
          rcases want2 with rfl | rfl
          · rw [if_pos (by rw [hw _ hfd]; rfl)]; exact go fr known hs.fr h
          · rw [if_neg (by rw [hw _ hfd]; simp)]; exact skip fr known hs.fr h
        · rename_i hfd
          rcases want2 with rfl | rfl
          · rw [if_neg (by rw [hw _ hfd]; simp)]; exact skip fr known hs.fr h
          · rw [if_pos (by rw [hw _ hfd]; rfl)]; exact go fr known hs.fr h
        · rename_i b _ hfd
          have hlit := hs.fr.lit hfd
          have b2 : b = true ∨ b = false := Bool.eq_false_or_eq_true b
          rcases want2 with rfl | rfl
          · rcases b2 with rfl | rfl
            · rw [if_pos (by rw [hw _ hfd]; rfl)]; exact go _ _ hlit (h.1 rfl)
            · rw [if_neg (by rw [hw _ hfd]; simp)]; exact skip _ _ hlit (h.2 rfl)
          · rcases b2 with rfl | rfl
            · rw [if_neg (by rw [hw _ hfd]; simp)]; exact skip _ _ hlit (h.1 rfl)
            · rw [if_pos (by rw [hw _ hfd]; rfl)]; exact go _ _ hlit (h.2 rfl)
        · rename_i hfd
          have hsl := hs.fr.2 d
          rw [hfd] at hsl
          simp only [RelV] at hsl
          rw [Array.getD_eq_getD_getElem?] at hsl
          have hwf : Region.wanted o (yielded ops a.tmps) = false := by
            cases ht : a.tmps[d]? with
            | none => simp [Region.wanted, hg, yielded, hdj, ht]
            | some x =>
              rw [ht] at hsl
              simp only [Option.getD_some] at hsl
              simp [Region.wanted, hg, yielded, hdj, ht, hsl]
          rw [if_neg (by rw [hwf]; simp)]; exact skip fr known hs.fr h
        · exact h.elim
theorem okDst_lt {o : Oper} (h : okDst N o = true) : ∀ k, o.dst = some k → k < N := by
  intro k hk
  unfold okDst at h
  rw [hk] at h
  simpa [Nat.blt_eq] using h
theorem least {p : Nat → Prop} : ∀ n, p n → ∃ m, p m ∧ ∀ k, k < m → ¬ p k := by
  intro n
  induction n using Nat.strongRecOn with
  | _ n ih =>
    intro h
    by_cases hx : ∃ k, k < n ∧ p k
    · obtain ⟨k, hk, hp⟩ := hx; exact ih k hk hp
    · exact ⟨n, h, fun k hk hp => hx ⟨k, hk, hp⟩⟩
theorem wpIn_loopE {F : Fence} {n : Nat} {c : Code} {Qp : Exit → Act → World → Prop} (J : Nat → Act → World → Prop) (n0 : Nat) (h0 : J n0 a w)
    (round : ∀ m a w, J m a w → c.wpIn F n P (Exit.then (fun a' w' => ∃ m', m' < m ∧ J m' a' w') Qp) a w) : (Code.loop c).wpIn F n P Qp a w := by
  classical
  have hl : ∀ a w, (∃ m, J m a w) → ∃ m, J m a w ∧ ∀ k, k < m → ¬ J k a w := fun a w ⟨m, hm⟩ => least (p := fun m => J m a w) m hm
  refine wpIn_loop (fun a' w' => ∃ m, J m a' w') (fun a' w' => if hx : ∃ m, J m a' w' then Classical.choose (hl a' w' hx) else 0) ⟨n0, h0⟩ ?_
  intro a1 w1 hJ
  have hsp := Classical.choose_spec (hl a1 w1 hJ)
  refine wpIn_mono (round _ a1 w1 hsp.1) ?_
  intro e a2 w2 hq
  cases e with
  | normal =>
    obtain ⟨m', hlt, hm'⟩ := hq
    refine ⟨⟨m', hm'⟩, ?_⟩
    simp only [dif_pos hJ, dif_pos (⟨m', hm'⟩ : ∃ m, J m a2 w2)]
    have hsp2 := Classical.choose_spec (hl a2 w2 ⟨m', hm'⟩)
    refine Nat.lt_of_le_of_lt (Nat.le_of_not_lt fun hlt2 => hsp2.2 m' hlt2 hm') hlt
  | _ => exact hq
def ordOf (l : List Nat) (n : Nat) : List Nat :=
  match l with
  | [] => List.range n
  | i :: l => i :: l
def okR (P : Program) (live : List Nat) (l : List Nat) (ops : Array Oper) (draw : Bool) : Bool :=
  match draw with
  | false => true
  | true => drawB P live ops (ordOf l ops.size) (Region.before ops).toList
def okDraw (P : Program) (live : List Nat) (ords : List (Nat × List Nat)) : Code → Bool
  | .region id ops draw => match lookO ords id with
    | none => okR P live [] ops draw
    | some l => okR P live l ops draw
  | .seq a b => okDraw P live ords a && okDraw P live ords b
  | .cond _ a b => okDraw P live ords a && okDraw P live ords b
  | .block _ a => okDraw P live ords a
  | .loop a => okDraw P live ords a
  | .rangeFunc _ _ a b => okDraw P live ords a && okDraw P live ords b
  | _ => true
theorem inOrder_eq (l : List Nat) (ops : Array Oper) : inOrder l ops = (ordOf l ops.size).filterMap fun i => ops[i]? := by
  unfold inOrder ordOf
  cases l with
  | cons i l => rfl
  | nil =>
    simp only
    apply List.ext_getElem?
    intro i
    have : (List.range ops.size).filterMap (fun i => ops[i]?) = ops.toList := by
      have h1 : (List.range ops.size).filterMap (fun i => ops[i]?) = (List.range ops.size).filterMap (fun i => ops.toList[i]?) := by simp
      rw [h1]
      have : ∀ l : List Oper, (List.range l.length).filterMap (fun i => l[i]?) = l := by
        intro l
        induction l with
        | nil => rfl
        | cons x l ih =>
          rw [List.length_cons, List.range_succ_eq_map, List.filterMap_cons, List.filterMap_map]
          have e : ((fun i => (x :: l)[i]?) ∘ Nat.succ) = fun i => l[i]? := by funext i; simp
          rw [e]
          simpa using ih
      simpa using this ops.toList
    rw [this]
theorem region_sound (hmix : P.follows .mixedOrders = true) {id : Nat} {l : List Nat} {ops : Array Oper} {draw : Bool} (hok : ∀ o ∈ ops.toList, ∀ k, o.dst = some k → k < N) (hdr : okR P live l ops draw = true) (hs : St N n0 g w R fr a) (h : (execR P live l ops draw fr).wp P R Q) (r : Option Nat) :
    (Code.region id ops draw).wpIn (Fw r) 0 P (PostC N n0 Q g w R) a w := by
  cases draw with
  | true =>
    simp only [execR, inOrder_eq] at h
    exact draw_sound hmix hok hdr hs h fun fr' R' g' w' a' hq hA hs' => ⟨g', fr', R', hq, hA, hs'.fr, hs'.marks⟩
  | false =>
    simp only [execR] at h
    refine wpIn_region ?_
    have := ops_sound (r := r) hok ops.toList 0 [] fr R g w a (by simp) (After.refl hs.wf hs.res) hs h
    simpa [List.range_eq_range'] using this
theorem exec_sound (hmix : P.follows .mixedOrders = true) : ∀ (c : Code), okCode N c = true → okDraw P live ords c = true → ∀ {n0 : Nat} {Q : Exit → Fr → List Res → Prop} {g : Gh} {w : World} {R : List Res} {fr : Fr} {a : Act}, St N n0 g w R fr a → (exec P live ords c fr).wp P R Q →
    ∀ r, Rnd n0 r g w R → c.wpIn (Fw r) 0 P (PostC N n0 Q g w R) a w
  | .skip, _, _, n0, Q, g, w, R, fr, a, hs, h, r, hrn => wpIn_skip ⟨g, fr, R, h, After.refl hs.wf hs.res, hs.fr, hs.marks⟩
  | .exit id, _, _, n0, Q, g, w, R, fr, a, hs, h, r, hrn => wpIn_exit ⟨g, fr, R, h, After.refl hs.wf hs.res, hs.fr, hs.marks⟩
  | .ret, _, _, n0, Q, g, w, R, fr, a, hs, h, r, hrn => wpIn_ret ⟨g, fr, R, h, After.refl hs.wf hs.res, hs.fr, hs.marks⟩
  | .region id ops draw, hok, hdr, n0, Q, g, w, R, fr, a, hs, h, r, hrn => by
    simp only [okCode, List.all_eq_true] at hok
    simp only [exec] at h
    simp only [okDraw] at hdr
    cases hl : lookO ords id with
    | none =>
      rw [hl] at h hdr
      exact region_sound hmix (fun o ho => okDst_lt (hok o ho)) hdr hs h r
    | some l =>
      rw [hl] at h hdr
      obtain ⟨fr1, R1, h1, h3⟩ := h
      obtain ⟨g1, hA, hf1⟩ := h1.go hs.wf hs.fr hs.res
      exact wpIn_mono (region_sound hmix (fun o ho => okDst_lt (hok o ho)) hdr (hs.next hA hf1 (hs.marks.after hA)) h3 r) fun e a w hp => hp.from hA
  | .seq c d, hok, hdr, n0, Q, g, w, R, fr, a, hs, h, r, hrn => by
    simp only [okCode, okDraw, Bool.and_eq_true] at hok hdr
    simp only [exec] at h
    rw [Tree.wp_bnd] at h
    refine wpIn_seq (wpIn_mono (exec_sound hmix c hok.1 hdr.1 hs h r hrn) ?_)
    rintro e a' w' ⟨g', fr', R', hq, hA, hf, hm⟩
    cases e with
    | normal => exact wpIn_mono (exec_sound hmix d hok.2 hdr.2 (hs.next hA hf hm) hq r (hrn.after hA)) fun e a w hp => hp.from hA
    | _ => exact ⟨g', fr', R', hq, hA, hf, hm⟩
  | .cond x c d, hok, hdr, n0, Q, g, w, R, fr, a, hs, h, r, hrn => by
    simp only [okCode, okDraw, Bool.and_eq_true] at hok hdr
    simp only [exec] at h
    have hv := ev_rel hs.fr x
    split at h
    · rename_i b hx
      rw [hx] at hv
      simp only [RelV] at hv
      cases b with
      | true => exact wpIn_cond hv (exec_sound hmix c hok.1 hdr.1 hs (h.1 rfl) r hrn)
      | false => exact wpIn_cond hv (exec_sound hmix d hok.2 hdr.2 hs (h.2 rfl) r hrn)
    · exact h.elim
  | .block id c, hok, hdr, n0, Q, g, w, R, fr, a, hs, h, r, hrn => by
    simp only [okCode, okDraw] at hok hdr
    simp only [exec] at h
    rw [Tree.wp_bnd] at h
    refine wpIn_block (wpIn_mono (exec_sound hmix c hok hdr hs h r hrn) ?_)
    rintro e a' w' ⟨g', fr', R', hq, hA, hf, hm⟩
    cases e with
    | exit j =>
      simp only [Exit.inBlock]
      cases hj : Nat.beq j id with
      | true =>
        simp only [hj] at hq
        rw [if_pos (Nat.eq_of_beq_eq_true hj)]
        exact ⟨g', fr', R', hq, hA, hf, hm⟩
      | false =>
        simp only [hj] at hq
        rw [if_neg (Nat.ne_of_beq_eq_false hj)]
        exact ⟨g', fr', R', hq, hA, hf, hm⟩
    | _ => exact ⟨g', fr', R', hq, hA, hf, hm⟩
  | .loop c, hok, hdr, n0, Q, g, w, R, fr, a, hs, h, r, hrn => by
    simp only [okCode, okDraw] at hok hdr
    simp only [exec] at h
    obtain ⟨I, ⟨m0, fr1, R1, hupd, hI0⟩, hround⟩ := h
    obtain ⟨g0, hA0, hf0⟩ := hupd.go hs.wf hs.fr hs.res
    -- the head of the loop, somewhere behind (g, w, R)
    let J : Nat → Act → World → Prop := fun n a' w' => ∃ g' fr' R', I n fr' R' ∧ After g w R g' w' R' ∧ RelF N g' w' fr' a'.tmps ∧ Marks n0 g' w' R' a'.defers
    have h0 : J m0 a w := ⟨g0, fr1, R1, hI0, hA0, hf0, hs.marks.after hA0⟩
    refine wpIn_loopE J m0 h0 ?_
    intro n a1 w1 hJ
    obtain ⟨g', fr', R', hI, hA, hf, hm⟩ := hJ
    refine wpIn_mono (exec_sound hmix c hok hdr (hs.next hA hf hm) (hround n fr' R' hI) r (hrn.after hA)) ?_
    rintro e a2 w2 ⟨g2, fr2, R2, hq, hA2, hf2, hm2⟩
    cases e with
    | normal =>
      obtain ⟨n', fr3, R3, hlt, hupd3, hI3⟩ := hq
      obtain ⟨g3, hA3, hf3⟩ := hupd3.go hA2.ext.wf hf2 hA2.res
      exact ⟨n', hlt, g3, fr3, R3, hI3, (hA.trans hA2).trans hA3, hf3, hm2.after hA3⟩
    | _ => exact ⟨g2, fr2, R2, hq, hA.trans hA2, hf2, hm2⟩
  | .rangeFunc x ps c d, hok, hdr, n0, Q, g, w, R, fr, a, hs, h, r, hrn => by
    simp only [okCode, okDraw, Bool.and_eq_true, List.all_eq_true] at hok hdr
    simp only [exec] at h
    obtain ⟨gf, first, caps, hx, hfn, h⟩ := h
    have hv := ev_rel hs.fr x
    rw [hx] at hv
    simp only [RelV] at hv
    obtain ⟨fa, ca, he, hfi, hca⟩ := hv
    refine wpIn_rangeFunc fun fn _ => ?_
    -- the record, wherever the rounds' deferred calls go
    have body : ∀ (D : Nat) (mark : List Deferred) (W1 : World) (l : Nat), (Instr.enterLoop fn a.tmps ps c d (Fw r).round).run P w = .ok (l, mark) W1 →
        After g w R g W1 R → Marks n0 g W1 R (mark ++ a.defers) → W1.heap[l]? = some (.loop { state := .ready, pending := none, fn, tmps := a.tmps, params := ps, assign := c, body := d, defers := D }) → w.heap.size ≤ l →
        ∃ (l : Nat) (mark : List Deferred) (w₁ : World) (d_1 : Deferred) (w₁' : World) (f : FuncId) (args : Array Value) (w₂ : World),
          (Instr.enterLoop fn a.tmps ps c d (Fw r).round).run P w = .ok (l, mark) w₁ ∧ (resolve a.eval (rangeCall x l) 0).run P w₁ = .ok d_1 w₁' ∧ (∀ f', Target.leads P w₁' d_1.target d_1.args = some f' → (Fw r).fn f') ∧
            (invoke d_1.target d_1.args).run P w₁' = .ok (.enter f args) w₂ ∧ ((Fw r).depth.isSome = true → 1 ≤ 0) ∧ CallsIn (Fw r) (0 - 1) P f args w₂ (rangePost (Fw r) 0 P l (PostC N n0 Q g w R) { a with defers := mark ++ a.defers }) := by
      intro D mark W1 l hent hA1 hm1 hl1 hle
      obtain ⟨lp, hlp⟩ : ∃ lp, lp = ({ state := .ready, pending := none, fn, tmps := a.tmps, params := ps, assign := c, body := d, defers := D } : Loop) := ⟨_, rfl⟩
      rw [← hlp] at hl1
      have hnl : l ∉ blocks g R := fun hm => by
        obtain ⟨y, hy, hb⟩ := mem_blocks.1 hm
        have := (hs.res.all y hy).blocks_lt hb
        omega
      have hf1 := hs.fr.mono hA1.ext.toPre
      have hres1 : RelR g W1 (R ++ [.lop l lp fr]) := after_enter hA1.ext.wf hA1.res hl1 hnl (fun t => by rw [hlp]; exact hf1.2 t)
      have hY : ∀ (args : List V) (R1 : List Res) (B : List Res → Prop) (E : Exit → List Res → Prop), args.length = ps.toList.length →
          ((exec P live ords c (putAll fr ps.toList args)).bnd fun e fr2 => match e with
            | .normal => exec P live ords d fr2
            | _ => .bad).wp P R1 (roundEnd B E) → YCall P l args (R1 ++ [.lop l lp fr]) (yieldPost l lp fr B E) := by
        intro args R1 B E hlen hb
        rw [Tree.wp_bnd] at hb
        refine ycall_round (N := N) (by rw [hlp]) (by rw [hlp]) (by rw [hlp]; exact hs.fr.1) (fun p hp => ?_) (by rw [hlp]; exact hlen) ?_
        · rw [hlp] at hp
          have := hok.1.1 p hp
          simpa [Nat.blt_eq] using this
        · intro g1 w1 fr1 a1 hs1 hfr1 hrn1
          rw [hlp] at hfr1 ⊢
          simp only at hfr1 ⊢
          rw [← hfr1] at hb
          refine wpIn_mono (exec_sound hmix c hok.1.2 hdr.1 hs1 hb (some l) hrn1) ?_
          rintro e a2 w2 ⟨g2, fr2, R2, hq, hA2, hf2, hm2⟩
          cases e with
          | normal => exact ⟨g2, fr2, R2, hA2, hf2, hm2, fun w3 hs3 hrn3 => exec_sound hmix d hok.2 hdr.2 hs3 hq (some l) hrn3⟩
          | _ => exact hq.elim
      have hcall := h l lp hY g W1 (fa.toList ++ [Value.func (.yield l) #[] #[]] ++ ca.toList) hA1.ext.wf (relL_append (relL_append hfi (by
        simp only [RelL]
        exact ⟨_, [], rfl, by simp only [RelV, RelL]; exact ⟨#[], #[], rfl, rfl, rfl⟩, rfl⟩)) hca |> fun hh => RelL.mono hA1.ext.toPre _ _ hh) hres1
      obtain ⟨gfn, gc, hgf, hgb, hgn⟩ := hfn
      have hrun : ∀ W : World, (callFunc gf (fa.toList ++ [Value.func (.yield l) #[] #[]] ++ ca.toList).toArray).run P W = .ok (.enter gf (fa.toList ++ [Value.func (.yield l) #[] #[]] ++ ca.toList).toArray) W := by
        intro W
        have hn' : ¬ gfn.name = "runtime.NumGoroutine" := by simpa using hgn
        simp [callFunc, hgf, hgb, hn']
      have hci : CallsIn Fence.wide 0 P gf (fa.toList ++ [Value.func (.yield l) #[] #[]] ++ ca.toList).toArray W1 fun e w'' => ∃ y, e = .returned y ∧ ∃ v g' R', ((∃ R1, R' = R1 ++ [.lop l lp fr] ∧ Q .normal fr R1) ∨ (∃ e R1, (e = .ret ∨ ∃ id, e = .exit id) ∧ R' = R1 ++ [.lop l (lp.left e) fr] ∧ Q e fr R1)) ∧
          After g W1 (R ++ [.lop l lp fr]) g' w'' R' ∧ RelV g' w'' v y := by
        rcases hcall with ⟨y, w', h1, _⟩ | ⟨f, args, w', h1, h2⟩ | ⟨row, args, w', h1, _⟩
        · rw [hrun] at h1; cases h1
        · rw [hrun] at h1; cases h1; exact h2
        · rw [hrun] at h1; cases h1
      have hargs : (fa ++ #[Value.func (.yield l) #[] #[]] ++ ca) = (fa.toList ++ [Value.func (.yield l) #[] #[]] ++ ca.toList).toArray := by apply Array.ext'; simp
      refine ⟨l, mark, W1, { target := .fn (.func gf) ca, args := fa ++ #[Value.func (.yield l) #[] #[]] }, W1, gf, (fa.toList ++ [Value.func (.yield l) #[] #[]] ++ ca.toList).toArray, W1, hent, ?_, fun _ _ => trivial, ?_, room_Fw r, ?_⟩
      · simp [resolve, he, Deferred.ofValue]
        rfl
      · simp only [invoke, hargs]; exact hrun W1
      · refine CallsIn.mono (show CallsIn (Fw r) 0 P gf _ W1 _ from hci) ?_
        rintro e w2 ⟨y, rfl, v, g2, R2, hK, hA2, _⟩
        have fin : ∀ (e : Exit) (R1 : List Res) (lq : Loop), R2 = R1 ++ [.lop l lq fr] → lq.state ≠ .busy → Q e fr R1 →
            ∃ w4, (Instr.endLoop l).run P w2 = .ok lq.pending w4 ∧ PostC N n0 Q g w R e { a with defers := mark ++ a.defers } w4 := by
          intro e R1 lq hR2 hnb hq
          subst hR2
          have hl2 := (hA2.res.all (.lop l lq fr) (by simp)).1
          refine ⟨_, run_endLoop hl2 hnb, ?_⟩
          have hA3 := (after_putLoop (lp' := { lq with state := .exhausted }) hA2.ext.wf hA2.res rfl).sub (List.sublist_append_left R1 _)
          have hA4 := hA2.trans hA3
          have hbl : blocks g (R ++ [.lop l lp fr]) = blocks g R ++ [l] := by simp [blocks, Res.blocks]
          have hA5 : After g w R g2 (w2.putObj l (.loop { lq with state := .exhausted })) R1 := by
            refine ⟨hA1.ext.trans hA4.ext fun b hb => ?_, hA4.res, fun b hb => ?_⟩
            · rw [hbl] at hb
              rcases List.mem_append.1 hb with hb | hb
              · exact .inl hb
              · simp at hb; subst hb; exact .inr hle
            · rcases hA4.own b hb with h1 | h1
              · rw [hbl] at h1
                rcases List.mem_append.1 h1 with h1 | h1
                · exact .inl h1
                · simp at h1; subst h1; exact .inr hle
              · exact .inr (Nat.le_trans hA1.ext.size h1)
          refine ⟨g2, fr, R1, hq, hA5, hs.fr.mono hA5.ext.toPre, ?_⟩
          have hm2 : Marks n0 g W1 (R ++ [.lop l lp fr]) (mark ++ a.defers) := by
            obtain ⟨rs, h1, h2, h3⟩ := hm1.ex
            refine ⟨rs, h1, h2, fun k hk => ?_⟩
            obtain ⟨h4, h5, h6⟩ := h3 k hk
            refine ⟨h4, fun hm => ?_, h6⟩
            rw [hbl] at hm
            rcases List.mem_append.1 hm with hm | hm
            · exact h5 hm
            · simp at hm; subst hm; rw [hl1] at h4; cases h4
          exact hm2.after hA4
        rcases hK with ⟨R1, hR, hq⟩ | ⟨e, R1, hee, hR, hq⟩
        · obtain ⟨w4, h1, h2⟩ := fin .normal R1 lp hR (by rw [hlp]; simp) hq
          refine ⟨none, w4, by rw [h1, hlp], h2⟩
        · obtain ⟨w4, h1, h2⟩ := fin e R1 (lp.left e) hR (by simp [Loop.left]) hq
          refine ⟨some (jumpOf e), w4, by rw [h1]; rfl, ?_⟩
          rcases hee with rfl | ⟨id, rfl⟩
          · exact wpIn_ret h2
          · exact wpIn_exit h2
    cases r with
    | none =>
      have hA1 := after_alloc_other hs.wf hs.res (o := .deferred (some [])) (by intro _ _ _ h; cases h)
      have hA2 := after_alloc_other hA1.ext.wf hA1.res (o := .loop { state := .ready, pending := none, fn, tmps := a.tmps, params := ps, assign := c, body := d, defers := w.heap.size }) (by intro _ _ _ h; cases h)
      have hA := hA1.trans hA2
      have hD : ((w.alloc (.deferred (some []))).alloc (.loop { state := .ready, pending := none, fn, tmps := a.tmps, params := ps, assign := c, body := d, defers := w.heap.size })).heap[w.heap.size]? = some (.deferred (some [])) :=
        (Go.RowKit.Below.heap_alloc _ _ _ (by simp)).trans (heap_alloc_new w _)
      refine body w.heap.size _ _ _ (run_enterLoop_outer _ _ _ _ _) hA ?_ (by have := heap_alloc_new (w.alloc (.deferred (some []))) (.loop { state := .ready, pending := none, fn, tmps := a.tmps, params := ps, assign := c, body := d, defers := w.heap.size }); rwa [World.size_alloc] at this) (by omega)
      obtain ⟨rs, h1, h2, h3⟩ := (hs.marks.after hA).ex
      have hrs : ∀ k ∈ rs, k < w.heap.size := by
        intro k hk
        obtain ⟨rs', h1', h2', h3'⟩ := hs.marks.ex
        have : rs = rs' := by
          have e : rs.map (fun r => ({ target := .collected r, args := #[] } : Deferred)) = rs'.map (fun r => ({ target := .collected r, args := #[] } : Deferred)) := h1.symm.trans h1'
          refine List.map_inj_right (fun x y h => ?_) |>.1 e
          simpa using h
        subst this
        exact (Array.getElem?_eq_some_iff.1 (h3' k hk).1).1
      refine ⟨w.heap.size :: rs, by simp [h1], List.nodup_cons.2 ⟨fun hm => Nat.lt_irrefl _ (hrs _ hm), h2⟩, fun k hk => ?_⟩
      rcases List.mem_cons.1 hk with rfl | hk
      · refine ⟨hD, fun hm => ?_, hrn.size⟩
        obtain ⟨y, hy, hb⟩ := mem_blocks.1 hm
        have := (hs.res.all y hy).blocks_lt hb
        omega
      · exact h3 k hk
    | some l0 =>
      obtain ⟨⟨r0, hr0⟩, _⟩ := hrn.lop l0 rfl
      have hA := after_alloc_other hs.wf hs.res (o := .loop { state := .ready, pending := none, fn, tmps := a.tmps, params := ps, assign := c, body := d, defers := r0.defers }) (by intro _ _ _ h; cases h)
      exact body r0.defers [] _ _ (run_enterLoop_inner hr0 _ _ _ _ _) hA (hs.marks.after hA) (heap_alloc_new w _) (Nat.le_refl _)
  | .scope _, _, _, _, _, _, _, _, _, _, _, h, _, _ => by simp only [exec] at h; exact h.elim
  | .label _, _, _, _, _, _, _, _, _, _, _, h, _, _ => by simp only [exec] at h; exact h.elim
  | .goto _, _, _, _, _, _, _, _, _, _, _, h, _, _ => by simp only [exec] at h; exact h.elim
  | .refuse _, _, _, _, _, _, _, _, _, _, _, h, _, _ => by simp only [exec] at h; exact h.elim
end
end Go.Sv
namespace Go.Sv
open Go
def ResV (P : Program) (fr : Fr) (R : List Res) : List ResultVar → List V → Prop
  | [], vs => vs = []
  | .tmp t :: rs, vs => ∃ us, vs = fr t :: us ∧ ResV P fr R rs us
  | .cell x ty :: rs, vs => ∃ (b off : Nat) (sh : Option Nat) (i : Nat) (cs : List V) (v : V) (us : List V), fr x = .loc b off ∧ shapeOf P ty = some sh ∧ R[i]? = some (.obj b cs) ∧ partOf sh cs off = some v ∧ vs = v :: us ∧ ResV P fr R rs us
def resOp (tmps : Array Value) : ResultVar → Sem Value
  | .tmp t => pure (tmps.getD t undef)
  | .cell x t => do loadVar t (← asAddr (tmps.getD x undef))
theorem results_eq (fn : Func) (tmps : Array Value) : results fn tmps = (do
    let vs ← fn.results.mapM (resOp tmps)
    pure (if h : vs.size = 1 then vs[0] else .tuple vs)) := by
  unfold results
  congr 2
def oneOr : List V → V
  | [v] => v
  | vs => .tup vs
def frOf (l : List V) : Fr := fun t => l.getD t .undef
def Ends (P : Program) (fn : Func) (K : V → List Res → Prop) : Exit → Fr → List Res → Prop := fun e fr R =>
  (e = .normal ∨ e = .ret) ∧ ∃ vs v R', ResV P fr R fn.results.toList vs ∧ UpdV (oneOr vs) R v R' ∧ K v R'
section
variable {P : Program} {N n0 : Nat} {g g0 : Gh} {w w0 : World} {R R0 : List Res} {fr : Fr} {a : Act}
theorem resV_rel (hf : RelF N g w fr a.tmps) (hr : RelR g w R) : ∀ {rs : List ResultVar} {vs : List V}, ResV P fr R rs vs →
    ∃ xs : List Value, (rs.mapM (resOp a.tmps)).run P w = .ok xs w ∧ RelL g w vs xs
  | [], vs, h => by
    simp only [ResV] at h; subst h
    exact ⟨[], by simp, by simp [RelL]⟩
  | .tmp t :: rs, vs, h => by
    simp only [ResV] at h
    obtain ⟨us, rfl, h⟩ := h
    obtain ⟨xs, h1, h2⟩ := resV_rel hf hr h
    refine ⟨a.tmps.getD t undef :: xs, ?_, by simp only [RelL]; exact ⟨_, _, rfl, hf.2 t, h2⟩⟩
    rw [List.mapM_cons]
    simp only [resOp, Sem.run_bind, Sem.run_pure, Result.andThen_ok, h1]
  | .cell x t :: rs, vs, h => by
    simp only [ResV] at h
    obtain ⟨b, off, sh, i, cs, v, us, hx, hsh, hR, hp, rfl, h⟩ := h
    obtain ⟨xs, h1, h2⟩ := resV_rel hf hr h
    have hv := hf.2 x
    rw [hx] at hv
    simp only [RelV] at hv
    obtain ⟨vals, hl, hc⟩ := obj_cell (hr.all _ (List.mem_of_getElem? hR))
    have hlt := part_lt hp
    have he : RelE g w sh v (fun i => cell w b (off + i)) := relE_congr (relE_part hl hp) fun j hj => hc _ (by omega)
    obtain ⟨y, hy, hrel⟩ := run_loadVar (P := P) hsh he
    refine ⟨y :: xs, ?_, by simp only [RelL]; exact ⟨_, _, rfl, hrel, h2⟩⟩
    rw [List.mapM_cons]
    simp only [resOp, Sem.run_bind, Sem.run_pure, Result.andThen_ok, h1, hv, asAddr, hy]
theorem run_results {fn : Func} {vs : List V} (hf : RelF N g w fr a.tmps) (hr : RelR g w R) (h : ResV P fr R fn.results.toList vs) : ∃ x, (results fn a.tmps).run P w = .ok x w ∧ RelV g w (oneOr vs) x := by
  obtain ⟨xs, h1, h2⟩ := resV_rel hf hr h
  have hlen := relL_length h2
  have hm : (fn.results.mapM (resOp a.tmps)).run P w = .ok xs.toArray w := by
    rw [Array.mapM_eq_mapM_toList]
    simp only [Sem.run_map, h1, Result.andThen_ok]
  match xs, vs, h2, hlen with
  | [], [], h2, _ => exact ⟨.tuple #[], by rw [results_eq]; simp only [Sem.run_bind, hm, Result.andThen_ok]; rfl, by simp only [oneOr, RelV]; exact ⟨_, rfl, h2⟩⟩
  | [x], [v], h2, _ =>
    simp only [RelL] at h2
    obtain ⟨x', ys, he, hv, rfl⟩ := h2
    cases he
    exact ⟨x, by rw [results_eq]; simp only [Sem.run_bind, hm, Result.andThen_ok]; rfl, hv⟩
  | x :: y :: xs, u :: v :: vs, h2, _ => exact ⟨.tuple (x :: y :: xs).toArray, by rw [results_eq]; simp only [Sem.run_bind, hm, Result.andThen_ok]; simp, by simp only [oneOr, RelV]; exact ⟨_, rfl, by simpa using h2⟩⟩
  | [], _ :: _, _, hl => simp at hl
  | _ :: _, [], _, hl => simp at hl
  | [_], _ :: _ :: _, _, hl => simp at hl
  | _ :: _ :: _, [_], _, hl => simp at hl
theorem after_putObj {r : Nat} {ds : Option (List Deferred)} (ha : After g0 w0 R0 g w R) (hh : w.heap[r]? = some (.deferred (some []))) (hn : r ∉ blocks g R) (h0 : w0.heap.size ≤ r) :
    After g0 w0 R0 g { w with heap := w.heap.setIfInBounds r (.deferred ds) } R ∧ Pre g w g { w with heap := w.heap.setIfInBounds r (.deferred ds) } := by
  have hlt := (Array.getElem?_eq_some_iff.1 hh).1
  have hother : ∀ k, k ≠ r → ({ w with heap := w.heap.setIfInBounds r (.deferred ds) } : World).heap[k]? = w.heap[k]? := fun k hk => by
    simp [Array.getElem?_setIfInBounds_ne (fun h => hk h.symm)]
  have hcell : ∀ b o, cell { w with heap := w.heap.setIfInBounds r (.deferred ds) } b o = cell w b o := fun b o => by
    by_cases hb : b = r
    · subst hb
      have h1 : ({ w with heap := w.heap.setIfInBounds b (.deferred ds) } : World).heap[b]? = some (.deferred ds) := by simp [hlt]
      simp only [cell, World.cell?, h1, hh]
    · exact World.cell?_of_block (w := w) (hother b hb)
  have hpre : Pre g w g { w with heap := w.heap.setIfInBounds r (.deferred ds) } := ⟨fun _ => Nat.le_refl _, fun b o _ => hcell b o, Nat.le_refl _, fun _ _ => rfl, fun b o _ => by rw [hcell]⟩
  have hres : ∀ x ∈ R, RelRes g { w with heap := w.heap.setIfInBounds r (.deferred ds) } x := fun x hx =>
    ((ha.res.all x hx).kept hpre fun b hb => ⟨hother b fun h => hn (by subst h; exact mem_blocks.2 ⟨x, hx, hb⟩), rfl⟩).1
  refine ⟨⟨?_, ⟨hres, ha.res.nodup⟩, ha.own⟩, hpre⟩
  exact { ha.ext.toPre.trans hpre with
    os := ha.ext.os, tape := ha.ext.tape, output := ha.ext.output, drawn := ha.ext.drawn
    size := by simpa using ha.ext.size
    frame := fun b hb hnb => (hother b (by omega)).trans (ha.ext.frame b hb hnb)
    cmeq := ha.ext.cmeq
    wf := ⟨fun b hb => ha.ext.wf.cm b (by simpa using hb), fun b o ho => by rw [hcell]; exact ha.ext.wf.ex b o ho, hpre.st ha.ext.wf⟩ }
theorem run_takeDeferred {r : Nat} (hh : w.heap[r]? = some (.deferred (some []))) : (Instr.takeDeferred r).run P w = .ok [] { w with heap := w.heap.setIfInBounds r (.deferred none) } := by
  simp [Instr.takeDeferred, getObj, setObj, Sem.run, hh]
theorem leaves {fn : Func} {tmps : Array Value} {Rp : Ending → World → Prop} : ∀ (ds : List Deferred) {g : Gh} {w : World} {R : List Res}, After g0 w0 R0 g w R → Marks n0 g w R ds → w0.heap.size ≤ n0 →
    (∀ w', After g0 w0 R0 g w' R → Pre g w g w' → ∃ x, (results fn tmps).run P w' = .ok x w' ∧ Rp (.returned x) w') → LeavesInM Fence.wide 0 P fn tmps Rp ds .returning w
  | [], g, w, R, ha, hm, h0, h => h w ha (Pre.refl g w)
  | d :: ds, g, w, R, ha, hm, h0, h => by
    obtain ⟨rs, h1, h2, h3⟩ := hm.ex
    match rs, h1, h2, h3 with
    | [], h1, _, _ => simp at h1
    | r :: rs, h1, h2, h3 =>
      simp only [List.map_cons, List.cons.injEq] at h1
      obtain ⟨rfl, rfl⟩ := h1
      obtain ⟨h4, h5, h6⟩ := h3 r (by simp)
      obtain ⟨ha', hp⟩ := after_putObj (ds := none) ha h4 h5 (by omega)
      refine ⟨by simp, .inl ⟨r, _, rfl, run_takeDeferred h4, ?_⟩⟩
      refine leaves _ ha' ⟨⟨rs, rfl, (List.nodup_cons.1 h2).2, fun k hk => ?_⟩⟩ h0 fun w' hw' hp' => h w' hw' (hp.trans hp')
      obtain ⟨h7, h8, h9⟩ := h3 k (by simp [hk])
      refine ⟨?_, h8, h9⟩
      have hne : r ≠ k := fun e => by subst e; exact (List.nodup_cons.1 h2).1 hk
      simp [Array.getElem?_setIfInBounds_ne hne, h7]
theorem scall_of {f : FuncId} {fn : Func} {c : Code} {live : List Nat} {ords : List (Nat × List Nat)} {args : List V} {K : V → List Res → Prop} (hf : P.funcs[f]? = some fn) (hb : fn.body = some c) (hn : (fn.name == "runtime.NumGoroutine") = false)
    (hok : (okCode fn.ntmps c && okDraw P live ords c && P.follows .mixedOrders) = true) (hlen : args.length ≤ fn.ntmps) (h : (exec P live ords c (frOf args)).wp P R (Ends P fn K)) : SCall P f args R K := by
  intro g w xs hw ha hr
  simp only [Bool.and_eq_true] at hok
  have hxl := relL_length ha
  have hrun : (callFunc f xs.toArray).run P w = .ok (.enter f xs.toArray) w := by
    have hn' : ¬ fn.name = "runtime.NumGoroutine" := by simpa using hn
    simp [callFunc, hf, hb, hn']
  refine .inr (.inl ⟨f, xs.toArray, w, hrun, ?_⟩)
  refine callsIn_of_wp_marks hf hb trivial ?_
  have hs : St fn.ntmps w.heap.size g w R (frOf args) { tmps := xs.toArray ++ Array.replicate (fn.ntmps - xs.toArray.size) undef, defers := [] } := by
    refine ⟨hw, ⟨by simp; omega, fun t => ?_⟩, hr, ⟨⟨[], rfl, List.nodup_nil, by simp⟩⟩⟩
    unfold frOf
    cases hv : args[t]? with
    | none => simp only [List.getD_eq_getElem?_getD, hv, Option.getD_none]; exact relV_undef _ _ _
    | some v =>
      obtain ⟨x, hx, hrel⟩ := relL_get ha hv
      have hlt := (List.getElem?_eq_some_iff.1 hx).1
      simp only [List.getD_eq_getElem?_getD, hv, Option.getD_some]
      rw [Array.getD_eq_getD_getElem?, Array.getElem?_append_left (by simpa using hlt)]
      simp [hx, hrel]
  have hsound := exec_sound hok.2 c hok.1.1 hok.1.2 hs h none ⟨Nat.le_refl _, fun _ h => by cases h⟩
  have hfin : ∀ {e : Exit} {a' : Act} {w' : World}, PostC fn.ntmps w.heap.size (Ends P fn K) g w R e a' w' → (e = .normal ∨ e = .ret) ∧
      LeavesInM Fence.wide 0 P fn a'.tmps (fun e w' => ∃ x, e = .returned x ∧ ∃ v g' R', K v R' ∧ After g w R g' w' R' ∧ RelV g' w' v x) a'.defers .returning w' := by
    rintro e a' w' ⟨g', fr', R', ⟨he, vs, v, R2, hres, hupd, hK⟩, hA, hF, hM⟩
    refine ⟨he, leaves (n0 := w.heap.size) a'.defers hA hM (Nat.le_refl _) fun w2 hA2 hp => ?_⟩
    obtain ⟨x, hx, hv⟩ := run_results (P := P) (fn := fn) (a := a') (hF.mono hp) hA2.res hres
    obtain ⟨g2, hA3, hv2⟩ := hupd g' w2 x hA2.ext.wf hv hA2.res
    exact ⟨x, hx, x, rfl, v, g2, R2, hK, hA2.trans hA3, hv2⟩
  have hsound' : c.wpIn Fence.wide 0 P (PostC fn.ntmps w.heap.size (Ends P fn K) g w R) { tmps := xs.toArray ++ Array.replicate (fn.ntmps - xs.toArray.size) undef, defers := [] } w := hsound
  refine wpIn_mono hsound' ?_
  intro e a' w' hp
  obtain ⟨he, hl⟩ := hfin hp
  rcases he with rfl | rfl
  · exact hl
  · exact hl
end
end Go.Sv
