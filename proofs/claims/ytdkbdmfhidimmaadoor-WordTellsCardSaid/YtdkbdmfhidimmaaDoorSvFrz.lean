/- What was made may stay as it is from some place on: rows whose elements could change are rows that never change again. -/
import Derived.Test.YtdkbdmfhidimmaaDoorSvUse
namespace Go.Sv
open Go

/-- The elements of a row, as its cells say. -/
def Rows (sh : Option Nat) (cs : List V) : Nat → List V → Prop
  | _, [] => True
  | o, x :: xs => (∃ u, partOf sh cs o = some u ∧ Vle u x) ∧ Rows sh cs (o + width sh) xs

mutual
inductive Frz (b : Nat) (cs : List V) : V → V → Prop
  | vle {v v' : V} (h : Vle v v') : Frz b cs v v'
  | row {sh : Option Nat} {o n cap : Nat} {xs : List V} (hn : xs.length = n) (hw : 0 < width sh) (hle : o + n * width sh ≤ cs.length) (h : Rows sh cs o xs) : Frz b cs (.lsl sh b o n cap) (.sl sh xs .no)
  | agg {ds es : List V} (h : FrzL b cs ds es) : Frz b cs (.agg ds) (.agg es)
  | tup {ds es : List V} (h : FrzL b cs ds es) : Frz b cs (.tup ds) (.tup es)
inductive FrzL (b : Nat) (cs : List V) : List V → List V → Prop
  | nil : FrzL b cs [] []
  | cons {v v' : V} {vs vs' : List V} (h : Frz b cs v v') (hs : FrzL b cs vs vs') : FrzL b cs (v :: vs) (v' :: vs')
end
theorem Frz.refl {b : Nat} {cs : List V} (v : V) : Frz b cs v v := .vle (Vle.refl v)
theorem FrzL.refl {b : Nat} {cs : List V} : ∀ vs : List V, FrzL b cs vs vs
  | [] => .nil
  | v :: vs => .cons (Frz.refl v) (FrzL.refl vs)

inductive FrzR (b : Nat) (cs : List V) : List Res → List Res → Prop
  | nil : FrzR b cs [] []
  | keep (x : Res) {l l' : List Res} (h : FrzR b cs l l') : FrzR b cs (x :: l) (x :: l')
  | drop (x : Res) {l l' : List Res} (h : FrzR b cs l l') : FrzR b cs (x :: l) l'
  | obj (c : Nat) {ds es : List V} (hd : FrzL b cs ds es) {l l' : List Res} (h : FrzR b cs l l') : FrzR b cs (.obj c ds :: l) (.obj c es :: l')
theorem FrzR.refl {b : Nat} {cs : List V} : ∀ l : List Res, FrzR b cs l l
  | [] => .nil
  | x :: l => .keep x (FrzR.refl l)

section
variable {g g' : Gh} {w : World} {b : Nat} {cs : List V} {R : List Res}

theorem rows_rel {sh : Option Nat} {vals : List Value} (hl : RelL g w cs vals) : ∀ {xs : List V} {o : Nat}, Rows sh cs o xs → RelXs g w sh xs (fun i => vals[o + i]?)
  | [], _, _ => by simp [RelXs]
  | x :: xs, o, h => by
    obtain ⟨⟨u, hu, hle⟩, h2⟩ := h
    rw [relXs_cons]
    have h1 := relE_part (l := vals.toArray) (by simpa using hl) hu
    refine ⟨RelE.vle hle (relE_congr h1 fun i _ => by simp), ?_⟩
    have := rows_rel (vals := vals) hl h2
    have e : (fun i => vals[o + (i + width sh)]?) = (fun i => vals[o + width sh + i]?) := by
      funext i; congr 1; omega
    rw [e]; exact this

/-- What it takes to turn values. -/
structure Turned (b : Nat) (cs : List V) (g g' : Gh) (w : World) : Prop where
  pre : Pre g w g' w
  cells : cs = [] ∨ ∃ vals : List Value, RelL g w cs vals ∧ (∀ o, cell w b o = vals[o]?) ∧ vals.length ≤ g'.cm b

mutual
theorem Frz.rel (T : Turned b cs g g' w) : ∀ {v v' : V} {x : Value}, Frz b cs v v' → RelV g w v x → RelV g' w v' x
  | _, _, x, .vle h, hx => RelV.mono T.pre _ _ (h _ _ _ hx)
  | _, _, x, .row (sh := sh) (o := o) (n := n) (cap := cap) (xs := xs) hn hw hle h, hx => by
    simp only [RelV] at hx ⊢
    obtain ⟨a, rfl, hc, ha⟩ := hx
    refine ⟨a, n, cap, rfl, hn.symm, hc, trivial, ?_⟩
    by_cases h0 : n = 0
    · left; exact List.eq_nil_of_length_eq_zero (by omega)
    · right
      have hn1 : 0 < n * width sh := Nat.mul_pos (by omega) hw
      rcases T.cells with hcs | ⟨vals, hl, hcell, hcm⟩
      · subst hcs; simp at hle; omega
      · have hlen := relL_length hl
        refine ⟨b, o, ha.resolve_left (by omega), by omega, ?_⟩
        refine RelXs.mono T.pre sh xs _ _ (fun i _ => ?_) (rows_rel hl h)
        exact hcell (o + i)
  | _, _, x, .agg h, hx => by
    simp only [RelV] at hx ⊢
    obtain ⟨l, rfl, h1⟩ := hx
    exact ⟨l, rfl, FrzL.rel T h h1⟩
  | _, _, x, .tup h, hx => by
    simp only [RelV] at hx ⊢
    obtain ⟨l, rfl, h1⟩ := hx
    exact ⟨l, rfl, FrzL.rel T h h1⟩
theorem FrzL.rel (T : Turned b cs g g' w) : ∀ {vs vs' : List V} {xs : List Value}, FrzL b cs vs vs' → RelL g w vs xs → RelL g' w vs' xs
  | _, _, xs, .nil, hx => hx
  | _, _, xs, .cons h hs, hx => by
    simp only [RelL] at hx ⊢
    obtain ⟨x, ys, rfl, h1, h2⟩ := hx
    exact ⟨x, ys, rfl, Frz.rel T h h1, FrzL.rel T hs h2⟩
end

theorem FrzL.length : ∀ {vs vs' : List V}, FrzL b cs vs vs' → vs'.length = vs.length
  | _, _, .nil => rfl
  | _, _, .cons _ hs => by simp [FrzL.length hs]

theorem frzR_rel (T : Turned b cs g g' w) : ∀ {l l' : List Res}, FrzR b cs l l' → (∀ x ∈ l, RelRes g w x) → (∀ c ∈ blocks g l, g'.cm c = g.cm c) → (∀ x ∈ l', RelRes g' w x) ∧ (blocks g' l').Sublist (blocks g l)
  | _, _, .nil, _, _ => ⟨by simp, List.Sublist.refl _⟩
  | _, _, .keep x (l := l) h, hl, hb => by
    obtain ⟨h1, h2⟩ := frzR_rel T h (fun y hy => hl y (by simp [hy])) fun c hc => hb c (by simp only [blocks, List.flatMap_cons, List.mem_append] at hc ⊢; exact .inr hc)
    obtain ⟨h3, h4⟩ := (hl x (by simp)).kept T.pre fun c hc => ⟨rfl, hb c (by simp only [blocks, List.flatMap_cons, List.mem_append]; exact .inl hc)⟩
    refine ⟨fun y hy => ?_, ?_⟩
    · rcases List.mem_cons.1 hy with rfl | hy
      · exact h3
      · exact h1 y hy
    · simp only [blocks, List.flatMap_cons] at h2 ⊢
      rw [h4]; exact (List.Sublist.refl _).append h2
  | _, _, .drop x (l := l) h, hl, hb => by
    obtain ⟨h1, h2⟩ := frzR_rel T h (fun y hy => hl y (by simp [hy])) fun c hc => hb c (by simp only [blocks, List.flatMap_cons, List.mem_append] at hc ⊢; exact .inr hc)
    refine ⟨h1, ?_⟩
    simp only [blocks, List.flatMap_cons] at h2 ⊢
    exact h2.trans (List.sublist_append_right _ _)
  | _, _, .obj c (ds := ds) (es := es) hd (l := l) h, hl, hb => by
    obtain ⟨h1, h2⟩ := frzR_rel T h (fun y hy => hl y (by simp [hy])) fun c hc => hb c (by simp only [blocks, List.flatMap_cons, List.mem_append] at hc ⊢; exact .inr hc)
    have hbl : Res.blocks g' (.obj c es) = Res.blocks g (.obj c ds) := by
      have := FrzL.length hd
      cases ds <;> cases es <;> simp at this ⊢ <;> rfl
    refine ⟨fun y hy => ?_, ?_⟩
    · rcases List.mem_cons.1 hy with rfl | hy
      · by_cases hn : ds = []
        · subst hn
          cases hd
          exact .inl rfl
        · obtain ⟨vals, e, fz, hh, hz, hlv, hcm⟩ := obj_cons hn (hl (.obj c ds) (by simp))
          refine .inr ⟨vals, e, fz, hh, hz, FrzL.rel T hd hlv, ?_⟩
          rw [hb c (by cases ds with | nil => exact absurd rfl hn | cons _ _ => simp [blocks, Res.blocks])]
          exact hcm
      · exact h1 y hy
    · simp only [blocks, List.flatMap_cons] at h2 ⊢
      rw [hbl]; exact (List.Sublist.refl _).append h2

/-- **FROM HERE ON IT NEVER CHANGES**: the object b, and what is laid of it. -/
theorem frz_core {i : Nat} {R' : List Res} (hw : Wf g w) (hr : RelR g w R) (hR : R[i]? = some (.obj b cs)) (hR' : FrzR b cs (R.eraseIdx i) R') : ∃ g', Turned b cs g g' w ∧ After g w R g' w R' := by
  have hmem : Res.obj b cs ∈ R := List.mem_of_getElem? hR
  have hsub : (R.eraseIdx i).Sublist R := List.eraseIdx_sublist _ _
  by_cases hn : cs = []
  · subst hn
    have T : Turned b [] g g w := ⟨Pre.refl g w, .inl rfl⟩
    obtain ⟨h1, h2⟩ := frzR_rel T hR' (fun x hx => hr.all x (hsub.subset hx)) fun _ _ => rfl
    have h3 := h2.trans (blocks_sub (g := g) hsub)
    exact ⟨g, T, ⟨Ext.refl _ hw, ⟨h1, hr.nodup.sublist h3⟩, fun c hc => .inl (h3.subset hc)⟩⟩
  · obtain ⟨vals, e, fz, hh, hz, hl, hcm⟩ := obj_cons hn (hr.all _ hmem)
    have hb : b ∈ blocks g R := mem_blocks.2 ⟨_, hmem, by cases cs with | nil => exact absurd rfl hn | cons _ _ => simp [Res.blocks]⟩
    have hlt : b < w.heap.size := (Array.getElem?_eq_some_iff.1 hh).1
    have hcell : ∀ o, cell w b o = vals.toList[o]? := fun o => by simp [cell, World.cell?, hh]
    have hpre : Pre g w (g.with b vals.size) w := ⟨fun c => by
        simp only [Gh.with]; split
        · rename_i h; subst h; omega
        · exact Nat.le_refl _, fun _ _ _ => rfl, Nat.le_refl _, fun _ _ => rfl⟩
    have T : Turned b cs g (g.with b vals.size) w := ⟨hpre, .inr ⟨vals.toList, hl, hcell, by simp [Gh.with]⟩⟩
    -- b lies in nothing else that is owned
    have hnb : ∀ c ∈ blocks g (R.eraseIdx i), c ≠ b := by
      rintro c hc rfl
      obtain ⟨A, B, rfl, _⟩ := split_at hR
      have hnd := hr.nodup
      rw [blocks_append, blocks_append, blocks_obj hn] at hnd
      obtain ⟨x, hx, hxb⟩ := mem_blocks.1 hc
      rw [List.nodup_append] at hnd
      obtain ⟨h1, h2, h3⟩ := hnd
      rw [List.nodup_append] at h1
      obtain ⟨j, hji, hj⟩ := List.mem_eraseIdx_iff_getElem?.1 hx
      -- another place than i
      have hlen : i < (A ++ [Res.obj c cs] ++ B).length := (List.getElem?_eq_some_iff.1 hR).1
      by_cases hjA : j < A.length
      · have hxA : x ∈ A := by
          rw [List.append_assoc, List.getElem?_append_left hjA] at hj
          exact List.mem_of_getElem? hj
        exact h1.2.2 c (mem_blocks.2 ⟨x, hxA, hxb⟩) c (by simp) rfl
      · by_cases hjB : j = A.length
        · subst hjB
          have hiA : i ≠ A.length := fun e => hji e.symm
          by_cases hiA' : i < A.length
          · rw [List.append_assoc, List.getElem?_append_left hiA'] at hR
            exact h1.2.2 c (mem_blocks.2 ⟨_, List.mem_of_getElem? hR, by cases cs with | nil => exact absurd rfl hn | cons _ _ => simp [Res.blocks]⟩) c (by simp) rfl
          · rw [List.getElem?_append_right (by simp; omega)] at hR
            exact h3 c (List.mem_append.2 (.inr (by simp))) c (mem_blocks.2 ⟨_, List.mem_of_getElem? hR, by cases cs with | nil => exact absurd rfl hn | cons _ _ => simp [Res.blocks]⟩) rfl
        · have hxB : x ∈ B := by
            rw [List.getElem?_append_right (by simp; omega)] at hj
            exact List.mem_of_getElem? hj
          exact h3 c (List.mem_append.2 (.inr (by simp))) c (mem_blocks.2 ⟨x, hxB, hxb⟩) rfl
    obtain ⟨h1, h2⟩ := frzR_rel T hR' (fun x hx => hr.all x (hsub.subset hx)) fun c hc => by simp only [Gh.with]; rw [if_neg (hnb c hc)]
    have h3 := h2.trans (blocks_sub (g := g) hsub)
    refine ⟨_, T, ⟨?_, ⟨h1, hr.nodup.sublist h3⟩, fun c hc => .inl (h3.subset hc)⟩⟩
    exact { hpre with
      os := rfl, tape := rfl, output := rfl, size := Nat.le_refl _, frame := fun _ _ _ => rfl
      cmeq := fun c _ hc => by simp only [Gh.with]; rw [if_neg (fun e => hc (by rw [e]; exact hb))]
      wf := ⟨fun c hc => by simp only [Gh.with]; rw [if_neg (by omega)]; exact hw.cm c hc, fun c o ho => by
        simp only [Gh.with] at ho
        split at ho
        · rename_i h; subst h; rw [hcell]; simp; omega
        · exact hw.ex c o ho, hpre.st hw⟩ }

theorem UpdF.frz {fr fr' : Fr} {R' : List Res} (i : Nat) (hR : R[i]? = some (.obj b cs)) (hR' : FrzR b cs (R.eraseIdx i) R') (hf : ∀ t, Frz b cs (fr t) (fr' t)) : UpdF fr R fr' R' := by
  intro g w x hw hx hr
  obtain ⟨g', T, hA⟩ := frz_core hw hr hR hR'
  exact ⟨g', hA, fun t => Frz.rel T (hf t) (hx t)⟩
theorem UpdV.frz {v v' : V} {R' : List Res} (i : Nat) (hR : R[i]? = some (.obj b cs)) (hR' : FrzR b cs (R.eraseIdx i) R') (hf : Frz b cs v v') : UpdV v R v' R' := by
  intro g w x hw hx hr
  obtain ⟨g', T, hA⟩ := frz_core hw hr hR hR'
  exact ⟨g', hA, Frz.rel T hf hx⟩
theorem UpdV.trans {v v' v'' : V} {R R' R'' : List Res} (h : UpdV v R v' R') (h' : UpdV v' R' v'' R'') : UpdV v R v'' R'' := by
  intro g w x hw hx hr
  obtain ⟨g1, h1, h2⟩ := h g w x hw hx hr
  obtain ⟨g2, h3, h4⟩ := h' g1 w x h1.ext.wf h2 h1.res
  exact ⟨g2, h1.trans h3, h4⟩

/-- A frame written out, turned. -/
def FrzF (b : Nat) (cs : List V) (fr : Fr) (fr' : Fr) : Prop := ∀ t, Frz b cs (fr t) (fr' t)
theorem FrzF.nil (fr : Fr) : FrzF b cs fr (frL []) := fun _ => .vle (Vle.undef _)
theorem FrzF.cons {fr : Fr} {k : Nat} {v : V} {l : List (Nat × V)} (h : Frz b cs (fr k) v) (hs : FrzF b cs fr (frL l)) : FrzF b cs fr (frL ((k, v) :: l)) := fun t => by
  simp only [frL]
  cases e : Nat.beq t k with
  | true => rw [Nat.eq_of_beq_eq_true e]; exact h
  | false => exact hs t

/-- Rows of one cell each. -/
theorem rows_none {xs sp : List V} : ∀ {ys : List V} , Rows none (ys ++ xs ++ sp) ys.length xs := by
  induction xs with
  | nil => intro ys; trivial
  | cons x xs ih =>
    intro ys
    refine ⟨⟨x, ?_, Vle.refl x⟩, ?_⟩
    · simp [partOf]
    · have := ih (ys := ys ++ [x])
      simpa [width] using this
theorem rows_some {k : Nat} {sp : List V} : ∀ {xs ys : List V}, (∀ x ∈ xs, ∃ cs, x = .agg cs ∧ cs.length = k) → Rows (some k) (ys ++ rowC (some k) xs ++ sp) ys.length xs
  | [], _, _ => trivial
  | x :: xs, ys, h => by
    obtain ⟨cs, rfl, hk⟩ := h x (by simp)
    refine ⟨⟨.agg cs, ?_, Vle.refl _⟩, ?_⟩
    · simp only [partOf, rowC, List.flatMap_cons, aggC]
      rw [if_pos (by simp; omega)]
      simp [List.append_assoc, List.take_left' hk]
    · have := rows_some (sp := sp) (xs := xs) (ys := ys ++ cs) fun x hx => h x (by simp [hx])
      simpa [width, hk, rowC, aggC, List.append_assoc] using this

/-- A cell of a row's first part, set. -/
theorem splice_one {A sp : List V} {o : Nat} {v : V} (h : o < A.length) : splice (A ++ sp) o [v] = A.set o v ++ sp := by
  simp only [splice, List.length_singleton]
  rw [List.set_eq_take_append_cons_drop, if_pos h, List.take_append_of_le_length (by omega), List.drop_append_of_le_length (by omega)]
  simp

theorem w_ret1F {P : Program} {fn : Func} {K : V → List Res → Prop} {fr : Fr} {t : Tmp} {v : V} {R' : List Res} (i : Nat) (h : fn.results.toList = [.tmp t]) (hR : R[i]? = some (.obj b cs)) (hv : Frz b cs (fr t) v) (hR' : FrzR b cs (R.eraseIdx i) R') (hK : K v R') : (Tree.leaf .ret fr).wp P R (Ends P fn K) :=
  ⟨.inr rfl, [fr t], v, R', by rw [h]; exact ⟨[], rfl, rfl⟩, UpdV.frz i hR hR' hv, hK⟩
/-- All of a row of one cell each. -/
theorem Frz.all1 {xs sp : List V} {cap : Nat} : Frz b (xs ++ sp) (.lsl none b 0 xs.length cap) (.sl none xs .no) :=
  .row rfl (by simp [width]) (by simp [width]) (by have := rows_none (xs := xs) (sp := sp) (ys := []); simpa using this)
theorem Frz.alls {k cap : Nat} {xs sp : List V} (hk : 0 < k) (h : ∀ x ∈ xs, ∃ cs, x = .agg cs ∧ cs.length = k) : Frz b (rowC (some k) xs ++ sp) (.lsl (some k) b 0 xs.length cap) (.sl (some k) xs .no) :=
  .row rfl hk (by
    have : (rowC (some k) xs).length = xs.length * k := by
      clear hk
      induction xs with
      | nil => simp [rowC]
      | cons x xs ih =>
        obtain ⟨ds, rfl, hl⟩ := h x (by simp)
        have := ih fun x hx => h x (by simp [hx])
        simp only [rowC] at this
        simp [rowC, aggC, this, hl, Nat.add_mul]; omega
    simp [width, this]) (by have := rows_some (k := k) (sp := sp) (xs := xs) (ys := []) h; simpa using this)
theorem FrzR.drops : ∀ (l : List Res), FrzR b cs l []
  | [] => .nil
  | x :: l => .drop x (FrzR.drops l)

end
end Go.Sv
