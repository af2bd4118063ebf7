/- Each operation does what its value says. -/
import Derived.Test.YtdkbdmfhidimmaaDoorSvWp
import Derived.Deep.AppendSrc
namespace Go.Sv
open Go

def RelF (N : Nat) (g : Gh) (w : World) (fr : Fr) (tmps : Array Value) : Prop := tmps.size = N ∧ ∀ t, RelV g w (fr t) (tmps.getD t undef)

theorem RelF.mono {N : Nat} {g g' : Gh} {w w' : World} {fr : Fr} {tmps : Array Value} (h : RelF N g w fr tmps) (hp : Pre g w g' w') : RelF N g' w' fr tmps :=
  ⟨h.1, fun t => RelV.mono hp _ _ (h.2 t)⟩
theorem RelF.weak {N : Nat} {g : Gh} {w : World} {fr fr' : Fr} {tmps : Array Value} (h : RelF N g w fr tmps) (hp : Weak fr fr') : RelF N g w fr' tmps :=
  ⟨h.1, fun t => hp t _ _ _ (h.2 t)⟩

theorem put_same {fr : Fr} {d : Nat} {v : V} : put fr d v d = v := by simp [put]
theorem Nat.beq_eq_false_of_ne {a b : Nat} (h : a ≠ b) : Nat.beq a b = false := by
  cases e : Nat.beq a b with
  | false => rfl
  | true => exact absurd (Nat.eq_of_beq_eq_true e) h
theorem put_other {fr : Fr} {d t : Nat} {v : V} (h : t ≠ d) : put fr d v t = fr t := by
  have : Nat.beq t d = false := Nat.beq_eq_false_of_ne h
  simp [put, this]

theorem RelF.put {N : Nat} {g : Gh} {w : World} {fr : Fr} {a : Act} (h : RelF N g w fr a.tmps) {d : Option Nat} (hd : ∀ k, d = some k → k < N) {v : V} {x : Value} (hv : RelV g w v x) : RelF N g w (putO fr d v) (a.put d x).tmps := by
  cases d with
  | none => exact h
  | some k =>
    have hk := hd k rfl
    refine ⟨by simp [Act.put, h.1], fun t => ?_⟩
    by_cases e : t = k
    · subst e
      simp only [putO, put_same, Act.put]
      rw [Array.getD_eq_getD_getElem?, Array.getElem?_setIfInBounds_self_of_lt (by rw [h.1]; exact hk)]
      exact hv
    · simp only [putO, put_other e, Act.put]
      rw [Array.getD_eq_getD_getElem?, Array.getElem?_setIfInBounds_ne (fun h => e h.symm), ← Array.getD_eq_getD_getElem?]
      exact h.2 t

theorem relV_undef (g : Gh) (w : World) (x : Value) : RelV g w .undef x := by simp [RelV]

theorem ofC1_rel (g : Gh) (w : World) (v : Value) : RelV g w (ofC1 v) v := by
  unfold ofC1
  split
  · simp only [RelV]
    exact ⟨none, 0, 0, rfl, rfl, Nat.le_refl _, rfl, .inl (by trivial)⟩
  · rename_i f a b
    split
    · rename_i h
      have ha : a = #[] := Array.eq_empty_of_size_eq_zero h.1
      have hb : b = #[] := Array.eq_empty_of_size_eq_zero h.2
      subst ha; subst hb
      simp [RelV, RelL]
    · simp [RelV]
  · simp [RelV]

theorem relL_map {g : Gh} {w : World} {α : Type} (f : α → V) (h : α → Value) : ∀ (l : List α), (∀ x ∈ l, RelV g w (f x) (h x)) → RelL g w (l.map f) (l.map h)
  | [], _ => by simp [RelL]
  | x :: l, hx => by
    simp only [List.map_cons, RelL]
    exact ⟨_, _, rfl, hx x (by simp), relL_map f h l fun y hy => hx y (by simp [hy])⟩

theorem ofC2_rel (g : Gh) (w : World) (v : Value) : RelV g w (ofC2 v) v := by
  unfold ofC2
  split
  · rename_i ds
    simp only [RelV]
    exact ⟨ds, rfl, by simpa using relL_map (g := g) (w := w) ofC1 id ds.toList fun x _ => ofC1_rel g w x⟩
  · exact ofC1_rel g w _

theorem ofC_rel (g : Gh) (w : World) (v : Value) : RelV g w (ofC v) v := by
  unfold ofC
  split
  · rename_i cs
    simp only [RelV]
    exact ⟨cs, rfl, by simpa using relL_map (g := g) (w := w) ofC1 id cs.toList fun x _ => ofC1_rel g w x⟩
  · rename_i cs
    simp only [RelV]
    exact ⟨cs, rfl, by simpa using relL_map (g := g) (w := w) ofC2 id cs.toList fun x _ => ofC2_rel g w x⟩
  · exact ofC1_rel g w _

theorem ev_rel {N : Nat} {g : Gh} {w : World} {fr : Fr} {a : Act} (h : RelF N g w fr a.tmps) (x : Operand) : RelV g w (ev fr x) (a.eval x) := by
  cases x with
  | tmp t => exact h.2 t
  | const v => exact ofC_rel g w v
  | global k => simp [ev, Act.eval, RelV]
  | func f => simp [ev, Act.eval, RelV, RelL]

theorem pureVal_run {P : Program} {α : Type} : ∀ {s : Sem α} {a : α} (w : World), pureVal P s = some a → s.run P w = .ok a w
  | .pure a, b, w, h => by simp [pureVal] at h; subst h; rfl
  | .program k, b, w, h => by simp only [pureVal] at h; exact pureVal_run (s := k P) w h
  | .mark _ k, b, w, h => by simp only [pureVal] at h; exact pureVal_run (s := k) w h
  | .load .., _, _, h => by simp [pureVal] at h
  | .store .., _, _, h => by simp [pureVal] at h
  | .new .., _, _, h => by simp [pureVal] at h
  | .shape .., _, _, h => by simp [pureVal] at h
  | .freeze .., _, _, h => by simp [pureVal] at h
  | .frozen .., _, _, h => by simp [pureVal] at h
  | .getObj .., _, _, h => by simp [pureVal] at h
  | .setObj .., _, _, h => by simp [pureVal] at h
  | .choose .., _, _, h => by simp [pureVal] at h
  | .sys .., _, _, h => by simp [pureVal] at h
  | .halt .., _, _, h => by simp [pureVal] at h

/-- A run that yields v, of what was there nothing changed. -/
def Yields (P : Program) (s : Sem Next) (g : Gh) (w : World) (v : V) : Prop :=
  ∃ x g' w', s.run P w = .ok (.value x) w' ∧ Ext [] g w g' w' ∧ RelV g' w' v x

theorem Yields.same {P : Program} {s : Sem Next} {g : Gh} {w : World} {v : V} {x : Value} (hw : Wf g w) (h : s.run P w = .ok (.value x) w) (hv : RelV g w v x) : Yields P s g w v :=
  ⟨x, g, w, h, Ext.refl _ hw, hv⟩

/-! ### A new block whose cells never change -/
def Gh.with (g : Gh) (b n : Nat) : Gh := { g with cm := fun c => if c = b then n else g.cm c }

theorem cell_alloc_old {w : World} {o : Obj} {b i : Nat} (h : b < w.heap.size) : cell (w.alloc o) b i = cell w b i := by
  unfold cell
  exact World.cell?_of_block (w := w) (Go.RowKit.Below.heap_alloc w o b h)
theorem cell_alloc_new {w : World} {c : Array Value} {e : TypeId} {i : Nat} : cell (w.alloc (.cells c e)) w.heap.size i = c[i]? := by
  unfold cell World.cell?
  have h := heap_alloc_new w (.cells c e)
  simp only [h]
  simp

theorem ext_alloc {g : Gh} {w : World} (hw : Wf g w) (c : Array Value) (e : TypeId) (n : Nat) (hn : n ≤ c.size) : Ext [] g w (g.with w.heap.size n) (w.alloc (.cells c e)) where
  cmle b := by
    simp only [Gh.with]; split
    · rename_i h; subst h; rw [hw.cm _ (Nat.le_refl _)]; omega
    · exact Nat.le_refl _
  com b o ho := cell_alloc_old (by
    rcases Nat.lt_or_ge b w.heap.size with h | h
    · exact h
    · rw [hw.cm b h] at ho; omega)
  nt := Nat.le_refl _
  th _ _ := rfl
  os := rfl
  tape := rfl
  output := rfl
  size := by simp
  frame b hb _ := Go.RowKit.Below.heap_alloc w _ b hb
  cmeq b hb _ := by simp only [Gh.with]; rw [if_neg (by omega)]
  wf := ⟨fun b hb => by
      simp at hb
      simp only [Gh.with]; rw [if_neg (by omega)]; exact hw.cm b (by omega),
    fun b o ho => by
      simp only [Gh.with] at ho
      split at ho
      · rename_i h; subst h; rw [cell_alloc_new]; simp; omega
      · have := hw.ex b o ho
        rwa [cell_alloc_old]
        rcases Nat.lt_or_ge b w.heap.size with h | h
        · exact h
        · rw [hw.cm b h] at ho; omega,
    fun p hm => by
      obtain ⟨v, h1, h2, h3⟩ := hw.st p hm
      have hlt : p.1 < w.heap.size := by
        rcases Nat.lt_or_ge p.1 w.heap.size with h | h
        · exact h
        · rw [hw.cm _ h] at h3; omega
      exact ⟨v, (cell_alloc_old hlt).trans h1, h2, by simp only [Gh.with]; rw [if_neg (by omega)]; exact h3⟩⟩

theorem relL_cells {g : Gh} {w : World} {v : V} {x : Value} {cs : List V} (hv : RelV g w v x) (hc : cellsO v = some cs) : RelL g w cs x.cells.toList := by
  have one : ∀ {v : V} {x : Value}, RelV g w v x → (∀ l, x ≠ .agg l) → RelL g w [v] x.cells.toList := by
    intro v x h hn
    have : x.cells = #[x] := by
      unfold Value.cells
      split
      · rename_i l; exact absurd rfl (hn l)
      · rfl
    rw [this]
    simp only [RelL]
    exact ⟨x, [], rfl, h, rfl⟩
  cases v with
  | agg ds =>
    simp only [RelV] at hv
    obtain ⟨l, rfl, h⟩ := hv
    simp [cellsO] at hc; subst hc
    simpa [Value.cells] using h
  | undef => simp [cellsO] at hc
  | c u =>
    simp only [RelV] at hv
    subst hv
    unfold cellsO at hc
    simp only at hc
    split at hc
    · rename_i l
      simp at hc; subst hc
      simpa [Value.cells] using relL_map (g := g) (w := w) V.c id l.toList fun x _ => by simp [RelV]
    · rename_i v hv
      simp at hc; subst hc
      exact one (by simp [RelV]) (fun l e => hv l e)
  | sl sh xs tok => simp [cellsO] at hc; subst hc; exact one hv (by simp only [RelV] at hv; obtain ⟨a, n, cap, rfl, _⟩ := hv; simp)
  | lsl sh b o n cap => simp [cellsO] at hc; subst hc; exact one hv (by simp only [RelV] at hv; obtain ⟨a, rfl, _⟩ := hv; simp)
  | pt sh v off => simp [cellsO] at hc; subst hc; exact one hv (by rw [relV_pt] at hv; obtain ⟨a, n, rfl, _⟩ := hv; simp)
  | loc b off => simp [cellsO] at hc; subst hc; exact one hv (by simp only [RelV] at hv; subst hv; simp)
  | fn f a b => simp [cellsO] at hc; subst hc; exact one hv (by simp only [RelV] at hv; obtain ⟨l, m, rfl, _⟩ := hv; simp)
  | ifc t v => simp [cellsO] at hc; subst hc; exact one hv (by simp only [RelV] at hv; obtain ⟨y, rfl, _⟩ := hv; simp)
  | tup ds => simp [cellsO] at hc; subst hc; exact one hv (by simp only [RelV] at hv; obtain ⟨y, rfl, _⟩ := hv; simp)

theorem cellsO_c (v : Value) : ∃ cs, cellsO (.c v) = some cs := by cases v <;> simp [cellsO]
theorem ofC1_cells (z : Value) : ∃ cs, cellsO (ofC1 z) = some cs := by
  unfold ofC1
  split
  · simp [cellsO]
  · split
    · simp [cellsO]
    · exact cellsO_c _
  · exact cellsO_c _
theorem zero_rel {g : Gh} {w : World} (z : Value) : RelL g w ((cellsO (ofC z)).getD []) z.cells.toList := by
  have : ∃ cs, cellsO (ofC z) = some cs := by
    unfold ofC
    split
    · simp [cellsO]
    · simp [cellsO]
    · exact ofC1_cells z
  obtain ⟨cs, hcs⟩ := this
  rw [hcs]
  exact relL_cells (ofC_rel g w z) hcs

/-! ### Types -/
theorem shape_info {P : Program} {t : TypeId} {sh : Option Nat} (h : shapeOf P t = some sh) : ∃ i, P.info? t = some i ∧ i.size = width sh := by
  unfold shapeOf at h
  split at h
  · rename_i fs i hu hi; simp at h; subst h; exact ⟨i, hi, rfl⟩
  · rename_i i hu hi; simp at h; subst h; exact ⟨i, hi, rfl⟩
  · rename_i d i hi _ _ _
    split at h
    · rename_i h1; simp at h; subst h; exact ⟨i, by assumption, h1⟩
    · cases h
  · cases h

theorem run_sizeOf' {P : Program} {t : TypeId} {i : TypeInfo} (h : P.info? t = some i) (w : World) : (sizeOf t).run P w = .ok i.size w := by
  simp [sizeOf, typeInfo, h]

theorem run_isAgg_none {P : Program} {t : TypeId} (h : shapeOf P t = some none) (w : World) : (isAgg t).run P w = .ok false w := by
  unfold shapeOf at h
  split at h
  · cases h
  · cases h
  · rename_i d i hu hi h1 h2
    simp only [isAgg, Sem.run_bind, run_underlying h1, Result.andThen_ok]
    cases d <;> first | rfl | (exfalso; simp_all)
  · cases h

theorem run_isAgg_some {P : Program} {t : TypeId} {k : Nat} (h : shapeOf P t = some (some k)) (w : World) : (isAgg t).run P w = .ok true w := by
  unfold shapeOf at h
  split at h
  · rename_i fs i hu hi
    simp only [isAgg, Sem.run_bind, run_underlying hu, Result.andThen_ok]; rfl
  · rename_i i hu hi
    simp only [isAgg, Sem.run_bind, run_underlying hu, Result.andThen_ok]; rfl
  · split at h <;> cases h
  · cases h

/-- A variable's value, read off its cells. -/
theorem run_loadVar {P : Program} {t : TypeId} {sh : Option Nat} (h : shapeOf P t = some sh) {g : Gh} {w : World} {b o : Nat} {v : V} (hv : RelE g w sh v (fun i => cell w b (o + i))) :
    ∃ x, (loadVar t ⟨b, o, none⟩).run P w = .ok x w ∧ RelV g w v x := by
  cases sh with
  | none =>
    obtain ⟨y, hy, hr⟩ := hv
    refine ⟨y, ?_, hr⟩
    have hy' : w.cell? ⟨b, o, none⟩ = some y := hy
    simp [loadVar, run_isAgg_none h, hy']
  | some k =>
    obtain ⟨l, hl, hc, hr⟩ := hv
    obtain ⟨i, hi, hs⟩ := shape_info h
    refine ⟨.agg l, ?_, hr⟩
    have := run_loadCells_list (P := P) w ⟨b, o, none⟩ l.toList (fun j u hj => by
      rw [Addr.add_lit]
      have hj' : j < k := by
        have := (List.getElem?_eq_some_iff.1 hj).1
        simp at this; omega
      have := hc j hj'
      simp only [cell] at this
      rw [this]; simpa using hj)
    simp only [Array.length_toList, hl] at this
    simp [loadVar, run_isAgg_some h, run_sizeOf' hi, hs, width, this]

theorem relE_part {g : Gh} {w : World} {cs : List V} {l : Array Value} {sh : Option Nat} {off : Nat} {u : V} (h : RelL g w cs l.toList) (hp : partOf sh cs off = some u) : RelE g w sh u (fun i => l[off + i]?) := by
  cases sh with
  | none =>
    simp only [partOf] at hp
    obtain ⟨x, hx, hr⟩ := relL_get h hp
    exact ⟨x, by simpa using hx, hr⟩
  | some k =>
    simp only [partOf] at hp
    split at hp
    · rename_i hle
      simp at hp; subst hp
      have hl := relL_length h
      refine ⟨l.extract off (off + k), by simp at hl ⊢; omega, fun i hi => ?_, ?_⟩
      · simp at hl
        simp [Array.getElem?_extract, hi]
        omega
      · simp only [RelV]
        refine ⟨_, rfl, ?_⟩
        have := relL_take (relL_drop h off) k
        simpa [Array.toList_extract, List.extract_eq_take_drop] using this
    · cases hp

theorem relE_congr {g : Gh} {w : World} {sh : Option Nat} {v : V} {rd rd' : Nat → Option Value} (h : RelE g w sh v rd) (he : ∀ i, i < width sh → rd' i = rd i) : RelE g w sh v rd' := by
  cases sh with
  | none => obtain ⟨y, hy, hr⟩ := h; exact ⟨y, (he 0 (by simp [width])).trans hy, hr⟩
  | some k => obtain ⟨l, hl, hc, hr⟩ := h; exact ⟨l, hl, fun i hi => (he i hi).trans (hc i hi), hr⟩

end Go.Sv
