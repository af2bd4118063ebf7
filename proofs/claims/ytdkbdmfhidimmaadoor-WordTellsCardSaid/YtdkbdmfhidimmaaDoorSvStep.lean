/- Operations that change what is owned. -/
import Derived.Test.YtdkbdmfhidimmaaDoorSvGives
namespace Go.Sv
open Go

/-- The marks that loops over functions leave among the deferred calls. -/
structure Marks (n0 : Nat) (g : Gh) (w : World) (R : List Res) (ds : List Deferred) : Prop where
  ex : ∃ rs : List Nat, ds = rs.map (fun r => { target := .collected r, args := #[] }) ∧ rs.Nodup ∧ ∀ r ∈ rs, w.heap[r]? = some (.deferred (some [])) ∧ r ∉ blocks g R ∧ n0 ≤ r

theorem Marks.after {n0 : Nat} {g g' : Gh} {w w' : World} {R R' : List Res} {ds : List Deferred} (h : Marks n0 g w R ds) (ha : After g w R g' w' R') : Marks n0 g' w' R' ds := by
  obtain ⟨rs, h1, h2, h3⟩ := h.ex
  refine ⟨rs, h1, h2, fun r hr => ?_⟩
  obtain ⟨h4, h5, h6⟩ := h3 r hr
  have hlt := (Array.getElem?_eq_some_iff.1 h4).1
  refine ⟨by rw [ha.ext.frame r hlt h5]; exact h4, fun hm => ?_, h6⟩
  rcases ha.own r hm with h6 | h6
  · exact h5 h6
  · omega

structure St (N n0 : Nat) (g : Gh) (w : World) (R : List Res) (fr : Fr) (a : Act) : Prop where
  wf : Wf g w
  fr : RelF N g w fr a.tmps
  res : RelR g w R
  marks : Marks n0 g w R a.defers

/-- Where a run has come to, and what is left to do. -/
def NextP (P : Program) (N n0 : Nat) (Q : Exit → Fr → List Res → Prop) (k : Fr → Tree) (g : Gh) (w : World) (R : List Res) (a' : Act) (w' : World) : Prop :=
  ∃ g' fr' R', (k fr').wp P R' Q ∧ After g w R g' w' R' ∧ RelF N g' w' fr' a'.tmps ∧ Marks n0 g' w' R' a'.defers

section
variable {P : Program} {N n0 : Nat} {Q : Exit → Fr → List Res → Prop} {k : Fr → Tree} {g : Gh} {w : World} {R : List Res} {fr : Fr} {a : Act}

theorem put_defers (a : Act) (d : Option Tmp) (v : Value) : (a.put d v).defers = a.defers := by cases d <;> rfl

/-- An answer laid into its slot. -/
theorem next_put (hs : St N n0 g w R fr a) {g' : Gh} {w' : World} {R' : List Res} (ha : After g w R g' w' R') {d : Option Nat} (hd : ∀ k, d = some k → k < N) {v : V} {x : Value} (hv : RelV g' w' v x)
    (hk : (k (putO fr d v)).wp P R' Q) : NextP P N n0 Q k g w R (a.put d x) w' :=
  ⟨g', _, R', hk, ha, (hs.fr.mono ha.ext.toPre).put hd hv, by rw [put_defers]; exact hs.marks.after ha⟩

theorem after_of_ext {g' : Gh} {w' : World} (hr : RelR g w R) (he : Ext [] g w g' w') : After g w R g' w' R :=
  ⟨he.mono (by simp), (hr.kept he (by simp)).1, fun b hb => .inl (by rw [← (hr.kept he (by simp)).2]; exact hb)⟩

theorem split_at {i : Nat} {r : Res} (h : R[i]? = some r) : ∃ A B, R = A ++ [r] ++ B ∧ ∀ x, R.set i x = A ++ [x] ++ B := by
  have hlt := (List.getElem?_eq_some_iff.1 h).1
  have hr := (List.getElem?_eq_some_iff.1 h).2
  refine ⟨R.take i, R.drop (i + 1), ?_, fun x => ?_⟩
  · have := List.take_append_drop i R
    rw [List.drop_eq_getElem_cons hlt, hr] at this
    simpa using this.symm
  · rw [List.set_eq_take_append_cons_drop, if_pos hlt]; simp

/-! ### Objects -/
theorem obj_cell {b : Nat} {cs : List V} (h : RelRes g w (.obj b cs)) : ∃ vals : Array Value, RelL g w cs vals.toList ∧ ∀ o : Nat, o < cs.length → cell w b o = vals[o]? := by
  rcases h with rfl | ⟨vals, e, fz, hh, _, hl, _⟩
  · exact ⟨#[], by simp [RelL], by simp⟩
  refine ⟨vals, hl, fun o _ => ?_⟩
  simp [cell, World.cell?, hh]

/-- A part of it lies inside. -/
theorem part_lt {sh : Option Nat} {cs : List V} {off : Nat} {v : V} (h : partOf sh cs off = some v) : off + width sh ≤ cs.length := by
  cases sh with
  | none =>
    simp only [partOf] at h
    have := (List.getElem?_eq_some_iff.1 h).1
    simp [width]; omega
  | some k =>
    simp only [partOf] at h
    split at h
    · simpa [width]
    · cases h

theorem e_load (hs : St N n0 g w R fr a) {t : TypeId} {sh : Option Nat} {b off i : Nat} {cs : List V} {v : V} {x : Value} (hsh : shapeOf P t = some sh) (hx : RelV g w (.loc b off) x)
    (hR : R[i]? = some (.obj b cs)) (hp : partOf sh cs off = some v) : ∃ y, (Instr.loadAt t x).run P w = .ok y w ∧ RelV g w v y := by
  simp only [RelV] at hx; subst hx
  obtain ⟨vals, hl, hc⟩ := obj_cell (hs.res.all _ (List.mem_of_getElem? hR))
  have hlt := part_lt hp
  have he : RelE g w sh v (fun i => cell w b (off + i)) := relE_congr (relE_part hl hp) fun j hj => hc _ (by omega)
  obtain ⟨y, hy, hr⟩ := run_loadVar hsh he
  exact ⟨y, by simpa [Instr.loadAt, Instr.sureAddr] using hy, hr⟩

theorem setRow_ext {b : Nat} {vals cs' : Array Value} {e : TypeId} {fz : Nat × Nat} (hw : Wf g w) (_hh : w.heap[b]? = some (.cells vals e fz)) (hcm : g.cm b = 0) : Ext [b] g w g (w.setRow b cs') where
  cmle _ := Nat.le_refl _
  com c o ho := by
    by_cases h : c = b
    · subst h; omega
    · exact World.cell?_of_block (w := w) (setRow_other w b c cs' h)
  nt := Nat.le_refl _
  th _ _ := rfl
  os := rfl
  tape := rfl
  output := rfl
  size := by simp
  frame c _ hn := setRow_other w b c cs' (by simpa using hn)
  cmeq _ _ _ := rfl
  wf := ⟨fun c hc => hw.cm c (by simpa using hc), fun c o ho => by
    have hne : c ≠ b := fun h => by subst h; omega
    have : cell (w.setRow b cs') c o = cell w c o := World.cell?_of_block (w := w) (setRow_other w b c cs' hne)
    rw [this]; exact hw.ex c o ho, fun p hm => by
      obtain ⟨v, h1, h2, h3⟩ := hw.st p hm
      have hne : p.1 ≠ b := fun h => by rw [h] at h3; omega
      exact ⟨v, (World.cell?_of_block (w := w) (setRow_other w b p.1 cs' hne)).trans h1, h2, h3⟩⟩

theorem blocks_obj {b : Nat} {cs : List V} (h : cs ≠ []) : blocks g [.obj b cs] = [b] := by
  cases cs with
  | nil => exact absurd rfl h
  | cons c cs => simp [blocks, Res.blocks]
theorem nodup_obj {b : Nat} {cs : List V} : (blocks g [.obj b cs]).Nodup := by
  cases cs <;> simp [blocks, Res.blocks]
theorem mem_obj {b c : Nat} {cs : List V} (h : c ∈ blocks g [.obj b cs]) : c = b := by
  cases cs <;> simp [blocks, Res.blocks] at h
  exact h
theorem obj_cons {b : Nat} {cs : List V} (hn : cs ≠ []) (h : RelRes g w (.obj b cs)) : ∃ vals e fz, w.heap[b]? = some (.cells vals e fz) ∧ fzOk fz vals.size ∧ RelL g w cs vals.toList ∧ g.cm b = 0 := h.resolve_left hn

theorem after_setRow {b : Nat} {cs cs2 : List V} {vals : Array Value} (hw : Wf g w) (hn : cs ≠ []) (h : RelRes g w (.obj b cs)) (hl : RelL g w cs2 vals.toList) (hlen : cs2.length = cs.length) : After g w [.obj b cs] g (w.setRow b vals) [.obj b cs2] := by
  obtain ⟨v0, e, fz, hh, hz, hl0, hcm⟩ := obj_cons hn h
  have hext := setRow_ext (cs' := vals) hw hh hcm
  refine ⟨by rw [blocks_obj hn]; exact hext, ⟨?_, nodup_obj⟩, fun c hc => .inl (by rw [blocks_obj hn]; simp [mem_obj hc])⟩
  intro r hr
  simp only [List.mem_singleton] at hr; subst hr
  have hs : vals.size = v0.size := by have h1 := relL_length hl; have h2 := relL_length hl0; simp at h1 h2; omega
  exact .inr ⟨vals, e, fz, setRow_heap w b v0 vals e _ hh, by rw [hs]; exact hz, RelL.mono hext.toPre _ _ hl, hcm⟩

theorem oneV_one {v : V} {x : Value} (h : oneV v = true) (hv : RelV g w v x) : x.oneCell' = true := by
  cases v with
  | c u => simp only [RelV] at hv; subst hv; exact h
  | agg _ => simp [oneV] at h
  | tup _ => simp [oneV] at h
  | undef => simp [oneV] at h
  | sl sh xs tok => simp only [RelV] at hv; obtain ⟨a, n, cap, rfl, _⟩ := hv; rfl
  | lsl sh b o n cap => simp only [RelV] at hv; obtain ⟨a, rfl, _⟩ := hv; rfl
  | pt sh v off => rw [relV_pt] at hv; obtain ⟨a, n, rfl, _⟩ := hv; rfl
  | loc b off => simp only [RelV] at hv; subst hv; rfl
  | fn f a b => simp only [RelV] at hv; obtain ⟨l, m, rfl, _⟩ := hv; rfl
  | ifc t v => simp only [RelV] at hv; obtain ⟨y, rfl, _⟩ := hv; rfl

theorem cells_of_one {x : Value} (h : x.oneCell' = true) : x.cells = #[x] := by cases x <;> first | rfl | simp [Value.oneCell'] at h

theorem take_set1 {α : Type} {l : List α} {o : Nat} {v : α} (h : o < l.length) : (l.set o v).take (o + 1) = l.take o ++ [v] := by
  rw [List.set_eq_take_append_cons_drop, if_pos h, List.take_append]
  simp [Nat.min_eq_left (Nat.le_of_lt h), show o + 1 - o = 1 by omega, List.take_of_length_le]
/-- Cells that are stored one behind the other. -/
theorem setCells_row {b : Nat} {e : TypeId} {fz : Nat × Nat} : ∀ (vs : List Value) (o : Nat) (cur : Array Value) (w : World), w.heap[b]? = some (.cells cur e fz) → o + vs.length ≤ cur.size →
    w.setCells b o vs = w.setRow b (cur.toList.take o ++ vs ++ cur.toList.drop (o + vs.length)).toArray
  | [], o, cur, w, hh, _ => by
    simp only [World.setCells, List.append_nil, List.length_nil, Nat.add_zero, List.take_append_drop, Array.toArray_toList]
    exact (setRow_self w b cur e fz hh).symm
  | v :: vs, o, cur, w, hh, hle => by
    have ho : o < cur.size := by simp at hle; omega
    have h1 : w.setCell ⟨b, o, none⟩ v = w.setRow b (cur.setIfInBounds o v) := by
      unfold World.setCell World.setRow
      congr 1
      apply Array.ext
      · simp
      · intro i h1 h2
        simp only [Array.size_modify] at h1 h2
        rw [Array.getElem_modify, Array.getElem_modify]
        split
        · rename_i hb
          have : w.heap[i] = .cells cur e fz := by
            have := (Array.getElem?_eq_some_iff.1 hh).2
            subst hb; exact this
          rw [this]; simp
        · rfl
    rw [World.setCells, h1, setCells_row vs (o + 1) (cur.setIfInBounds o v) _ (setRow_heap w b cur _ e fz hh) (by simp at hle ⊢; omega)]
    unfold World.setRow
    simp only [World.mk.injEq, and_true]
    apply Array.ext
    · simp
    · intro i h1 h2
      simp only [Array.size_modify] at h1 h2
      rw [Array.getElem_modify, Array.getElem_modify, Array.getElem_modify]
      split
      · rename_i hb
        have : w.heap[i] = .cells cur e fz := by
          have := (Array.getElem?_eq_some_iff.1 hh).2
          subst hb; exact this
        rw [this]
        simp only [Obj.cells.injEq, and_true]
        apply Array.ext'
        simp only [Array.toList_setIfInBounds, List.length_cons]
        have ho' : o < cur.toList.length := by simpa using ho
        rw [take_set1 ho', List.drop_set_of_lt (by omega)]
        simp [show o + 1 + vs.length = o + (vs.length + 1) by omega]
      · rfl

theorem frozen_cells {b i : Nat} {cur : Array Value} {e : TypeId} {fz : Nat × Nat} (hh : w.heap[b]? = some (.cells cur e fz)) (hz : fzOk fz cur.size) (hi : i < cur.size) : w.frozen? ⟨b, i, none⟩ = false := by
  have := hz i hi
  simp only [World.frozen?, hh]
  simp; omega

theorem run_storeCells_row {b o : Nat} {vs : List Value} {cur : Array Value} {e : TypeId} {fz : Nat × Nat} (hh : w.heap[b]? = some (.cells cur e fz)) (hz : fzOk fz cur.size) (hle : o + vs.length ≤ cur.size) (h1 : ∀ v ∈ vs, v.oneCell' = true) :
    (storeCells ⟨b, o, none⟩ vs).run P w = .ok () (w.setRow b (cur.toList.take o ++ vs ++ cur.toList.drop (o + vs.length)).toArray) := by
  have := run_storeCells_cells (P := P) b o vs 0 w (fun j hj => by simp [World.cell?, hh]; omega) (fun j hj => frozen_cells hh hz (by omega)) h1
  simp only [Nat.add_zero] at this
  rw [this, setCells_row vs o cur w hh hle]

theorem run_storeVar {t : TypeId} {sh : Option Nat} (hsh : shapeOf P t = some sh) {b off : Nat} {vals : Array Value} {e : TypeId} {x : Value} (hx : x.cells.size = width sh) (h1 : ∀ u ∈ x.cells.toList, u.oneCell' = true)
    {fz : Nat × Nat} (hh : w.heap[b]? = some (.cells vals e fz)) (hz : fzOk fz vals.size) (hle : off + width sh ≤ vals.size) :
    (Instr.storeAt t (.pointer (some ⟨b, off, none⟩)) x).run P w = .ok () (w.setRow b (vals.toList.take off ++ x.cells.toList ++ vals.toList.drop (off + width sh)).toArray) := by
  obtain ⟨i, hi, hsz⟩ := shape_info hsh
  have hst := run_storeCells_row (P := P) (o := off) (vs := x.cells.toList) hh hz (by simp; omega) h1
  simp only [Array.length_toList] at hst
  simp only [Instr.storeAt, Instr.sureAddr, storeVar, Sem.run_bind, Sem.run_pure, Result.andThen_ok, run_sizeOf' hi, hsz]
  rw [if_neg (by simp [hx])]
  rw [hst, hx]

theorem e_store (hs : St N n0 g w R fr a) {t : TypeId} {sh : Option Nat} {b off i : Nat} {cs vs us : List V} {x y : Value} (hsh : shapeOf P t = some sh) (hx : RelV g w (.loc b off) x)
    (hvs : RelL g w vs y.cells.toList) (hy : y.cells.size = width sh) (hone : ∀ v ∈ vs, oneV v = true) (hle : VleL vs us) (hR : R[i]? = some (.obj b cs)) (hlen : off + us.length ≤ cs.length) :
    ∃ w', (Instr.storeAt t x y).run P w = .ok () w' ∧ After g w R g w' (R.set i (.obj b (splice cs off us))) := by
  simp only [RelV] at hx; subst hx
  obtain ⟨A, B, rfl, hset⟩ := split_at hR
  have hobj := hs.res.all (.obj b cs) (by simp)
  have hlu := hle.length
  have hly := relL_length hvs
  simp at hly
  by_cases hn : cs = []
  · subst hn
    have hu0 : us = [] := List.eq_nil_of_length_eq_zero (by have := hlen; rw [List.length_nil] at this; omega)
    have hv0 : vs.length = 0 := by rw [← hlu, hu0]; rfl
    have hw0 : y.cells.size = 0 := by omega
    subst hu0
    obtain ⟨i', hi', hsz⟩ := shape_info hsh
    refine ⟨w, ?_, ?_⟩
    · have hyc : y.cells.toList = [] := List.eq_nil_of_length_eq_zero (by rw [Array.length_toList]; exact hw0)
      simp only [Instr.storeAt, Instr.sureAddr, storeVar, Sem.run_bind, Sem.run_pure, Result.andThen_ok, run_sizeOf' hi', hsz]
      rw [if_neg (by simp [hy]), hyc]
      rfl
    · rw [hset]; simpa [splice] using After.refl hs.wf hs.res
  obtain ⟨vals, e, fz, hh, hz, hl, hcm⟩ := obj_cons hn hobj
  have hlv := relL_length hl
  simp at hlv
  have h1 : ∀ u ∈ y.cells.toList, u.oneCell' = true := by
    intro u hu
    obtain ⟨j, hj⟩ := List.getElem?_of_mem hu
    have hjlt := (List.getElem?_eq_some_iff.1 hj).1
    have hjv : vs[j]? = some vs[j] := List.getElem?_eq_getElem (by simp at hjlt; omega)
    obtain ⟨z, hz, hrel⟩ := relL_get hvs hjv
    rw [hj] at hz; cases hz
    exact oneV_one (hone _ (List.getElem_mem _)) hrel
  have hrun := run_storeVar (P := P) hsh hy h1 hh hz (off := off) (by omega)
  refine ⟨_, hrun, ?_⟩
  rw [hset]
  refine After.frame hs.res (after_setRow hs.wf hn (.inr ⟨vals, e, fz, hh, hz, hl, hcm⟩) ?_ (by simp [splice]; omega))
  have := relL_append (relL_append (relL_take hl off) (hle.rel hvs)) (relL_drop hl (off + us.length))
  have e1 : width sh = us.length := by omega
  rw [e1]
  simpa [splice] using this

theorem after_alloc_obj (hw : Wf g w) {cells : Array Value} {e : TypeId} {cs : List V} (hl : RelL g w cs cells.toList) : After g w [] g (w.alloc (.cells cells e)) [.obj w.heap.size cs] := by
  have hext := ext_alloc hw cells e 0 (Nat.zero_le _)
  have hg : g.with w.heap.size 0 = g := by
    have : (fun c => if c = w.heap.size then 0 else g.cm c) = g.cm := by
      funext c; split
      · rename_i h; subst h; exact (hw.cm _ (Nat.le_refl _)).symm
      · rfl
    cases g; simp only [Gh.with] at *; simp [this]
  rw [hg] at hext
  refine ⟨by simpa [blocks] using hext, ⟨?_, nodup_obj⟩, fun c hc => .inr (by rw [mem_obj hc]; omega)⟩
  intro r hr
  simp only [List.mem_singleton] at hr; subst hr
  exact .inr ⟨cells, e, (0, 0), heap_alloc_new w _, fun i _ h => by simp at h, RelL.mono hext.toPre _ _ hl, hw.cm _ (Nat.le_refl _)⟩

/-! ### append -/
theorem relXs_cells {sh : Option Nat} : ∀ {vs : List V} {rd : Nat → Option Value}, RelXs g w sh vs rd → ∃ news : List Value, news.length = vs.length * width sh ∧ ∀ i, i < news.length → rd i = news[i]?
  | [], _, _ => ⟨[], by simp, by simp⟩
  | v :: vs, rd, h => by
    rw [relXs_cons] at h
    obtain ⟨news, h1, h2⟩ := relXs_cells h.2
    have he := h.1
    have : ∃ cells : List Value, cells.length = width sh ∧ ∀ i, i < width sh → rd i = cells[i]? := by
      cases sh with
      | none =>
        obtain ⟨y, hy, _⟩ := he
        exact ⟨[y], rfl, fun i hi => by simp [width] at hi; subst hi; simpa using hy⟩
      | some k =>
        obtain ⟨l, hl, hc, _⟩ := he
        exact ⟨l.toList, by simpa [width] using hl, fun i hi => by simpa using hc i hi⟩
    obtain ⟨cells, h3, h4⟩ := this
    refine ⟨cells ++ news, by simp [h1, h3, Nat.add_mul]; omega, fun i hi => ?_⟩
    rw [List.getElem?_append]
    split
    · exact h4 i (by omega)
    · have := h2 (i - cells.length) (by simp at hi; omega)
      rw [← this]; congr 1; omega

theorem relXs_append {sh : Option Nat} : ∀ {vs us : List V} {rd : Nat → Option Value}, RelXs g w sh vs rd → RelXs g w sh us (fun i => rd (i + vs.length * width sh)) → RelXs g w sh (vs ++ us) rd
  | [], us, rd, _, h => by simpa using h
  | v :: vs, us, rd, h, h' => by
    rw [relXs_cons] at h
    rw [List.cons_append, relXs_cons]
    refine ⟨h.1, relXs_append h.2 ?_⟩
    have e : (fun i => rd (i + (v :: vs).length * width sh)) = (fun i => rd (i + vs.length * width sh + width sh)) := by
      funext i; congr 1; simp [Nat.add_mul]; omega
    rw [e] at h'; exact h'

theorem okE_cells {sh : Option Nat} {v : V} {rd : Nat → Option Value} (hk : okE sh v) (h : RelE g w sh v rd) : ∀ i u, i < width sh → rd i = some u → u.oneCell' = true := by
  intro i u hi hu
  cases sh with
  | none =>
    obtain ⟨y, hy, hv⟩ := h
    simp [width] at hi; subst hi
    rw [hy] at hu; cases hu
    exact oneV_one hk hv
  | some k =>
    obtain ⟨l, hl, hc, hv⟩ := h
    obtain ⟨cs, rfl, hlen, hall⟩ := hk
    simp only [RelV] at hv
    obtain ⟨l', he, hr⟩ := hv
    cases he
    have := hc i hi
    rw [hu] at this
    have hlt : i < cs.length := by simp [width] at hi; omega
    obtain ⟨z, hz, hrel⟩ := relL_get hr (List.getElem?_eq_getElem hlt)
    simp at hz
    rw [hz] at this; cases this
    exact oneV_one (hall _ (List.getElem_mem _)) hrel

theorem okE_row {sh : Option Nat} {vs : List V} {rd : Nat → Option Value} (hk : ∀ y ∈ vs, okE sh y) (h : RelXs g w sh vs rd) : ∀ i u, i < vs.length * width sh → rd i = some u → u.oneCell' = true := by
  intro i u hi hu
  have hw : 0 < width sh := by
    rcases Nat.eq_zero_or_pos (width sh) with h0 | h0
    · rw [h0] at hi; simp at hi
    · exact h0
  have hq : i / width sh < vs.length := by rw [Nat.div_lt_iff_lt_mul hw]; exact hi
  have he := relXs_get h (List.getElem?_eq_getElem hq)
  refine okE_cells (hk _ (List.getElem_mem _)) he (i % width sh) u (Nat.mod_lt _ hw) ?_
  have : i / width sh * width sh + i % width sh = i := by rw [Nat.mul_comm]; exact Nat.div_add_mod _ _
  rw [this]; exact hu

/-- What is appended. -/
structure Appended (P : Program) (g : Gh) (w : World) (sh : Option Nat) (size : Nat) (tx : TypeId) (y : Value) (ys : List V) where
  news : List Value
  src : Src P size tx y ys.length news w
  rel : RelXs g w sh ys (fun i => news[i]?)

theorem appended_slice {sh : Option Nat} {size : Nat} {tx e' : TypeId} {ys : List V} {tok : Tk} {y : Value} (hs : size = width sh) (hk : P.underlying tx = some (.slice e')) (hy : RelV g w (.sl sh ys tok) y) (hok : ∀ v ∈ ys, okE sh v) :
    Nonempty (Appended P g w sh size tx y ys) := by
  subst hs
  simp only [RelV] at hy
  obtain ⟨A, n, c, rfl, hn, hc, _, hr⟩ := hy
  subst hn
  rcases hr with rfl | ⟨b, o, rfl, hle, hr⟩
  · cases A with
    | none => exact ⟨⟨[], Src.ofNil w hk c, by simp [RelXs]⟩⟩
    | some ad => exact ⟨⟨[], Src.ofSlice w hk ad 0 c [] (by simp) (by simp) (by simp), by simp [RelXs]⟩⟩
  · obtain ⟨news, h1, h2⟩ := relXs_cells hr
    refine ⟨⟨news, Src.ofSlice w hk _ _ c news h1 (fun j u hj => ?_) (fun u hu => ?_), ?_⟩⟩
    · have hlt := (List.getElem?_eq_some_iff.1 hj).1
      rw [Addr.add_lit]
      exact (h2 j hlt).trans hj
    · obtain ⟨j, hj⟩ := List.getElem?_of_mem hu
      have hlt := (List.getElem?_eq_some_iff.1 hj).1
      exact okE_row hok hr j u (by omega) ((h2 j hlt).trans hj)
    · exact RelXs.mono (Pre.refl g w) sh ys _ _ (fun i hi => (h2 i (by omega)).symm) hr

theorem appended_nil {sh : Option Nat} {size : Nat} {tx e' : TypeId} {sh' : Option Nat} {tok : Tk} {y : Value} (hk : P.underlying tx = some (.slice e')) (hy : RelV g w (.sl sh' [] tok) y) :
    Nonempty (Appended P g w sh size tx y []) := by
  simp only [RelV] at hy
  obtain ⟨A, n, c, rfl, hn, hc, _, hr⟩ := hy
  simp at hn; subst hn
  cases A with
  | none => exact ⟨⟨[], Src.ofNil w hk c, by simp [RelXs]⟩⟩
  | some ad => exact ⟨⟨[], Src.ofSlice w hk ad 0 c [] (by simp) (by simp) (by simp), by simp [RelXs]⟩⟩

theorem appended_string {tx : TypeId} (hk : P.underlying tx = some .string) (s : ByteArray) : Nonempty (Appended P g w none 1 tx (.string s) (s.data.toList.map fun b => .c (.int .u8 b.toNat))) := by
  refine ⟨⟨byteCells s, by simpa using Src.ofString w hk s, ?_⟩⟩
  refine relXs_of_get fun i v hv => ?_
  have hi := (List.getElem?_eq_some_iff.1 hv).1
  simp at hi
  have hi' : i < s.data.toList.length := by simpa using hi
  rw [List.getElem?_map, List.getElem?_eq_getElem hi'] at hv
  simp only [Option.map_some, Option.some.injEq] at hv
  subst hv
  refine ⟨.int .u8 (s.data.toList[i]).toNat, ?_, by simp only [RelV]⟩
  simp [byteCells, width, List.getElem?_eq_getElem hi']

/-- A token more. -/
def Gh.mint (g : Gh) (b n : Nat) (h : Value) : Gh := { cm := fun c => if c = b then n else g.cm c, nt := g.nt + 1, th := fun t => if t = g.nt then h else g.th t }

theorem e_grow (hw : Wf g w) {e : TypeId} {sh : Option Nat} {z : Array Value} {olds news : List Value} {xs ys : List V} {newCap : Nat} {w1 : World} (hz : z.size = width sh)
    (ho : RelXs g w sh xs (fun i => olds[i]?)) (hn : RelXs g w sh ys (fun i => news[i]?)) (hlo : olds.length = xs.length * width sh) (hln : news.length = ys.length * width sh) (hge : xs.length + ys.length ≤ newCap) (hpos : 0 < newCap) (hm : newCap ≤ maxLen)
    (hw1 : w1 = w.drew.alloc (.cells ((olds ++ news).toArray ++ Builtin.zeroCells z (newCap - (xs.length + ys.length))) e)) :
    ∃ g', After g w [] g' w1 [.tok g.nt sh] ∧ RelV g' w1 (.sl sh (xs ++ ys) (.t g.nt)) (.slice (some ⟨w.heap.size, 0, none⟩) (xs.length + ys.length) newCap) := by
  obtain ⟨C, hC⟩ : ∃ C, C = (olds ++ news).toArray ++ Builtin.zeroCells z (newCap - (xs.length + ys.length)) := ⟨_, rfl⟩
  rw [← hC] at hw1
  subst hw1
  have hmul : (xs.length + ys.length) * width sh = olds.length + news.length := by rw [Nat.add_mul, hlo, hln]
  have hCs : C.size = newCap * width sh := by
    have : newCap * width sh = (xs.length + ys.length) * width sh + (newCap - (xs.length + ys.length)) * width sh := by rw [← Nat.add_mul]; congr 1; omega
    rw [hC, this, hmul, ← hz]
    simp [size_zeroCells]
  have hlt : olds.length + news.length ≤ C.size := by rw [hCs, ← hmul]; exact Nat.mul_le_mul_right _ hge
  have hwd : Wf g w.drew := ⟨hw.cm, hw.ex, hw.st⟩
  have hext0 := ext_alloc hwd C e (olds.length + news.length) hlt
  have hpre : Pre g w (g.mint w.heap.size (olds.length + news.length) (.slice (some ⟨w.heap.size, 0, none⟩) (xs.length + ys.length) newCap)) (w.drew.alloc (.cells C e)) :=
    ⟨hext0.cmle, hext0.com, Nat.le_succ _, fun t ht => by simp only [Gh.mint]; rw [if_neg (by omega)]⟩
  have hext : Ext [] g w (g.mint w.heap.size (olds.length + news.length) (.slice (some ⟨w.heap.size, 0, none⟩) (xs.length + ys.length) newCap)) (w.drew.alloc (.cells C e)) :=
    { hpre with os := rfl, tape := rfl, output := rfl, size := hext0.size, frame := hext0.frame, cmeq := hext0.cmeq, wf := ⟨hext0.wf.cm, hext0.wf.ex, hpre.st hw⟩ }
  have hnew : ∀ i : Nat, cell (w.drew.alloc (.cells C e)) w.heap.size i = C[i]? := fun i => cell_alloc_new (w := w.drew)
  obtain ⟨cap, rfl⟩ : ∃ c, newCap = c + 1 := ⟨newCap - 1, by omega⟩
  refine ⟨_, ⟨by simpa [blocks] using hext, ⟨?_, ?_⟩, ?_⟩, ?_⟩
  · intro r hr
    simp only [List.mem_singleton] at hr; subst hr
    refine ⟨by simp [Gh.mint], .inr ⟨w.heap.size, xs.length + ys.length, cap, C, e, by simp [Gh.mint], heap_alloc_new w.drew _, hge, hm, hCs, by simp [Gh.mint, hmul]⟩⟩
  · simp [blocks, Res.blocks, Gh.mint, blockOf]
  · intro c hc
    simp [blocks, Res.blocks, Gh.mint, blockOf] at hc
    right; omega
  · simp only [RelV]
    refine ⟨_, _, _, rfl, by simp, hge, ⟨by simp [Gh.mint], by simp [Gh.mint]⟩, .inr ⟨w.heap.size, 0, rfl, by simp [Gh.mint, hmul], ?_⟩⟩
    have hold : RelXs (g.mint w.heap.size (olds.length + news.length) (.slice (some ⟨w.heap.size, 0, none⟩) (xs.length + ys.length) (cap + 1))) (w.drew.alloc (.cells C e)) sh xs (fun i => cell (w.drew.alloc (.cells C e)) w.heap.size (0 + i)) :=
      RelXs.mono hpre sh xs _ _ (fun i hi => by
        rw [Nat.zero_add, hnew, hC, Array.getElem?_append_left (by simp; omega)]
        simp
        rw [List.getElem?_append_left (by omega)]) ho
    refine relXs_append hold (RelXs.mono hpre sh ys _ _ (fun i hi => ?_) hn)
    rw [Nat.zero_add, hnew, hC, Array.getElem?_append_left (by simp; omega)]
    simp
    rw [List.getElem?_append_right (by omega)]
    congr 1; omega

end
end Go.Sv
