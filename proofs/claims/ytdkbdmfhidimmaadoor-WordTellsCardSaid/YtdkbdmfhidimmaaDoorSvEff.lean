/- Slices whose elements may change: each operation does what it says. -/
import Derived.Test.YtdkbdmfhidimmaaDoorSvInv
import Derived.Laws.MakeOwn
import Derived.Laws.IdiomCopy
import Derived.Lib.ConvBytes
import Derived.Lib.SliceRun
import Derived.WalkSpells
namespace Go.Sv
open Go

section
variable {P : Program} {N n0 : Nat} {g : Gh} {w : World} {R : List Res} {fr : Fr} {a : Act} {o : Oper}

theorem set_self {α : Type} {l : List α} {i : Nat} {x : α} (h : l[i]? = some x) : l.set i x = l := by
  apply List.ext_getElem?
  intro j
  rw [List.getElem?_set]
  split
  · rename_i e; subst e
    split
    · exact h.symm
    · rename_i hn; rw [List.getElem?_eq_none (by omega)]
  · rfl

theorem splice_nil {cs : List V} {o : Nat} : splice cs o [] = cs := by simp [splice]

/-- Cells written one behind the other. -/
theorem e_put (hw : Wf g w) (hr : RelR g w R) {i b o : Nat} {cs src : List V} {news : List Value} (hR : R[i]? = some (.obj b cs)) (hl : RelL g w src news) (h1 : ∀ u ∈ news, u.oneCell' = true) (hle : o + src.length ≤ cs.length) :
    After g w R g (w.setCells b o news) (R.set i (.obj b (splice cs o src))) ∧ (∀ j, j < news.length → (w.cell? ⟨b, o + j, none⟩).isSome = true) ∧ (∀ j, j < news.length → w.frozen? ⟨b, o + j, none⟩ = false) := by
  have hln := relL_length hl
  by_cases hn : cs = []
  · subst hn
    have hs : src = [] := List.eq_nil_of_length_eq_zero (by have := hle; rw [List.length_nil] at this; omega)
    subst hs
    have hnn : news = [] := List.eq_nil_of_length_eq_zero (by simpa using hln)
    subst hnn
    refine ⟨?_, by simp, by simp⟩
    rw [splice_nil, set_self hR]
    exact After.refl hw hr
  · obtain ⟨A, B, rfl, hset⟩ := split_at hR
    have hobj := hr.all (.obj b cs) (by simp)
    obtain ⟨vals, e, fz, hh, hz, hlv, hcm⟩ := obj_cons hn hobj
    have hlv2 := relL_length hlv
    simp at hlv2
    refine ⟨?_, fun j hj => by simp [World.cell?, hh]; omega, fun j hj => frozen_cells hh hz (by omega)⟩
    rw [hset, setCells_row news o vals w hh (by omega)]
    refine After.frame hr (after_setRow hw hn (.inr ⟨vals, e, fz, hh, hz, hlv, hcm⟩) ?_ (by simp [splice]; omega))
    have := relL_append (relL_append (relL_take hlv o) hl) (relL_drop hlv (o + src.length))
    rw [← hln] at this
    simpa [splice, hln] using this

/-- A new row. -/
theorem e_fresh (hw : Wf g w) {w1 : World} (h1 : w1.heap = w.heap) (h2 : w1.os = w.os) (h3 : w1.tape = w.tape) (h4 : w1.output = w.output) {cells : Array Value} {e : TypeId} {cs : List V} (hl : RelL g w cs cells.toList) : After g w [] g (w1.alloc (.cells cells e)) [.obj w.heap.size cs] := by
  have hc : ∀ b o, cell w1 b o = cell w b o := fun b o => by simp only [cell, World.cell?, h1]
  have hp : Pre g w g w1 := ⟨fun _ => Nat.le_refl _, fun b o _ => hc b o, Nat.le_refl _, fun _ _ => rfl⟩
  have hw1 : Wf g w1 := ⟨fun b hb => hw.cm b (by rw [← h1]; exact hb), fun b o ho => by rw [hc]; exact hw.ex b o ho, hp.st hw⟩
  have hA := after_alloc_obj hw1 (e := e) (RelL.mono hp _ _ hl)
  rw [h1] at hA
  have hx := hA.ext
  refine ⟨?_, hA.res, fun b hb => by rw [← h1]; exact hA.own b hb⟩
  exact {
    cmle := hx.cmle
    com := fun b o ho => (hx.com b o ho).trans (hc b o)
    nt := hx.nt
    th := hx.th
    os := hx.os.trans h2
    tape := hx.tape.trans h3
    output := hx.output.trans h4
    size := by rw [← h1]; exact hx.size
    frame := fun b hb hn => by rw [← h1]; exact hx.frame b (by rw [h1]; exact hb) hn
    cmeq := fun b hb hn => hx.cmeq b (by rw [h1]; exact hb) hn
    wf := hx.wf }

theorem relL_undef : ∀ {xs : List Value}, RelL g w (List.replicate xs.length .undef) xs
  | [] => by simp [RelL]
  | x :: xs => by
    simp only [List.length_cons, List.replicate_succ, RelL]
    exact ⟨x, xs, rfl, by simp [RelV], relL_undef⟩

theorem after_more {g' : Gh} {w' : World} {x : Res} (hr : RelR g w R) (h : After g w [] g' w' [x]) : After g w R g' w' (R ++ [x]) := by
  have := After.frame (A := R) (B := []) (R := []) (by simpa using hr) h
  simpa using this
theorem after_instead {g' : Gh} {w' : World} {i : Nat} {x y : Res} (hr : RelR g w R) (hR : R[i]? = some y) (h : After g w [] g' w' [x]) : After g w R g' w' (R.set i x) := by
  obtain ⟨A, B, rfl, hset⟩ := split_at hR
  rw [hset]
  have h1 : After g w [y] g' w' [x] := by
    have := After.frame (A := [y]) (B := []) (R := []) (by simpa using hr.sub (R' := [y]) (by simp)) h
    exact this.sub (by simp)
  exact After.frame hr h1

theorem relR_dummy (hr : RelR g w R) (b : Nat) : RelR g w (R ++ [.obj b []]) := by
  refine ⟨fun x hx => ?_, ?_⟩
  · rcases List.mem_append.1 hx with hx | hx
    · exact hr.all x hx
    · simp only [List.mem_singleton] at hx; subst hx; exact .inl rfl
  · rw [blocks_append]
    have : blocks g [.obj b []] = [] := by simp [blocks, Res.blocks]
    rw [this, List.append_nil]; exact hr.nodup
theorem after_dummy (hw : Wf g w) (hr : RelR g w R) (b : Nat) : After g w R g w (R ++ [.obj b []]) := by
  refine ⟨Ext.refl _ hw, relR_dummy hr b, fun c hc => .inl ?_⟩
  rw [blocks_append] at hc
  have : blocks g [.obj b []] = [] := by simp [blocks, Res.blocks]
  rw [this, List.append_nil] at hc; exact hc

theorem grown_cells {sh : Option Nat} {oldsV src : List V} {olds news : List Value} {z : Array Value} {k : Nat} (ho : RelL g w oldsV olds) (hl : RelL g w src news) (hz : z.size = width sh) :
    RelL g w (oldsV ++ src ++ List.replicate (k * width sh) .undef) ((olds ++ news).toArray ++ Builtin.zeroCells z k).toList := by
  have h1 : (Builtin.zeroCells z k).toList.length = k * width sh := by simp [size_zeroCells, hz]
  have := relL_append (relL_append ho hl) (relL_undef (g := g) (w := w) (xs := (Builtin.zeroCells z k).toList))
  rw [h1] at this
  simpa using this

/-- append to a slice whose elements may change. -/
theorem e_app (hw : Wf g w) (hr : RelR g w R) {run : Value → Sem Value} {sh : Option Nat} {by_ m : Nat} {src : List V} {news : List Value} {z : Array Value} {e : TypeId} {x : V} {s : Value} {Y : V → List Res → Prop}
    (hroom : ∀ b off n c, n + m ≤ c → (∀ j, j < news.length → (w.cell? ⟨b, off + n * width sh + j, none⟩).isSome = true) → (∀ j, j < news.length → w.frozen? ⟨b, off + n * width sh + j, none⟩ = false) →
      (run (.slice (some ⟨b, off, none⟩) n c)).run P w = .ok (.slice (some ⟨b, off, none⟩) (n + m) c) (w.setCells b (off + n * width sh) news))
    (hnone : m = 0 → ∀ A n c, n ≤ c → (run (.slice A n c)).run P w = .ok (.slice A n c) w)
    (hgrow : ∀ A n c olds, (Builtin.firstCells (width sh) n (.slice A n c)).run P w.drew = .ok (List.toArray olds) w.drew → c < n + m → (n + m) * by_ ≤ 140737488355328 →
      (run (.slice A n c)).run P w = .ok (.slice (some ⟨w.heap.size, 0, none⟩) (n + m) (grownCap w (n + m) c e)) (w.drew.alloc (.cells ((olds ++ news).toArray ++ Builtin.zeroCells z (grownCap w (n + m) c e - (n + m))) e)))
    (hz : z.size = width sh) (hl : RelL g w src news) (hlen : src.length = m * width sh) (h1 : ∀ u ∈ news, u.oneCell' = true) (hx : RelV g w x s) (h : AppW sh by_ x m src R Y) :
    ∃ v u g' w' R', (run s).run P w = .ok u w' ∧ After g w R g' w' R' ∧ RelV g' w' v u ∧ Y v R' := by
  have hln := relL_length hl
  rcases h with ⟨sh', rfl, hle, hk⟩ | ⟨i, b, q, n, cap, cs, rfl, hR, hroom', hfit, hk⟩ | ⟨i, b, n, cap, cs, rfl, hR, hcs, hle, hk⟩
  · simp only [RelV] at hx
    obtain ⟨A, n, c, rfl, hn, hc, hcap, _⟩ := hx
    simp at hn; subst hn; subst hcap
    by_cases h0 : m = 0
    · subst h0
      have hs : src = [] := List.eq_nil_of_length_eq_zero (by simpa using hlen)
      subst hs
      refine ⟨_, _, g, w, _, hnone rfl A 0 0 (Nat.le_refl _), after_dummy hw hr 0, ?_, hk 0 0 [] (by simp) (Nat.le_refl _)⟩
      simp only [RelV]
      exact ⟨A, rfl, Nat.le_refl _, .inl (by trivial)⟩
    · have hold : (Builtin.firstCells (width sh) 0 (.slice A 0 0)).run P w.drew = .ok ([] : List Value).toArray w.drew := by
        cases A <;> simp [Builtin.firstCells, loadCells, loadCellsFrom]
      have hrun := hgrow A 0 0 [] hold (by omega) (by simpa using hle)
      simp only [Nat.zero_add] at hrun
      have hge := grownCap_ge w m 0 e
      have hrel := grown_cells (g := g) (w := w) (sh := sh) (oldsV := []) (olds := []) (z := z) (k := grownCap w m 0 e - m) (by simp [RelL]) hl hz
      simp only [List.nil_append] at hrel
      have hA := e_fresh (w1 := w.drew) (e := e) hw rfl rfl rfl rfl hrel
      refine ⟨_, _, g, _, _, hrun, after_more hr hA, ?_, hk w.heap.size (grownCap w m 0 e) (List.replicate ((grownCap w m 0 e - m) * width sh) .undef) ?_ hge⟩
      · simp only [RelV]
        exact ⟨_, rfl, hge, .inr rfl⟩
      · simp only [List.length_append, hlen, List.length_replicate, ← Nat.add_mul]
        congr 1; omega
  · simp only [RelV] at hx
    obtain ⟨A, rfl, hc, hA⟩ := hx
    by_cases h0 : cap = 0
    · have hm : m = 0 := by omega
      subst hm
      have hs : src = [] := List.eq_nil_of_length_eq_zero (by simpa using hlen)
      subst hs
      rw [splice_nil, set_self hR] at hk
      refine ⟨_, _, g, w, _, hnone rfl A n cap hc, After.refl hw hr, ?_, hk⟩
      simp only [RelV]
      exact ⟨A, rfl, hc, hA⟩
    · have hA' : A = some ⟨b, q, none⟩ := by rcases hA with h | h; exact absurd h h0; exact h
      subst hA'
      have hmul : (n + m) * width sh ≤ cap * width sh := Nat.mul_le_mul_right _ hroom'
      rw [Nat.add_mul] at hmul
      obtain ⟨p1, p2, p3⟩ := e_put hw hr (o := q + n * width sh) hR hl h1 (by omega)
      refine ⟨_, _, g, _, _, hroom b q n cap hroom' p2 p3, p1, ?_, hk⟩
      simp only [RelV]
      exact ⟨_, rfl, hroom', .inr rfl⟩
  · simp only [RelV] at hx
    obtain ⟨A, rfl, hc, hA⟩ := hx
    have hmul0 : n * width sh ≤ cap * width sh := Nat.mul_le_mul_right _ hc
    by_cases hfit : n + m ≤ cap
    · have hmul : (n + m) * width sh ≤ cap * width sh := Nat.mul_le_mul_right _ hfit
      rw [Nat.add_mul] at hmul
      have hsp : splice cs (n * width sh) src = cs.take (n * width sh) ++ src ++ cs.drop (n * width sh + src.length) := rfl
      have hk' := hk b cap (cs.drop (n * width sh + src.length)) (by simp; omega) hfit
      by_cases h0 : cap = 0
      · have hm : m = 0 := by omega
        subst hm
        have hs : src = [] := List.eq_nil_of_length_eq_zero (by simpa using hlen)
        subst hs
        rw [← hsp, splice_nil, set_self hR] at hk'
        refine ⟨_, _, g, w, _, hnone rfl A n cap hc, After.refl hw hr, ?_, hk'⟩
        simp only [RelV]
        exact ⟨A, rfl, hc, hA⟩
      · have hA' : A = some ⟨b, 0, none⟩ := by rcases hA with h | h; exact absurd h h0; exact h
        subst hA'
        obtain ⟨p1, p2, p3⟩ := e_put hw hr (o := 0 + n * width sh) hR hl h1 (by omega)
        refine ⟨_, _, g, _, _, hroom b 0 n cap hfit p2 p3, p1, ?_, by rw [Nat.zero_add, hsp]; exact hk'⟩
        simp only [RelV]
        exact ⟨_, rfl, hfit, .inr rfl⟩
    · -- a new row
      have hold : ∃ olds : List Value, (Builtin.firstCells (width sh) n (.slice A n cap)).run P w.drew = .ok olds.toArray w.drew ∧ RelL g w (cs.take (n * width sh)) olds := by
        by_cases h0 : n * width sh = 0
        · refine ⟨[], ?_, by rw [h0]; simp [RelL]⟩
          cases A <;> simp [Builtin.firstCells, loadCells, loadCellsFrom, h0]
        · have hcap : cap ≠ 0 := by rintro rfl; simp at hc; subst hc; simp at h0
          have hA' : A = some ⟨b, 0, none⟩ := by rcases hA with h | h; exact absurd h hcap; exact h
          subst hA'
          have hn : cs ≠ [] := by rintro rfl; simp at hcs; omega
          obtain ⟨vals, e', fz, hh, hz', hlv, hcm⟩ := obj_cons hn (hr.all _ (List.mem_of_getElem? hR))
          have hlv2 := relL_length hlv
          simp at hlv2
          refine ⟨vals.toList.take (n * width sh), ?_, relL_take hlv _⟩
          refine run_firstCells_some w.drew (width sh) n ⟨b, 0, none⟩ n cap _ (by simp; omega) fun j v hj => ?_
          rw [Addr.add_lit, Nat.zero_add]
          rw [List.getElem?_take] at hj
          split at hj
          · have hh' : w.drew.heap[b]? = some (.cells vals e' fz) := hh
            simp only [World.cell?, hh']
            simpa using hj
          · cases hj
      obtain ⟨olds, ho1, ho2⟩ := hold
      have hrun := hgrow A n cap olds ho1 (by omega) hle
      have hge := grownCap_ge w (n + m) cap e
      have hrel := grown_cells (g := g) (w := w) (sh := sh) (z := z) (k := grownCap w (n + m) cap e - (n + m)) ho2 hl hz
      have hA := e_fresh (w1 := w.drew) (e := e) hw rfl rfl rfl rfl hrel
      refine ⟨_, _, g, _, _, hrun, after_instead hr hR hA, ?_, hk w.heap.size (grownCap w (n + m) cap e) (List.replicate ((grownCap w (n + m) cap e - (n + m)) * width sh) .undef) ?_ hge⟩
      · simp only [RelV]
        exact ⟨_, rfl, hge, .inr rfl⟩
      · simp only [List.length_append, hlen, List.length_replicate, List.length_take, hcs, Nat.min_eq_left hmul0, ← Nat.add_mul]
        congr 1; omega

/-- The cells of a row's elements. -/
theorem row_cells {sh : Option Nat} : ∀ {ys : List V} {rd : Nat → Option Value} {news : List Value}, RelXs g w sh ys rd → (∀ y ∈ ys, okE sh y) → news.length = ys.length * width sh → (∀ i, i < news.length → rd i = news[i]?) → RelL g w (rowC sh ys) news
  | [], rd, news, _, _, hl, _ => by
    have : news = [] := List.eq_nil_of_length_eq_zero (by simpa using hl)
    subst this
    cases sh <;> simp [rowC, RelL]
  | y :: ys, rd, news, h, hok, hl, hrd => by
    rw [relXs_cons] at h
    have hl' : news.length = width sh + ys.length * width sh := by rw [hl]; simp [Nat.add_mul]; omega
    have ih := row_cells (news := news.drop (width sh)) h.2 (fun y hy => hok y (by simp [hy])) (by simp; omega) (fun i hi => by
      simp at hi
      rw [hrd _ (by omega), List.getElem?_drop, Nat.add_comm])
    have hy := hok y (by simp)
    have hhead : ∃ cs, rowC sh (y :: ys) = cs ++ rowC sh ys ∧ RelL g w cs (news.take (width sh)) := by
      cases sh with
      | none =>
        refine ⟨[y], by simp [rowC], ?_⟩
        obtain ⟨x, hx, hr⟩ := h.1
        have h0 := hrd 0 (by simp [width] at hl'; omega)
        rw [hx] at h0
        have : news.take (width none) = [x] := by
          cases news with
          | nil => simp at h0
          | cons u us => simp at h0; subst h0; simp [width]
        rw [this]
        simp only [RelL]
        exact ⟨x, [], rfl, hr, rfl⟩
      | some k =>
        obtain ⟨cs, rfl, hlen, _⟩ := hy
        refine ⟨cs, by simp [rowC, aggC], ?_⟩
        obtain ⟨l, hls, hc, hr⟩ := h.1
        simp only [RelV] at hr
        obtain ⟨l', he, hr⟩ := hr
        cases he
        have : news.take (width (some k)) = l.toList := by
          apply List.ext_getElem?
          intro i
          rw [List.getElem?_take]
          split
          · rename_i hi
            simp only [width] at hi hl'
            rw [← hrd i (by omega), hc i hi]; simp
          · rename_i hi
            simp only [width] at hi
            rw [List.getElem?_eq_none (by simp; omega)]
        rw [this]; exact hr
    obtain ⟨cs, h1, h2⟩ := hhead
    rw [h1]
    have := relL_append h2 ih
    rwa [List.take_append_drop] at this

theorem rowC_length {sh : Option Nat} : ∀ {ys : List V}, (∀ y ∈ ys, okE sh y) → (rowC sh ys).length = ys.length * width sh
  | [], _ => by cases sh <;> simp [rowC]
  | y :: ys, h => by
    have ih := rowC_length (ys := ys) fun y hy => h y (by simp [hy])
    cases sh with
    | none => simp [rowC, width]
    | some k =>
      obtain ⟨cs, rfl, hlen, _⟩ := h y (by simp)
      simp only [rowC] at ih
      simp [rowC, aggC, ih, width, Nat.add_mul, hlen]; omega

/-- What a slice of an own object holds. -/
theorem part_src (hr : RelR g w R) {j b o' n : Nat} {cs : List V} {A : Option Addr} {cap k : Nat} (hR : R[j]? = some (.obj b cs)) (hle : o' + k ≤ cs.length) (hk : k = 0 ∨ A = some ⟨b, o', none⟩) :
    ∃ news : List Value, RelL g w ((cs.drop o').take k) news ∧ news.length = k ∧ ∀ w' : World, w'.heap = w.heap → ∀ size, n * size = k → (Builtin.firstCells size n (.slice A n cap)).run P w' = .ok news.toArray w' := by
  by_cases h0 : k = 0
  · subst h0
    refine ⟨[], by simp [RelL], rfl, fun w' hw' size hs => ?_⟩
    cases A <;> simp [Builtin.firstCells, loadCells, loadCellsFrom, hs]
  · have hA : A = some ⟨b, o', none⟩ := hk.resolve_left h0
    subst hA
    have hn : cs ≠ [] := by rintro rfl; simp at hle; omega
    obtain ⟨vals, e', fz, hh, hz', hlv, hcm⟩ := obj_cons hn (hr.all _ (List.mem_of_getElem? hR))
    have hlv2 := relL_length hlv
    simp at hlv2
    refine ⟨(vals.toList.drop o').take k, relL_take (relL_drop hlv _) _, by simp; omega, fun w' hw' size hs => ?_⟩
    refine run_firstCells_some w' size n ⟨b, o', none⟩ n cap _ (by simp; omega) fun i v hi => ?_
    rw [Addr.add_lit]
    rw [List.getElem?_take] at hi
    split at hi
    · have hh' : w'.heap[b]? = some (.cells vals e' fz) := by rw [hw']; exact hh
      simp only [World.cell?, hh']
      rw [List.getElem?_drop] at hi
      simpa using hi
    · cases hi

theorem one_of_rel {src : List V} {news : List Value} (hl : RelL g w src news) (h : ∀ v ∈ src, oneV v = true) : ∀ u ∈ news, u.oneCell' = true := by
  intro u hu
  obtain ⟨j, hj⟩ := List.getElem?_of_mem hu
  have hjlt := (List.getElem?_eq_some_iff.1 hj).1
  have hln := relL_length hl
  have hjv : src[j]? = some src[j] := List.getElem?_eq_getElem (by omega)
  obtain ⟨z, hz, hrel⟩ := relL_get hl hjv
  rw [hj] at hz; cases hz
  exact oneV_one (h _ (List.getElem_mem _)) hrel

theorem getElem_bang {z : Array Value} {i : Nat} (h : i < z.size) : z[i]! = z[i] := by simp [h]

/-- n zero values one behind the other. -/
theorem rel_zeros {z : Array Value} {zs : List V} (hz : RelL g w zs z.toList) : ∀ n : Nat, RelL g w (List.replicate n zs).flatten (Builtin.zeroCells z n).toList := by
  intro n
  have hlen := relL_length hz
  simp at hlen
  have key : (Builtin.zeroCells z n).toList = (List.replicate n z.toList).flatten := by
    induction n with
    | zero => simp [Builtin.zeroCells]
    | succ n ih =>
      have e1 : Builtin.zeroCells z (n + 1) = Builtin.zeroCells z n ++ z := by
        apply Array.ext
        · simp [size_zeroCells, Nat.add_mul]
        · intro i h1 h2
          rw [Array.getElem_append]
          simp only [Builtin.zeroCells, Array.getElem_map, Array.getElem_range, Array.size_map, Array.size_range]
          simp only [size_zeroCells, Nat.add_mul, Nat.one_mul] at h1
          split
          · rfl
          · rename_i hn
            have h0 : i % z.size = i - n * z.size := by
              have hcm := Nat.mul_comm z.size n
              have : i = (i - n * z.size) + z.size * n := by omega
              rw [this, Nat.add_mul_mod_self_left]
              rw [Nat.mod_eq_of_lt (by omega)]
              rw [Nat.mul_comm z.size n]; omega
            rw [h0, getElem_bang (by omega)]
      rw [e1, Array.toList_append, ih, ← List.flatten_concat]
      rw [show List.replicate n z.toList ++ [z.toList] = List.replicate (n + 1) z.toList from (List.replicate_succ').symm]
  rw [key]
  clear key
  induction n with
  | zero => simp [RelL]
  | succ n ih => simp only [List.replicate_succ, List.flatten_cons]; exact relL_append hz ih

theorem flat_length {zs : List V} {n k : Nat} (h : zs.length = k) : (List.replicate n zs).flatten.length = n * k := by
  induction n with
  | zero => simp
  | succ n ih => simp only [List.replicate_succ, List.flatten_cons, List.length_append, ih, h, Nat.add_mul]; omega
theorem flat_mem {zs : List V} {n : Nat} {Q : V → Prop} (h : ∀ v ∈ zs, Q v) : ∀ v ∈ (List.replicate n zs).flatten, Q v := by
  intro v hv
  obtain ⟨l, hl, hv⟩ := List.mem_flatten.1 hv
  rw [List.eq_of_mem_replicate hl] at hv
  exact h v hv

theorem made_zero {z : Array Value} {n k : Nat} (h : z.size = k) : madeCells z (n * k) = Builtin.zeroCells z n := by subst h; rfl

theorem run_copy {dT sT ty elem : TypeId} {i : TypeInfo} {A : Option Addr} {n cap m : Nat} {src : Value} {news : List Value} {w2 : World} (hu : P.underlying dT = some (.slice elem)) (hi : P.info? elem = some i) (hm : (Builtin.lenOf src).run P w = .ok m w)
    (hc : (Builtin.firstCells i.size (min m n) src).run P w = .ok news.toArray w) (hst : (A = none ∧ w2 = w) ∨ ∃ ad, A = some ad ∧ (storeCells ad news).run P w = .ok () w2) :
    (Builtin.copy_ #[dT, sT] ty #[.slice A n cap, src]).run P w = .ok (.int .i64 (min m n : Nat)) w2 := by
  have hc' : (Builtin.firstCells i.size (Nat.min m n) src).run P w = .ok news.toArray w := hc
  rcases hst with ⟨rfl, rfl⟩ | ⟨ad, rfl, hst⟩
  · simp [Builtin.copy_, run_underlying hu, sizeOf, typeInfo, hi, hm, hc', goInt]
  · simp [Builtin.copy_, run_underlying hu, sizeOf, typeInfo, hi, hm, hc', goInt, hst]

theorem run_clear {t e ty : TypeId} {i : TypeInfo} {z : Value} {A : Option Addr} {n cap : Nat} {w2 : World} (hu : P.underlying t = some (.slice e)) (hi : P.info? e = some i) (hz : i.zero = some z)
    (hst : (A = none ∧ w2 = w) ∨ (n = 0 ∧ w2 = w) ∨ ∃ ad, A = some ad ∧ n ≠ 0 ∧ (storeCells ad (Builtin.zeroCells z.cells n).toList).run P w = .ok () w2) :
    (Builtin.clear_ #[t] ty #[.slice A n cap]).run P w = .ok (.tuple #[]) w2 := by
  rcases hst with ⟨rfl, rfl⟩ | ⟨rfl, rfl⟩ | ⟨ad, rfl, hn, hst⟩
  · simp [Builtin.clear_, run_underlying hu]
  · cases A <;> simp [Builtin.clear_, run_underlying hu]
  · obtain ⟨k, rfl⟩ : ∃ k, n = k + 1 := ⟨n - 1, by omega⟩
    simp [Builtin.clear_, run_underlying hu, zeroValue, typeInfo, hi, hz, hst]

/-- append of so many zero values. -/
theorem run_appZ {t tx ty e : TypeId} {i : TypeInfo} {z : Value} {k k' : IntKind} {m : Nat} (ht : P.underlying t = some (.slice e)) (hi : P.info? e = some i) (hz : i.zero = some z) (hzs : z.cells.size = i.size) (htx : P.underlying tx = some (.int k)) (hm : m ≤ 140737488355328) (hmb : m * i.bytes ≤ 140737488355328) :
    (∀ b off n c, n + m ≤ c → (∀ j, j < (Builtin.zeroCells z.cells m).toList.length → (w.cell? ⟨b, off + n * i.size + j, none⟩).isSome = true) → (∀ j, j < (Builtin.zeroCells z.cells m).toList.length → w.frozen? ⟨b, off + n * i.size + j, none⟩ = false) → (∀ u ∈ (Builtin.zeroCells z.cells m).toList, u.oneCell' = true) →
      (Builtin.append_ #[t, tx] ty #[.slice (some ⟨b, off, none⟩) n c, .int k' m]).run P w = .ok (.slice (some ⟨b, off, none⟩) (n + m) c) (w.setCells b (off + n * i.size) (Builtin.zeroCells z.cells m).toList)) ∧
    (m = 0 → ∀ A n c, n ≤ c → (Builtin.append_ #[t, tx] ty #[.slice A n c, .int k' m]).run P w = .ok (.slice A n c) w) ∧
    (∀ A n c olds, (Builtin.firstCells i.size n (.slice A n c)).run P w.drew = .ok (List.toArray olds) w.drew → c < n + m → ((n + m : Nat) : Int) ≤ 9223372036854775807 → Builtin.nextslicecap (n + m) c * i.bytes ≤ 281474976710656 →
      (Builtin.append_ #[t, tx] ty #[.slice A n c, .int k' m]).run P w = .ok (.slice (some ⟨w.heap.size, 0, none⟩) (n + m) (grownCap w (n + m) c e)) (w.drew.alloc (.cells ((olds ++ (Builtin.zeroCells z.cells m).toList).toArray ++ Builtin.zeroCells z.cells (grownCap w (n + m) c e - (n + m))) e))) := by
  have wm : IntKind.i64.wrap (m : Int) = m := by rw [IntKind.wrap_i64]; omega
  have w0 : IntKind.i64.wrap 0 = 0 := by rw [IntKind.wrap_i64]; omega
  have n1 : ¬ ((m : Int) < 0) := by omega
  have n2 : ¬ ((281474976710656 : Int) < (m : Int) * (i.bytes : Int)) := by
    have : ((m * i.bytes : Nat) : Int) ≤ 140737488355328 := by omega
    rw [Int.natCast_mul] at this; omega
  refine ⟨?_, ?_, ?_⟩
  · intro b off n c hroom hc hf h1
    have hst := run_storeCells_cells (P := P) b (off + n * i.size) (Builtin.zeroCells z.cells m).toList 0 w (by simpa using hc) (by simpa using hf) h1
    simp only [Nat.add_zero] at hst
    by_cases h0 : m * i.size = 0
    · have he : Builtin.zeroCells z.cells m = #[] := Array.eq_empty_of_size_eq_zero (by rw [size_zeroCells, hzs, h0])
      rw [he] at hst ⊢
      simp at hst
      rcases Nat.mul_eq_zero.1 h0 with h2 | h2
      · subst h2
        have hroom' : n ≤ c := by omega
        simp [Builtin.append_, run_underlying ht, run_underlying htx, sizeOf, typeInfo, hi, asInt, asIntOf, w0, hroom', Addr.add_lit, storeCells, World.setCells]
      · simp [Builtin.append_, run_underlying ht, run_underlying htx, sizeOf, typeInfo, hi, asInt, asIntOf, wm, n1, n2, hroom, Addr.add_lit, h2, storeCells, World.setCells]
    · simp [Builtin.append_, run_underlying ht, run_underlying htx, sizeOf, typeInfo, zeroValue, hi, hz, asInt, asIntOf, wm, n1, n2, hroom, Addr.add_lit, h0, hst]
  · intro h0 A n c hle
    subst h0
    cases A <;> simp [Builtin.append_, run_underlying ht, run_underlying htx, sizeOf, typeInfo, hi, asInt, asIntOf, w0, hle, storeCells]
  · intro A n c olds hold hg h63 hfit
    have hn : ¬ (n + m ≤ c) := by omega
    have h63' : ¬ (9223372036854775807 < ((n : Int) + (m : Int))) := by omega
    have h48' : ¬ (281474976710656 < Builtin.nextslicecap (n + m) c * i.bytes) := by omega
    by_cases h0 : m * i.size = 0
    · have he : Builtin.zeroCells z.cells m = #[] := Array.eq_empty_of_size_eq_zero (by rw [size_zeroCells, hzs, h0])
      rw [he]
      rcases Nat.mul_eq_zero.1 h0 with h2 | h2
      · subst h2
        simp [Builtin.append_, run_underlying ht, run_underlying htx, sizeOf, typeInfo, zeroValue, hi, hz, asInt, asIntOf, w0, show ¬ n ≤ c by omega, show ¬ (281474976710656 < Builtin.nextslicecap n c * i.bytes) by simpa using h48', show ¬ (9223372036854775807 < (n : Int)) by omega, Question.forced, hold, newRow, grownCap]
      · simp [h2] at hold
        simp [Builtin.append_, run_underlying ht, run_underlying htx, sizeOf, typeInfo, zeroValue, hi, hz, asInt, asIntOf, wm, n1, n2, hn, h63', h48', Question.forced, h2, hold, newRow, grownCap]
    · simp [Builtin.append_, run_underlying ht, run_underlying htx, sizeOf, typeInfo, zeroValue, hi, hz, asInt, asIntOf, wm, n1, n2, hn, h63', h48', Question.forced, hold, newRow, grownCap, h0]
      congr 2
      apply Array.ext'
      simp [List.append_assoc]

theorem shape_size {e : TypeId} {sh : Option Nat} {i : TypeInfo} (h : shapeOf P e = some sh) (hi : P.info? e = some i) : i.size = width sh := by
  obtain ⟨j, hj, hs⟩ := shape_info h
  rw [hi] at hj; cases hj; exact hs

set_option maxHeartbeats 1000000 in
theorem eff_sound (hw : Wf g w) (hr : RelR g w R) (hF : RelF N g w fr a.tmps) {e : Eff} (ho : EffOp P fr o e) {Y : V → List Res → Prop} (h : e.W R Y) :
    ∃ v u g' w' R', (execOp a.eval o).run P w = .ok (.value u) w' ∧ After g w R g' w' R' ∧ RelV g' w' v u ∧ Y v R' := by
  have args2 : ∀ {args : Array Operand} {s y : Operand}, args.toList = [s, y] → args.map a.eval = #[a.eval s, a.eval y] := by
    intro args s y h; apply Array.ext'; simp [h]
  have ats2 : ∀ {ats : Array TypeId} {t tx : TypeId}, ats.toList = [t, tx] → ats = #[t, tx] := by
    intro ats t tx h; apply Array.ext'; simp [h]
  cases e with
  | app sh by_ x ys =>
    obtain ⟨src, hsrc, hok, hA⟩ := h
    obtain ⟨args, ats, t, tx, e, i, s, y, hop, hts, has, ht, hsh, hi, rfl, hby, hz, hs1, hy⟩ := ho
    have hsz := shape_size hsh hi
    obtain ⟨z, hz1, hz2⟩ := Option.map_eq_some_iff.1 hz
    have hap : Nonempty (Appended P g w sh i.size tx (a.eval y) ys) := by
      have hv := ev_rel hF y
      rcases hy with ⟨e', tok, h1, h2⟩ | ⟨e', sh', tok, h1, h2, rfl⟩
      · rw [h2] at hv; exact appended_slice hsz h1 hv hok
      · rw [h2] at hv; exact appended_nil h1 hv
    obtain ⟨⟨news, aps, apr⟩⟩ := hap
    have hnl : news.length = ys.length * width sh := by rw [aps.newsLen, hsz]
    have hl := hsrc.rel (row_cells apr hok hnl fun _ _ => rfl)
    obtain ⟨v, u, g', w', R', h1, h2, h3, h4⟩ := e_app (P := P) (run := fun s => Builtin.append_ #[t, tx] o.type #[s, a.eval y]) (m := ys.length) (z := z.cells) (e := e) hw hr
      (fun b off n c hroom hc hf => by
        have := run_append_room_src w t tx o.type e i ht hi b off n c (a.eval y) ys.length news aps hroom (by rw [hsz]; exact hc) (by rw [hsz]; exact hf)
        rw [hsz] at this; exact this)
      (fun h0 A n c hle => run_append_nothing w t tx o.type e i ht hi A n c hle (a.eval y) (by
        have hn : news = [] := List.eq_nil_of_length_eq_zero (by rw [hnl, h0]; simp)
        have := aps
        rw [hn, h0] at this; exact this))
      (fun A n c olds hold hg hle => run_append_grow_src w t tx o.type e i z ht hi hz1 A n c olds (by rw [hsz]; exact hold) (a.eval y) ys.length news aps hg (by
        have := Nat.le_mul_of_pos_right (n + ys.length) hby
        omega) (growslice_fits (by omega) hle))
      (by rw [hz2, hsz]) hl (by rw [hsrc.length, rowC_length hok]) aps.one (hs1 ▸ ev_rel hF s) hA
    refine ⟨v, u, g', w', R', ?_, h2, h3, h4⟩
    simp [execOp, hop, resolve, invoke, builtin, args2 has, ats2 hts, h1]
  | appL sh by_ x b o' n =>
    obtain ⟨j, cs, src, hR, hfit, rfl, hone, hA⟩ := h
    obtain ⟨args, ats, t, tx, e, e', i, s, y, cap, hop, hts, has, ht, hsh, hi, rfl, hby, hz, hs1, htx, hy⟩ := ho
    have hsz := shape_size hsh hi
    obtain ⟨z, hz1, hz2⟩ := Option.map_eq_some_iff.1 hz
    have hv := ev_rel hF y
    rw [hy] at hv
    simp only [RelV] at hv
    obtain ⟨A', hye, hnc, hA'⟩ := hv
    obtain ⟨news, hl, hln, hcells⟩ := part_src (P := P) hr (A := A') (cap := cap) (n := n) hR hfit (by
      rcases hA' with h0 | h0
      · left; have : n = 0 := by omega
        rw [this]; simp
      · exact .inr h0)
    have hsrc : Src P i.size tx (a.eval y) n news w := by
      refine ⟨.inl ⟨e', htx⟩, fun w' => by rw [hye]; rfl, ?_, ?_, by rw [hln, hsz], one_of_rel hl hone⟩
      · rw [hye, hsz]; exact hcells w rfl _ rfl
      · rw [hye, hsz]; exact hcells w.drew rfl _ rfl
    obtain ⟨v, u, g', w', R', h1, h2, h3, h4⟩ := e_app (P := P) (run := fun s => Builtin.append_ #[t, tx] o.type #[s, a.eval y]) (m := n) (z := z.cells) (e := e) hw hr
      (fun b off n' c hroom hc hf => by
        have := run_append_room_src w t tx o.type e i ht hi b off n' c (a.eval y) n news hsrc hroom (by rw [hsz]; exact hc) (by rw [hsz]; exact hf)
        rw [hsz] at this; exact this)
      (fun h0 A n' c hle => run_append_nothing w t tx o.type e i ht hi A n' c hle (a.eval y) (by
        have hn : news = [] := List.eq_nil_of_length_eq_zero (by rw [hln, h0]; simp)
        have := hsrc
        rw [hn, h0] at this; exact this))
      (fun A n' c olds hold hg hle => run_append_grow_src w t tx o.type e i z ht hi hz1 A n' c olds (by rw [hsz]; exact hold) (a.eval y) n news hsrc hg (by
        have := Nat.le_mul_of_pos_right (n' + n) hby
        omega) (growslice_fits (by omega) hle))
      (by rw [hz2, hsz]) hl (by simp; omega) (one_of_rel hl hone) (hs1 ▸ ev_rel hF s) hA
    refine ⟨v, u, g', w', R', ?_, h2, h3, h4⟩
    simp [execOp, hop, resolve, invoke, builtin, args2 has, ats2 hts, h1]
  | appZ sh by_ x zs m =>
    obtain ⟨h0, hm, hone, hA⟩ := h
    obtain ⟨args, ats, t, tx, e, k, k', i, z, s, y, hop, hts, has, ht, hsh, hi, rfl, hby, hz, hzi, hzs, hzl, hs1, htx, hy⟩ := ho
    have hsz := shape_size hsh hi
    have hv := ev_rel hF y
    rw [hy] at hv
    simp only [RelV] at hv
    obtain ⟨m, rfl⟩ : ∃ k : Nat, m = k := ⟨m.toNat, by omega⟩
    simp only [Int.toNat_natCast] at hA
    have hzr : RelL g w zs z.cells.toList := relL_cells (ofC_rel g w z) hzs
    have hl := rel_zeros hzr m
    have hone' := one_of_rel hl (flat_mem (n := m) hone)
    have hsl : (List.replicate m zs).flatten.length = m * width sh := flat_length hzl
    have hmb : m * i.bytes ≤ 140737488355328 := by
      have : ((m * i.bytes : Nat) : Int) ≤ 140737488355328 := by rw [Int.natCast_mul]; exact hm
      omega
    have hm' : m ≤ 140737488355328 := Nat.le_trans (Nat.le_mul_of_pos_right m hby) hmb
    · obtain ⟨r1, r2, r3⟩ := run_appZ (P := P) (w := w) (ty := o.type) (k' := k') ht hi hz hzi htx hm' hmb
      obtain ⟨v, u, g', w', R', h1, h2, h3, h4⟩ := e_app (P := P) (run := fun s => Builtin.append_ #[t, tx] o.type #[s, a.eval y]) (m := m) (z := z.cells) (e := e) hw hr
        (fun b off n c hroom hc hf => by
          have := r1 b off n c hroom (by rw [hsz]; exact hc) (by rw [hsz]; exact hf) hone'
          rw [hv, ← hsz]; exact this)
        (fun h0 A n c hle => by rw [hv]; exact r2 h0 A n c hle)
        (fun A n c olds hold hg hle => by
          rw [hv]
          refine r3 A n c olds (by rw [hsz]; exact hold) hg ?_ (growslice_fits (by omega) hle)
          have := Nat.le_mul_of_pos_right (n + m) hby
          omega)
        (by rw [hzi, hsz]) hl hsl hone' (hs1 ▸ ev_rel hF s) hA
      refine ⟨v, u, g', w', R', ?_, h2, h3, h4⟩
      simp [execOp, hop, resolve, invoke, builtin, args2 has, ats2 hts, h1]
  | copy sh b o' n ys =>
    obtain ⟨i, cs, src, hsrc, hok, hR, hfit, hY⟩ := h
    obtain ⟨args, ats, t, tx, e, e', s, y, cap, hop, hts, has, ht, hsh, htx, hs1, hy⟩ := ho
    obtain ⟨ii, hi, hsz⟩ := shape_info hsh
    have hv := ev_rel hF s
    rw [hs1] at hv
    simp only [RelV] at hv
    obtain ⟨A, hse, hnc, hA⟩ := hv
    have hy' : ∃ (A2 : Option Addr) (c2 : Nat) (news : List Value), a.eval y = .slice A2 ys.length c2 ∧ (Builtin.firstCells ii.size (min ys.length n) (.slice A2 ys.length c2)).run P w = .ok news.toArray w ∧ RelL g w (rowC sh (ys.take n)) news := by
      have hv := ev_rel hF y
      have key : ∃ sh2 tok, RelV g w (.sl sh2 ys tok) (a.eval y) ∧ (ys = [] ∨ sh2 = sh) := by
        rcases hy with ⟨tok, h1⟩ | ⟨sh', tok, h1, rfl⟩
        · exact ⟨sh, tok, h1 ▸ hv, .inr rfl⟩
        · exact ⟨sh', tok, h1 ▸ hv, .inl rfl⟩
      obtain ⟨sh2, tok, hv, hk⟩ := key
      simp only [RelV] at hv
      obtain ⟨A2, n2, c2, he, hn2, hc2, _, hrow⟩ := hv
      subst hn2
      by_cases h0 : ys = []
      · subst h0
        refine ⟨A2, c2, [], he, ?_, by cases sh <;> simp [rowC, RelL]⟩
        cases A2 <;> simp [Builtin.firstCells, loadCells, loadCellsFrom]
      · have hk' := hk.resolve_left h0
        subst hk'
        obtain ⟨b2, q2, rfl, hle2, hrow⟩ := hrow.resolve_left h0
        obtain ⟨all, hal, hac⟩ := relXs_cells hrow
        have hall := row_cells hrow hok hal hac
        have htk : rowC sh2 (ys.take n) = (rowC sh2 ys).take (min ys.length n * width sh2) := by
          have h1 : rowC sh2 ys = rowC sh2 (ys.take n) ++ rowC sh2 (ys.drop n) := by
            cases sh2
            · simp [rowC]
            · simp only [rowC, ← List.flatMap_append, List.take_append_drop]
          have h2 : (rowC sh2 (ys.take n)).length = min ys.length n * width sh2 := by
            rw [rowC_length (fun y hy => hok y (List.mem_of_mem_take hy)), List.length_take, Nat.min_comm]
          rw [h1, ← h2, List.take_left]
        refine ⟨_, c2, all.take (min ys.length n * width sh2), he, ?_, by rw [htk]; exact relL_take hall _⟩
        have hmin : min ys.length n * width sh2 ≤ ys.length * width sh2 := Nat.mul_le_mul_right _ (Nat.min_le_left _ _)
        have := run_firstCells_some (P := P) w (width sh2) (min ys.length n) ⟨b2, q2, none⟩ ys.length c2 (all.take (min ys.length n * width sh2)) (by rw [List.length_take, hal]; omega) (fun j v hj => by
          rw [Addr.add_lit]
          rw [List.getElem?_take] at hj
          split at hj
          · have := hac j (by omega)
            simp only [cell] at this
            rw [this]; exact hj
          · cases hj)
        rw [hsz]; exact this
    obtain ⟨A2, c2, news, hye, hcells, hnews⟩ := hy'
    have hl := hsrc.rel hnews
    have hone : ∀ u ∈ news, u.oneCell' = true := one_of_rel hnews (by
      intro v hv
      cases sh with
      | none => exact hok v (List.mem_of_mem_take hv)
      | some k =>
        simp only [rowC, List.mem_flatMap] at hv
        obtain ⟨y, hy1, hy2⟩ := hv
        obtain ⟨ds, rfl, _, hds⟩ := hok y (List.mem_of_mem_take hy1)
        exact hds v hy2)
    have hsl : src.length = min n ys.length * width sh := by
      rw [hsrc.length, rowC_length (fun y hy => hok y (List.mem_of_mem_take hy)), List.length_take]
    have hmn : min n ys.length * width sh ≤ n * width sh := Nat.mul_le_mul_right _ (Nat.min_le_left _ _)
    obtain ⟨p1, p2, p3⟩ := e_put hw hr (o := o') hR hl hone (by omega)
    have hst := run_storeCells_cells (P := P) b o' news 0 w (by simpa using p2) (by simpa using p3) hone
    simp only [Nat.add_zero] at hst
    have hfin : ∀ w2, (A = none ∧ w2 = w) ∨ (∃ ad, A = some ad ∧ (storeCells ad news).run P w = .ok () w2) → (execOp a.eval o).run P w = .ok (.value (.int .i64 (min ys.length n : Nat))) w2 := by
      intro w2 hw2
      have := run_copy (P := P) (sT := tx) (ty := o.type) (cap := cap) (m := ys.length) (n := n) (src := a.eval y) (w := w) ht hi (by rw [hye]; rfl) (by rw [hye]; exact hcells) hw2
      simp [execOp, hop, resolve, invoke, builtin, args2 has, ats2 hts, hse, this]
    by_cases hnil : news = []
    · subst hnil
      have hs0 : src = [] := by simpa [RelL] using (relL_length hl).symm
      subst hs0
      rw [splice_nil, set_self hR] at hY
      refine ⟨_, _, g, w, _, hfin w ?_, After.refl hw hr, by simp only [RelV], hY⟩
      cases A with
      | none => exact .inl ⟨rfl, rfl⟩
      | some ad => exact .inr ⟨ad, rfl, rfl⟩
    · have hcap : cap ≠ 0 := by
        rintro rfl
        have h1 : src = [] := List.eq_nil_of_length_eq_zero (by rw [hsl]; have : n = 0 := by omega
                                                                subst this; simp)
        have := relL_length hl
        rw [h1] at this
        exact hnil (List.eq_nil_of_length_eq_zero this)
      have hA' : A = some ⟨b, o', none⟩ := hA.resolve_left hcap
      exact ⟨_, _, g, _, _, hfin _ (.inr ⟨_, hA', hst⟩), p1, by simp only [RelV], hY⟩
  | copyL sh b o' n b' o2 n' =>
    obtain ⟨i, j, cs, cs', src, hR, hR', hfit, hfit', hsrc, hone, hY⟩ := h
    obtain ⟨args, ats, t, tx, e, e', s, y, cap, cap', hop, hts, has, ht, hsh, htx, hs1, hy⟩ := ho
    obtain ⟨ii, hi, hsz⟩ := shape_info hsh
    have hv := ev_rel hF s
    rw [hs1] at hv
    simp only [RelV] at hv
    obtain ⟨A, hse, hnc, hA⟩ := hv
    have hv := ev_rel hF y
    rw [hy] at hv
    simp only [RelV] at hv
    obtain ⟨A2, hye, hnc2, hA2⟩ := hv
    have hm1 : min n' n * width sh ≤ n' * width sh := Nat.mul_le_mul_right _ (Nat.min_le_left _ _)
    have hm2 : min n' n * width sh ≤ n * width sh := Nat.mul_le_mul_right _ (Nat.min_le_right _ _)
    obtain ⟨news, hl, hln, hcells⟩ := part_src (P := P) hr (A := A2) (cap := cap') (o' := o2) (n := min n' n) (k := min n' n * width sh) hR' (by omega) (by
      rcases hA2 with h0 | h0
      · left; have : min n' n = 0 := by omega
        rw [this]; simp
      · exact .inr h0)
    rw [← hsrc] at hl
    have hcells' : (Builtin.firstCells ii.size (min n' n) (.slice A2 n' cap')).run P w = .ok news.toArray w := by
      have := hcells w rfl ii.size (by rw [hsz])
      rw [← this]; cases A2 <;> rfl
    have hone' := one_of_rel hl hone
    have hsl : src.length = min n' n * width sh := by rw [hsrc]; simp; omega
    obtain ⟨p1, p2, p3⟩ := e_put hw hr (o := o') hR hl hone' (by omega)
    have hst := run_storeCells_cells (P := P) b o' news 0 w (by simpa using p2) (by simpa using p3) hone'
    simp only [Nat.add_zero] at hst
    have hfin : ∀ w2, (A = none ∧ w2 = w) ∨ (∃ ad, A = some ad ∧ (storeCells ad news).run P w = .ok () w2) → (execOp a.eval o).run P w = .ok (.value (.int .i64 (min n' n : Nat))) w2 := by
      intro w2 hw2
      have := run_copy (P := P) (sT := tx) (ty := o.type) (cap := cap) (m := n') (n := n) (src := a.eval y) (w := w) ht hi (by rw [hye]; rfl) (by rw [hye]; exact hcells') hw2
      simp [execOp, hop, resolve, invoke, builtin, args2 has, ats2 hts, hse, this]
    by_cases hnil : news = []
    · subst hnil
      have hs0 : src = [] := List.eq_nil_of_length_eq_zero (by simpa using (relL_length hl).symm)
      rw [hs0, splice_nil, set_self hR] at hY
      refine ⟨_, _, g, w, _, hfin w ?_, After.refl hw hr, by simp only [RelV], hY⟩
      cases A with
      | none => exact .inl ⟨rfl, rfl⟩
      | some ad => exact .inr ⟨ad, rfl, rfl⟩
    · have hcap : cap ≠ 0 := by
        rintro rfl
        have h1 : min n' n = 0 := by omega
        rw [h1] at hln
        exact hnil (List.eq_nil_of_length_eq_zero (by simpa using hln))
      have hA' : A = some ⟨b, o', none⟩ := hA.resolve_left hcap
      exact ⟨_, _, g, _, _, hfin _ (.inr ⟨_, hA', hst⟩), p1, by simp only [RelV], hY⟩
  | clear sh b o' n zs =>
    obtain ⟨i, cs, hR, hfit, hone, hY⟩ := h
    obtain ⟨args, ats, t, e, ii, z, s, cap, hop, hts, has, ht, hsh, hi, hz, hzs, hzl, hs1⟩ := ho
    have hv := ev_rel hF s
    rw [hs1] at hv
    simp only [RelV] at hv
    obtain ⟨A, hse, hnc, hA⟩ := hv
    have hzr : RelL g w zs z.cells.toList := relL_cells (ofC_rel g w z) hzs
    have hl := rel_zeros hzr n
    have hone' := one_of_rel hl (flat_mem (n := n) hone)
    have hsl : (List.replicate n zs).flatten.length = n * width sh := flat_length hzl
    obtain ⟨p1, p2, p3⟩ := e_put hw hr (o := o') hR hl hone' (by omega)
    have hst := run_storeCells_cells (P := P) b o' _ 0 w (by simpa using p2) (by simpa using p3) hone'
    simp only [Nat.add_zero] at hst
    have ha1 : args.map a.eval = #[a.eval s] := by apply Array.ext'; simp [has]
    have hat1 : ats = #[t] := by apply Array.ext'; simp [hts]
    have hfin : ∀ w2, (A = none ∧ w2 = w) ∨ (n = 0 ∧ w2 = w) ∨ (∃ ad, A = some ad ∧ n ≠ 0 ∧ (storeCells ad (Builtin.zeroCells z.cells n).toList).run P w = .ok () w2) → (execOp a.eval o).run P w = .ok (.value (.tuple #[])) w2 := by
      intro w2 hw2
      have := run_clear (P := P) (ty := o.type) (cap := cap) ht hi hz hw2
      simp [execOp, hop, resolve, invoke, builtin, ha1, hat1, hse, this]
    have htup : RelV g w (.tup []) (.tuple #[]) := by simp only [RelV]; exact ⟨#[], rfl, by simp [RelL]⟩
    by_cases h0 : n = 0
    · subst h0
      simp only [List.replicate_zero, List.flatten_nil] at hY
      rw [splice_nil, set_self hR] at hY
      exact ⟨_, _, g, w, _, hfin w (.inr (.inl ⟨rfl, rfl⟩)), After.refl hw hr, htup, hY⟩
    · have hA' : A = some ⟨b, o', none⟩ := by rcases hA with h | h; omega; exact h
      exact ⟨_, _, g, _, _, hfin _ (.inr (.inr ⟨_, hA', h0, hst⟩)), p1, RelV.mono p1.ext.toPre _ _ htup, hY⟩
  | make sh by_ zs n c =>
    obtain ⟨h0, hnc, hb, hY⟩ := h
    obtain ⟨t, ln, cp, e, i, z, k, k', hop, ht, hsh, hi, rfl, hby, hz, hzi, hzs, hzl, hln, hcp⟩ := ho
    have hsz := shape_size hsh hi
    have hv1 := ev_rel hF ln
    have hv2 := ev_rel hF cp
    rw [hln] at hv1; rw [hcp] at hv2
    simp only [RelV] at hv1 hv2
    obtain ⟨n, rfl⟩ : ∃ m : Nat, n = m := ⟨n.toNat, by omega⟩
    obtain ⟨c, rfl⟩ : ∃ m : Nat, c = m := ⟨c.toNat, by omega⟩
    have hzr : RelL g w zs z.cells.toList := relL_cells (ofC_rel g w z) hzs
    have hl := rel_zeros hzr c
    have hrun := run_make (P := P) w t e i z ht hi hz k k' n c h0 hnc (by rw [Int.mul_comm]; omega) (by
      have : (c : Int) ≤ (c : Int) * (i.bytes : Int) := by
        have := Nat.le_mul_of_pos_right c hby
        rw [← Int.natCast_mul]; omega
      omega)
    simp only [Int.toNat_natCast] at hrun hY
    rw [made_zero hzi] at hrun
    have hA := e_fresh (w1 := w) (e := e) hw rfl rfl rfl rfl hl
    refine ⟨_, .slice (some ⟨w.heap.size, 0, none⟩) n c, g, _, _, ?_, after_more hr hA, ?_, hY w.heap.size⟩
    · simp only [execOp, hop, hv1, hv2]
      exact run_v hrun
    · simp only [RelV]
      exact ⟨_, rfl, by omega, .inr rfl⟩
  | bytes s =>
    obtain ⟨src, dst, e, i, x, hop, hs, hd, he, hi, hb1, hs1, hx⟩ := ho
    have hv := ev_rel hF x
    rw [hx] at hv
    simp only [RelV] at hv
    have hrun := Lib.run_convert_string_bytes (P := P) w src dst e s hs hd he
    have hge := grownCap_ge w s.size 0 e
    have hbs : (Lib.bytesCells w e s).size = grownCap w s.size 0 e := by
      simp only [Lib.bytesCells, Array.size_append, Array.size_map, Array.size_replicate]
      have : s.data.size = s.size := rfl
      omega
    have hrel : RelL g w ((s.data.toList.map fun b => V.c (.int .u8 b.toNat)) ++ List.replicate (grownCap w s.size 0 e - s.size) .undef) (Lib.bytesCells w e s).toList := by
      simp only [Lib.bytesCells, Array.toList_append, Array.toList_map, Array.toList_replicate]
      refine relL_append (relL_map _ _ _ fun b _ => by simp only [RelV]) ?_
      have := relL_undef (g := g) (w := w) (xs := List.replicate (grownCap w s.size 0 e - s.size) (Value.int .u8 0))
      simpa using this
    have hcell : ∀ bb oo, bb < w.heap.size → cell (Lib.bytesWorld w e s) bb oo = cell w bb oo := fun bb oo hbb => Lib.bytesWorld_old w e s ⟨bb, oo, none⟩ hbb
    have hpre : Pre g w g (Lib.bytesWorld w e s) := ⟨fun _ => Nat.le_refl _, fun bb oo ho => hcell bb oo (by
      rcases Nat.lt_or_ge bb w.heap.size with h1 | h1
      · exact h1
      · rw [hw.cm bb h1] at ho; omega), Nat.le_refl _, fun _ _ => rfl⟩
    have hA : After g w [] g (Lib.bytesWorld w e s) [.obj w.heap.size ((s.data.toList.map fun b => V.c (.int .u8 b.toNat)) ++ List.replicate (grownCap w s.size 0 e - s.size) .undef)] := by
      refine ⟨{ hpre with os := rfl, tape := rfl, output := rfl, size := by rw [Lib.bytesWorld_size]; omega, frame := fun bb hbb _ => Lib.bytesWorld_at_old w e s bb hbb, cmeq := fun _ _ _ => rfl, wf := ⟨fun bb hbb => hw.cm bb (by rw [Lib.bytesWorld_size] at hbb; omega), fun bb oo ho => ?_, hpre.st hw⟩ }, ⟨?_, nodup_obj⟩, fun c hc => .inr (by rw [mem_obj hc]; omega)⟩
      · have h2 : bb < w.heap.size := by
          rcases Nat.lt_or_ge bb w.heap.size with h1 | h1
          · exact h1
          · rw [hw.cm bb h1] at ho; omega
        rw [hcell bb oo h2]; exact hw.ex bb oo ho
      · intro r hr'
        simp only [List.mem_singleton] at hr'; subst hr'
        exact .inr ⟨_, e, _, Lib.bytesWorld_at_new w e s, fun i hi h => by simp only at h; omega, RelL.mono hpre _ _ hrel, hw.cm _ (Nat.le_refl _)⟩
    refine ⟨_, .slice (some ⟨w.heap.size, 0, none⟩) s.size (grownCap w s.size 0 e), g, _, _, ?_, after_more hr hA, ?_, h w.heap.size (grownCap w s.size 0 e) _ (by simp; omega)⟩
    · simp only [execOp, hop, hv]
      exact run_v hrun
    · simp only [RelV]
      exact ⟨_, rfl, hge, .inr rfl⟩
  | str b o' n =>
    obtain ⟨j, cs, l, hR, hle, hln, hY⟩ := h
    obtain ⟨src, dst, e, x, cap, hop, hs, hd, he, hx⟩ := ho
    have hv := ev_rel hF x
    rw [hx] at hv
    simp only [RelV] at hv
    obtain ⟨A, hxe, hnc, hA⟩ := hv
    refine ⟨_, .string ⟨l.toArray⟩, g, w, _, ?_, After.refl hw hr, by simp only [RelV], hY⟩
    simp only [execOp, hop, hxe]
    refine run_v ?_
    by_cases h0 : n = 0
    · subst h0
      have : l = [] := List.eq_nil_of_length_eq_zero hln
      subst this
      rw [run_convert_bytes_string w src dst e _ 0 cap hs he hd]
      cases A <;> simp [Conv.bytesToString, loadCells, loadCellsFrom]
      all_goals rfl
    · have hA' : A = some ⟨b, o', none⟩ := hA.resolve_left (by omega)
      subst hA'
      have hlen := hle.length
      simp at hlen
      have hn : cs ≠ [] := by
        rintro rfl
        simp at hlen
        rw [hlen] at hln; simp at hln; omega
      obtain ⟨vals, e', fz, hh, hz', hlv, hcm⟩ := obj_cons hn (hr.all _ (List.mem_of_getElem? hR))
      have hlv2 := relL_length hlv
      simp at hlv2
      have hpart := hle.rel (relL_take (relL_drop hlv o') n)
      have := run_convert_bytes_arg (P := P) w src e hs he b o' n cap (l.map fun b => ((b.toNat : Nat) : Int)) (by simp [hln]) (fun i hi => by
        have hi' : i < l.length := by omega
        obtain ⟨y, hy, hrel⟩ := relL_get hpart (i := i) (v := V.c (.int .u8 (l[i]).toNat)) (by simp [hi'])
        simp only [RelV] at hrel
        subst hrel
        rw [List.getElem?_take, if_pos (by omega), List.getElem?_drop] at hy
        simp only [World.cell?, hh]
        rw [List.getD_eq_getElem?_getD, List.getElem?_map, List.getElem?_eq_getElem hi']
        simpa using hy) dst hd
      rw [this]
      congr 2
      simp [strOfNums, List.map_map, Function.comp_def]
  | isNil eq n =>
    obtain ⟨t, x, ty, e, sh, b, o', cap, hop, ht, hx⟩ := ho
    have hv := ev_rel hF x
    rw [hx] at hv
    simp only [RelV] at hv
    obtain ⟨A, hxe, hnc, hA⟩ := hv
    refine ⟨_, .bool (bif eq then A.isNone else !A.isNone), g, w, _, ?_, After.refl hw hr, by simp only [RelV], h A.isNone fun hb => ?_⟩
    · cases eq
      · have := Go.run_neq_slice_nil_any (P := P) w t e A n cap 0 0 ht
        simp only [execOp, hop, hxe, Bool.false_eq_true, if_false, cond_false]
        refine run_v ?_
        have hg : (eqGuard .neq t x (.const (.slice none 0 0)) (.slice A n cap) (.slice none 0 0)).run P w = .ok () w := rfl
        simp only [Sem.run_bind]
        show Result.andThen (Sem.run P (eqGuard .neq t x (.const (.slice none 0 0)) (.slice A n cap) (.slice none 0 0)) w) _ = _
        rw [hg]; exact this
      · have : (binOp .eql t (.slice A n cap) (.slice none 0 0)).run P w = .ok (.bool A.isNone) w := by
          simp only [binOp]
          simp [Op.equal, Op.maxDepth, Lib.run_equalIn_slice_nil w 9999 t e A n cap 0 0 ht]
        simp only [execOp, hop, hxe, if_true, cond_true]
        refine run_v ?_
        have hg : (eqGuard .eql t x (.const (.slice none 0 0)) (.slice A n cap) (.slice none 0 0)).run P w = .ok () w := rfl
        simp only [Sem.run_bind]
        show Result.andThen (Sem.run P (eqGuard .eql t x (.const (.slice none 0 0)) (.slice A n cap) (.slice none 0 0)) w) _ = _
        rw [hg]; exact this
    · rcases hA with h | h
      · omega
      · rw [h] at hb; cases hb

end
end Go.Sv
