/- Operations that change nothing that was there. -/
import Derived.Test.YtdkbdmfhidimmaaDoorSvOps
import Derived.Lib.ConvBytes
import Derived.Laws.IdiomStrings
import Derived.Laws.BytesArg
namespace Go.Sv
open Go

def OpR.gives : OpR → V → Prop
  | .val u, v => u = v
  | .need p u, v => p ∧ u = v
  | .elem sh xs n, v => (0 ≤ n ∧ n < xs.length) ∧ .pt sh (xs.getD n.toNat .undef) 0 = v
  | _, _ => False

section
variable {P : Program} {g : Gh} {w : World}

theorem run_v {s : Sem Value} {x : Value} {w' : World} (h : s.run P w = .ok x w') : (do pure (.value (← s)) : Sem Next).run P w = .ok (.value x) w' := by
  simp [h]

/-- What fits has so many cells, and is read off them. -/
theorem fits_cells {sh : Option Nat} {v : V} {x : Value} (hf : fitsB sh v = true) (hv : RelV g w v x) : x.cells.size = width sh ∧ RelE g w sh v (fun i => x.cells[i]?) := by
  have one : (∀ l, x ≠ .agg l) → sh = none → x.cells.size = width sh ∧ RelE g w sh v (fun i => x.cells[i]?) := by
    intro hn e; subst e
    have : x.cells = #[x] := by
      unfold Value.cells
      split
      · rename_i l; exact absurd rfl (hn l)
      · rfl
    rw [this]
    exact ⟨rfl, x, rfl, hv⟩
  have many : ∀ k l, sh = some k → x = .agg l → l.size = k → x.cells.size = width sh ∧ RelE g w sh v (fun i => x.cells[i]?) := by
    intro k l e hx hl; subst e; subst hx
    exact ⟨hl, l, hl, fun _ _ => rfl, hv⟩
  cases sh with
  | none =>
    cases v with
    | agg cs => simp [fitsB] at hf
    | undef => simp [fitsB] at hf
    | c u =>
      have hx := hv
      simp only [RelV] at hx; subst hx
      refine one (fun l e => ?_) rfl
      subst e; simp [fitsB] at hf
    | sl sh xs tok => exact one (by simp only [RelV] at hv; obtain ⟨a, n, cap, rfl, _⟩ := hv; simp) rfl
    | lsl sh b o n cap => exact one (by simp only [RelV] at hv; obtain ⟨a, rfl, _⟩ := hv; simp) rfl
    | pt sh v off => exact one (by rw [relV_pt] at hv; obtain ⟨a, n, rfl, _⟩ := hv; simp) rfl
    | loc b off => exact one (by simp only [RelV] at hv; subst hv; simp) rfl
    | fn f a b => exact one (by simp only [RelV] at hv; obtain ⟨l, m, rfl, _⟩ := hv; simp) rfl
    | ifc t v => exact one (by simp only [RelV] at hv; obtain ⟨y, rfl, _⟩ := hv; simp) rfl
    | tup cs => exact one (by simp only [RelV] at hv; obtain ⟨y, rfl, _⟩ := hv; simp) rfl
  | some k =>
    cases v with
    | agg cs =>
      simp only [fitsB] at hf
      have hx := hv
      simp only [RelV] at hx
      obtain ⟨l, rfl, h⟩ := hx
      have := relL_length h
      exact many k l rfl rfl (by have := Nat.eq_of_beq_eq_true hf; simp at *; omega)
    | c u =>
      have hx := hv
      simp only [RelV] at hx; subst hx
      cases x <;> simp [fitsB] at hf
      rename_i l
      exact many k l rfl rfl hf
    | _ => simp [fitsB] at hf

theorem y_load {t : TypeId} {sh sh' : Option Nat} {v u : V} {off : Nat} {x : Value} (hsh : shapeOf P t = some sh) (hx : RelV g w (.pt sh' v off) x)
    (h : (sh = sh' ∧ off = 0 ∧ u = v) ∨ (∃ k cs, sh' = some k ∧ v = .agg cs ∧ partOf sh cs off = some u)) : ∃ y, (Instr.loadAt t x).run P w = .ok y w ∧ RelV g w u y := by
  obtain ⟨b, o, rfl, hle, he⟩ := relV_pt.1 hx
  rcases h with ⟨rfl, rfl, rfl⟩ | ⟨k, cs, rfl, rfl, hp⟩
  · obtain ⟨y, hy, hr⟩ := run_loadVar hsh (o := o) he
    exact ⟨y, by simpa [Instr.loadAt, Instr.sureAddr] using hy, hr⟩
  · have he' : RelE g w sh u (fun i => cell w b (o + off + i)) := by
      obtain ⟨l, hl, hc, hr⟩ := he
      simp only [RelV] at hr
      obtain ⟨l', hll, hr⟩ := hr
      cases hll
      refine relE_congr (relE_part hr hp) fun i hi => ?_
      have hlen := relL_length hr
      have : off + i < k := by
        cases sh with
        | none =>
          simp only [partOf] at hp
          have := (List.getElem?_eq_some_iff.1 hp).1
          simp [width] at hi; subst hi
          simp at hlen; omega
        | some m =>
          simp only [partOf] at hp
          split at hp
          · simp [width] at hi; simp at hlen; omega
          · cases hp
      rw [← hc (off + i) this, Nat.add_assoc]
    obtain ⟨y, hy, hr⟩ := run_loadVar hsh he'
    exact ⟨y, by simpa [Instr.loadAt, Instr.sureAddr] using hy, hr⟩

/-- A part of a struct's value. -/
theorem run_part {t : TypeId} {sh : Option Nat} (hsh : shapeOf P t = some sh) {cs : List V} {l : Array Value} {off : Nat} {u : V} (hl : RelL g w cs l.toList) (hp : partOf sh cs off = some u) :
    ∃ y, (part t l off).run P w = .ok y w ∧ RelV g w u y := by
  cases sh with
  | none =>
    simp only [partOf] at hp
    obtain ⟨x, hx, hr⟩ := relL_get hl hp
    refine ⟨x, ?_, hr⟩
    have hx' : l[off]? = some x := by simpa using hx
    simp [part, run_isAgg_none hsh, hx']
  | some k =>
    obtain ⟨i, hi, hs⟩ := shape_info hsh
    have he := relE_part hl hp
    obtain ⟨l', hl', hc, hr⟩ := he
    refine ⟨.agg l', ?_, hr⟩
    have hext : l.extract off (off + k) = l' := by
      simp only [partOf] at hp
      split at hp
      · rename_i hle
        have hlen := relL_length hl
        apply Array.ext
        · simp at hlen ⊢; omega
        · intro i h1 h2
          have := hc i (by omega)
          simp at h1
          dsimp only at this
          rw [Array.getElem?_eq_getElem (by omega), Array.getElem?_eq_getElem h2] at this
          simpa using this
      · cases hp
    simp [part, run_isAgg_some hsh, run_sizeOf' hi, hs, width, hext]

theorem y_box (hw : Wf g w) {t : TypeId} {sh : Option Nat} {v : V} {x : Value} (hf : fitsB sh v = true) (hv : RelV g w v x) : ∃ g' y, (Instr.box t x).run P w = .ok y (w.alloc (.cells x.cells t)) ∧ Ext [] g w g' (w.alloc (.cells x.cells t)) ∧ RelV g' (w.alloc (.cells x.cells t)) (ptr sh v) y := by
  obtain ⟨hs, he⟩ := fits_cells hf hv
  have hext := ext_alloc hw x.cells t (width sh) (by omega)
  refine ⟨_, .pointer (some ⟨w.heap.size, 0, none⟩), ?_, hext, ?_⟩
  · simp [Instr.box, newVar, newRow]
  · unfold ptr
    rw [relV_pt]
    refine ⟨w.heap.size, 0, rfl, by simp [Gh.with], ?_⟩
    refine RelE.mono hext.toPre (fun i hi => ?_) he
    rw [Nat.zero_add, cell_alloc_new]

/-- Cells written in, one behind the other. -/
theorem foldl_fill (vs : List Value) (off : Nat) : ∀ (k : Nat) (cells : Array Value), off + k + vs.length ≤ cells.size →
    ((vs.zipIdx k).foldl (fun cs (c, j) => cs.setIfInBounds (off + j) c) cells).toList = cells.toList.take (off + k) ++ vs ++ cells.toList.drop (off + k + vs.length) := by
  induction vs with
  | nil => intro k cells _; simp
  | cons v vs ih =>
    intro k cells h
    simp only [List.length_cons] at h
    simp only [List.zipIdx_cons, List.foldl_cons]
    rw [ih (k + 1) _ (by simp; omega)]
    apply List.ext_getElem?
    intro i
    simp only [Array.toList_setIfInBounds, List.length_cons]
    simp only [List.getElem?_append, List.length_append, List.length_take, List.length_set, Array.length_toList, List.length_cons, List.getElem?_take, List.getElem?_drop, List.getElem?_set, List.getElem?_cons]
    repeat' split
    all_goals first | rfl | omega | (congr 1; omega) | skip

theorem fill_one {place : Nat → Option (Nat × Nat)} {cells : Array Value} {i off n : Nat} {v : Value} {rest : List (Nat × Value)} (hp : place i = some (off, n)) (hv : v.cells.size = n) (hle : off + n ≤ cells.size) :
    ∃ cells', Instr.fill place cells ((i, v) :: rest) = Instr.fill place cells' rest ∧ cells'.toList = cells.toList.take off ++ v.cells.toList ++ cells.toList.drop (off + n) := by
  subst hv
  refine ⟨v.cells.zipIdx.foldl (fun cs (c, j) => cs.setIfInBounds (off + j) c) cells, ?_, ?_⟩
  · simp only [Instr.fill, hp]
    rw [if_neg (by simp; omega)]
  · have := foldl_fill v.cells.toList off 0 cells (by simp; omega)
    rw [← Array.foldl_toList]
    simp only [Array.toList_zipIdx, Array.length_toList, Nat.add_zero] at this ⊢
    exact this

theorem fillV_rel {place : Nat → Option (Nat × Nat)} : ∀ (partsV : List (Nat × V)) (parts : List (Nat × Value)) (cellsV cs : List V) (cells : Array Value),
    RelL g w cellsV cells.toList → parts.map (·.1) = partsV.map (·.1) → RelL g w (partsV.map (·.2)) (parts.map (·.2)) → fillV place cellsV partsV = some cs → ∃ cells', Instr.fill place cells parts = some cells' ∧ RelL g w cs cells'.toList
  | [], parts, cellsV, cs, cells, hc, hk, _, h => by
    simp [fillV] at h; subst h
    obtain rfl : parts = [] := by simpa using hk
    exact ⟨cells, rfl, hc⟩
  | (i, v) :: pv, [], _, _, _, _, hk, _, _ => by simp at hk
  | (i, v) :: pv, (j, x) :: ps, cellsV, cs, cells, hc, hk, hr, h => by
    simp only [List.map_cons, List.cons.injEq] at hk
    obtain ⟨rfl, hk⟩ := hk
    simp only [List.map_cons, RelL] at hr
    obtain ⟨x', xs', he, hv, hr⟩ := hr
    simp only [List.cons.injEq] at he
    obtain ⟨rfl, rfl⟩ := he
    simp only [fillV] at h
    cases hp : place j with
    | none => simp [hp] at h
    | some q =>
      obtain ⟨off, n⟩ := q
      simp only [hp] at h
      cases hcs : cellsO v with
      | none => simp [hcs] at h
      | some ds =>
        simp only [hcs] at h
        split at h
        · rename_i hl
          obtain ⟨h1, h2⟩ := hl
          have hd := relL_cells hv hcs
          have hlen := relL_length hd
          have hclen := relL_length hc
          obtain ⟨cells', hf, ht⟩ := fill_one (place := place) (cells := cells) (v := x) (rest := ps) hp (by simpa [h1] using hlen) (by simp at hclen; omega)
          rw [hf]
          refine fillV_rel pv ps _ cs cells' ?_ hk hr h
          rw [ht]
          exact relL_append (relL_append (relL_take hc off) hd) (relL_drop hc (off + n))
        · cases h

/-! ### A row written out -/
theorem fill_row (size : Nat) : ∀ (parts : List (Nat × Value)) (k : Nat) (cells : Array Value), parts.map (·.1) = List.range' k parts.length → (∀ p ∈ parts, p.2.cells.size = size) → cells.size = (k + parts.length) * size →
    ∃ cells', Instr.fill (fun i => some (i * size, size)) cells parts = some cells' ∧ cells'.toList = cells.toList.take (k * size) ++ parts.flatMap (fun p => p.2.cells.toList)
  | [], k, cells, _, _, hs => ⟨cells, rfl, by simp at hs; rw [← hs]; simp [← Array.length_toList]⟩
  | (i, v) :: ps, k, cells, hk, hp, hs => by
    simp only [List.map_cons, List.length_cons, List.range'_succ, List.cons.injEq] at hk
    obtain ⟨rfl, hk⟩ := hk
    have e1 : (i + (ps.length + 1)) * size = i * size + size + ps.length * size := by simp [Nat.add_mul]; omega
    simp only [List.length_cons] at hs
    have hv : v.cells.size = size := hp (i, v) (by simp)
    obtain ⟨cells1, hf, ht⟩ := fill_one (place := fun i => some (i * size, size)) (cells := cells) (i := i) (off := i * size) (rest := ps) rfl hv (by omega)
    have hl1 : cells1.size = cells.size := by
      have := congrArg List.length ht
      simp at this; omega
    obtain ⟨cells', hf', ht'⟩ := fill_row size ps (i + 1) cells1 hk (fun p hp' => hp p (by simp [hp'])) (by rw [hl1, hs]; congr 1; omega)
    refine ⟨cells', by rw [hf, hf'], ?_⟩
    rw [ht', ht]
    have e2 : (i + 1) * size = i * size + size := by simp [Nat.add_mul]
    have hv' : v.cells.toList.length = size := by simpa using hv
    simp only [List.flatMap_cons, ← List.append_assoc]
    congr 1
    rw [e2, List.append_assoc, List.take_append, List.take_append, List.length_take, Array.length_toList, hv']
    have : min (i * size) cells.size = i * size := by omega
    rw [this, List.take_take, show min (i * size + size) (i * size) = i * size from by omega, show i * size + size - i * size = size from by omega, show size - size = 0 from by omega, List.take_of_length_le (l := v.cells.toList) (i := size) (by omega)]
    simp

/-- Elements in a row, read off the cells that they were written to. -/
theorem relXs_row {sh : Option Nat} : ∀ {vs : List V} {xs : List Value}, vs.all (fitsB sh) = true → RelL g w vs xs → RelXs g w sh vs (fun i => (xs.flatMap fun x => x.cells.toList)[i]?)
  | [], _, _, _ => by simp [RelXs]
  | v :: vs, l, hf, h => by
    simp only [List.all_cons, Bool.and_eq_true] at hf
    simp only [RelL] at h
    obtain ⟨x, xs, rfl, h1, h2⟩ := h
    obtain ⟨hs, he⟩ := fits_cells hf.1 h1
    rw [relXs_cons]
    refine ⟨relE_congr he fun i hi => ?_, ?_⟩
    · simp only [List.flatMap_cons]
      rw [List.getElem?_append_left (by simp; omega)]
      simp
    · have := relXs_row hf.2 h2
      have e : (fun i => (List.flatMap (fun x => x.cells.toList) (x :: xs))[i + width sh]?) = (fun i => (xs.flatMap fun x => x.cells.toList)[i]?) := by
        funext i
        simp only [List.flatMap_cons]
        rw [List.getElem?_append_right (by simp; omega)]
        congr 1
        simp; omega
      rw [e]; exact this

theorem flatMap_length {sh : Option Nat} : ∀ {vs : List V} {xs : List Value}, vs.all (fitsB sh) = true → RelL g w vs xs → (xs.flatMap fun x => x.cells.toList).length = vs.length * width sh
  | [], _, _, h => by simp [RelL] at h; subst h; simp
  | v :: vs, l, hf, h => by
    simp only [List.all_cons, Bool.and_eq_true] at hf
    simp only [RelL] at h
    obtain ⟨x, xs, rfl, h1, h2⟩ := h
    have := flatMap_length hf.2 h2
    have hs := (fits_cells hf.1 h1).1
    simp only [List.flatMap_cons, List.length_append, this, List.length_cons, Nat.add_mul, Array.length_toList]
    omega

/-- 'buildSlice', all elements written out. -/
theorem run_buildSlice {t e : TypeId} {sh : Option Nat} {n : Nat} {parts : Array (Nat × Value)} {vs : List V} (ht : P.underlying t = some (.slice e)) (hsh : shapeOf P e = some sh)
    (hz : (P.info? e).any (fun i => i.zero.isSome) = true) (hk : parts.toList.map (·.1) = List.range n) (hf : vs.all (fitsB sh) = true) (hr : RelL g w vs (parts.toList.map (·.2))) (hn : n * width sh ≤ 65536) :
    ∃ cells : Array Value, (Instr.buildSlice t n parts).run P w = .ok (.slice (some ⟨w.heap.size, 0, none⟩) n n) (w.alloc (.cells cells e)) ∧ cells.size = n * width sh ∧ vs.length = n ∧ RelXs g w sh vs (fun (i : Nat) => cells[i]?) := by
  obtain ⟨i, hi, hs⟩ := shape_info hsh
  simp only [hi, Option.any_some] at hz
  obtain ⟨z, hz⟩ := Option.isSome_iff_exists.1 hz
  have hlen : parts.toList.length = n := by simpa using congrArg List.length hk
  have hvl : vs.length = n := by have := relL_length hr; simp at this hlen; omega
  have hps : ∀ p ∈ parts.toList, p.2.cells.size = width sh := by
    intro p hp
    obtain ⟨j, hj⟩ := List.getElem?_of_mem hp
    have hlt := (List.getElem?_eq_some_iff.1 hj).1
    have hv : vs[j]? = some vs[j] := List.getElem?_eq_getElem (by omega)
    obtain ⟨x, hx, hrel⟩ := relL_get hr hv
    simp [hj] at hx
    subst hx
    exact (fits_cells (by have := List.all_eq_true.1 hf vs[j] (List.getElem_mem _); exact this) hrel).1
  have key : ∀ zc : Array Value, ∃ cells : Array Value, Instr.fill (fun i => some (i * width sh, width sh)) ((Array.range (n * width sh)).map (zc[· % zc.size]!)) parts.toList = some cells ∧ cells.toList = parts.toList.flatMap (fun p => p.2.cells.toList) := by
    intro zc
    obtain ⟨cells, h1, h2⟩ := fill_row (width sh) parts.toList 0 ((Array.range (n * width sh)).map (zc[· % zc.size]!)) (by rw [hk, hlen]; simp [List.range_eq_range']) hps (by simp [hlen])
    exact ⟨cells, h1, by simpa using h2⟩
  obtain ⟨cells, h1, h2⟩ := key (if n * width sh = 0 then #[] else z.cells)
  have hflat : parts.toList.flatMap (fun p => p.2.cells.toList) = (parts.toList.map (·.2)).flatMap (fun x => x.cells.toList) := by simp [List.flatMap_map]
  have hcs : cells.size = n * width sh := by
    rw [← Array.length_toList, h2, hflat, flatMap_length hf hr, hvl]
  refine ⟨cells, ?_, hcs, hvl, ?_⟩
  · have hle : ¬ (16777216 < n * width sh) := by omega
    by_cases h0 : n * width sh = 0
    · rw [if_pos h0] at h1
      simp [Instr.buildSlice, run_underlying ht, run_sizeOf' hi, hs, h0, newRow]
      simp [h0] at h1
      simp [h1]
    · rw [if_neg h0] at h1
      simp [Instr.buildSlice, run_underlying ht, run_sizeOf' hi, hs, hle, h0, zeroValue, typeInfo, hi, hz, newRow, h1]
  · have := relXs_row hf hr
    have e : (fun (i : Nat) => ((parts.toList.map (·.2)).flatMap fun x => x.cells.toList)[i]?) = (fun (i : Nat) => cells[i]?) := by
      funext i
      rw [← hflat, ← h2]; simp
    rw [e] at this
    exact this

/-- A new row of elements that never change. -/
theorem relV_row (hw : Wf g w) {e : TypeId} {sh : Option Nat} {n : Nat} {vs : List V} {cells : Array Value} (hs : cells.size = n * width sh) (hn : vs.length = n) (hr : RelXs g w sh vs (fun (i : Nat) => cells[i]?)) :
    ∃ g', Ext [] g w g' (w.alloc (.cells cells e)) ∧ RelV g' (w.alloc (.cells cells e)) (.sl sh vs .no) (.slice (some ⟨w.heap.size, 0, none⟩) n n) := by
  have hext := ext_alloc hw cells e (n * width sh) (by omega)
  refine ⟨_, hext, ?_⟩
  simp only [RelV]
  refine ⟨_, _, _, rfl, hn.symm, Nat.le_refl _, trivial, .inr ⟨w.heap.size, 0, rfl, by simp [Gh.with], ?_⟩⟩
  refine RelXs.mono hext.toPre sh vs _ _ (fun i hi => ?_) hr
  rw [Nat.zero_add, cell_alloc_new]

end
end Go.Sv
