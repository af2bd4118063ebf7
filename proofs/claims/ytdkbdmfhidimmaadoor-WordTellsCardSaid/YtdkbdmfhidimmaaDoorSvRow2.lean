/- Slices among a row's arguments. -/
import Derived.Test.YtdkbdmfhidimmaaDoorSvRow
namespace Go.Sv
open Go Go.RowKit Go.ChangeShapes Go.WideShapes

theorem cell_spot {W : World} {a : Addr} {y : Value} (h : W.cell? a = some y) : a = ⟨a.block, a.off, none⟩ := by
  obtain ⟨b, o, s⟩ := a
  cases s with
  | none => rfl
  | some k =>
    exfalso
    unfold World.cell? at h
    cases hh : W.heap[b]? with
    | none => simp [hh] at h
    | some ob => cases ob <;> simp [hh] at h

theorem start_lt {W : World} {b o : Nat} {y : Value} (h : cell W b o = some y) : o < (Gh.start W).cm b := by
  unfold cell World.cell? at h
  simp only [Gh.start]
  cases hh : W.heap[b]? with
  | none => simp [hh] at h
  | some ob =>
    cases ob <;> simp [hh] at h
    rename_i vals e f
    simp only
    exact (Array.getElem?_eq_some_iff.1 h).1

theorem rel_slice {W : World} {a : Addr} {len cap : Nat} {vs : List V} (hlen : vs.length = len) (hcap : len ≤ cap) (h : ∀ (i : Nat) (v : V), vs[i]? = some v → ∃ y, W.cell? (a.add i) = some y ∧ RelV (Gh.start W) W v y) :
    RelV (Gh.start W) W (.sl none vs .no) (.slice (some a) len cap) := by
  simp only [RelV]
  refine ⟨some a, len, cap, rfl, hlen.symm, hcap, trivial, ?_⟩
  cases vs with
  | nil => exact .inl (by trivial)
  | cons v vs =>
    right
    obtain ⟨y, hy, _⟩ := h 0 v rfl
    have ha : a = ⟨a.block, a.off, none⟩ := by
      have := cell_spot hy
      obtain ⟨b, o, s⟩ := a
      simp [Addr.add] at this ⊢
      exact this
    have hadd : ∀ i, a.add i = ⟨a.block, a.off + i, none⟩ := fun i => by rw [ha]; simp [Addr.add]
    refine ⟨a.block, a.off, by rw [← ha], ?_, relXs_of_get fun i u hu => ?_⟩
    · obtain ⟨u, hi⟩ : ∃ u, (v :: vs)[len - 1]? = some u := ⟨_, List.getElem?_eq_getElem (by rw [hlen]; simp at hlen; omega)⟩
      obtain ⟨z, hz, _⟩ := h (len - 1) _ hi
      rw [hadd] at hz
      have := start_lt (W := W) (b := a.block) (o := a.off + (len - 1)) hz
      subst hlen
      simp [width] at this ⊢; omega
    · obtain ⟨z, hz, hr⟩ := h i u hu
      rw [hadd] at hz
      exact ⟨z, by simp only [width, Nat.mul_one, Nat.add_zero]; exact hz, hr⟩
theorem rel_nil {W : World} : RelV (Gh.start W) W (.sl none [] .no) (.slice none 0 0) := by
  simp only [RelV]
  exact ⟨none, 0, 0, rfl, rfl, Nat.le_refl _, trivial, .inl (by trivial)⟩
section
variable {H : Type} {enc : TypeId × Value → H} {P : Program} {W : World} {base b0 : Nat} {spare : Nat → Bool} {held : Bool} {r : Reach}
theorem open_slI {t e : TypeId} {k : IntKind} {v : Value} {d : DataW H} {ps : List MemPlace} (ht : P.underlying t = some (.slice e)) (he : P.underlying e = some (.int k)) (hc : P.cellsOf e = 1) (hval : Value.okWide P W r b0 t v)
    (h : DataW.Trod enc P W base spare held t v d ps) : ∃ zs : List Int, RelV (Gh.start W) W (.sl none (zs.map fun z => .c (.int k z)) .no) v ∧ ∀ n ∈ zs, (Lit.int k n).wf = true := by
  obtain ⟨a0, len, cap, rfl⟩ := okWide_slice ht hval
  obtain ⟨fuel, hf⟩ := h
  rcases open_ints ht he hc hf with ⟨hcs, _⟩ | ⟨a, len', cap', zs, hcs, _, hl, hm, hz, _, hcell, hwf⟩
  · simp [Value.cells] at hcs
    obtain ⟨rfl, rfl, rfl⟩ := hcs
    exact ⟨[], rel_nil, by simp⟩
  · simp [Value.cells] at hcs
    obtain ⟨rfl, rfl, rfl⟩ := hcs
    have hle : len ≤ zs.length := by rw [hz]; split <;> omega
    refine ⟨zs.take len, rel_slice (by simp; omega) hl fun i u hu => ?_, fun n hn => hwf n (List.mem_of_mem_take hn)⟩
    have hi := (List.getElem?_eq_some_iff.1 hu).1
    simp at hi
    rw [List.getElem?_map, List.getElem?_take, if_pos (by omega), List.getElem?_eq_getElem (by omega)] at hu
    simp at hu; subst hu
    exact ⟨_, hcell i (by omega), by simp only [RelV]; rw [List.getD_eq_getElem?_getD, List.getElem?_eq_getElem (by omega), Option.getD_some]⟩
theorem open_slS {t e : TypeId} {v : Value} {d : DataW H} {ps : List MemPlace} (ht : P.underlying t = some (.slice e)) (he : P.underlying e = some .string) (hc : P.cellsOf e = 1) (hval : Value.okWide P W r b0 t v)
    (h : DataW.Trod enc P W base spare held t v d ps) : ∃ zs : List (List UInt8), RelV (Gh.start W) W (.sl none (zs.map str) .no) v := by
  obtain ⟨a0, len, cap, rfl⟩ := okWide_slice ht hval
  obtain ⟨fuel, hf⟩ := h
  rcases open_strings ht he hc hf with ⟨hcs, _⟩ | ⟨a, len', cap', zs, hcs, _, hl, hm, hz, _, hcell, _⟩
  · simp [Value.cells] at hcs
    obtain ⟨rfl, rfl, rfl⟩ := hcs
    exact ⟨[], rel_nil⟩
  · simp [Value.cells] at hcs
    obtain ⟨rfl, rfl, rfl⟩ := hcs
    have hle : len ≤ zs.length := by rw [hz]; split <;> omega
    refine ⟨(zs.take len).map fun s => s.data.toList, rel_slice (by simp; omega) hl fun i u hu => ?_⟩
    have hi := (List.getElem?_eq_some_iff.1 hu).1
    simp at hi
    rw [List.map_map, List.getElem?_map, List.getElem?_take, if_pos (by omega), List.getElem?_eq_getElem (by omega)] at hu
    simp at hu; subst hu
    exact ⟨_, hcell i (by omega), by simp only [RelV, str]; rw [List.getD_eq_getElem?_getD, List.getElem?_eq_getElem (by omega), Option.getD_some, ← S_of]⟩
end
end Go.Sv
