/- Slices of bools among a row's arguments. -/
import Derived.Test.YtdkbdmfhidimmaaDoorSvRow2
import Derived.Deep.Grids
namespace Go.Sv
open Go Go.RowKit Go.ChangeShapes Go.WideShapes
section
variable {H : Type} {enc : TypeId × Value → H} {P : Program} {W : World} {base b0 : Nat} {held : Bool} {r : Reach}
theorem open_slB {t e : TypeId} {v : Value} {d : DataW H} {ps : List MemPlace} (ht : P.underlying t = some (.slice e)) (he : P.underlying e = some .bool) (hc : P.cellsOf e = 1) (hval : Value.okWide P W r b0 t v)
    (h : DataW.Trod enc P W base (fun _ => true) held t v d ps) : ∃ zs : List Bool, RelV (Gh.start W) W (.sl none (zs.map fun b => .c (.bool b)) .no) v := by
  obtain ⟨a0, len, cap, rfl⟩ := okWide_slice ht hval
  obtain ⟨fuel, hf⟩ := h
  rcases Go.Deep.open_bools ht he hc hf with ⟨hcs, _⟩ | ⟨a, len', cap', B, hcs, _, hl, hm, _, hcell⟩
  · simp [Value.cells] at hcs
    obtain ⟨rfl, rfl, rfl⟩ := hcs
    exact ⟨[], rel_nil⟩
  · simp [Value.cells] at hcs
    obtain ⟨rfl, rfl, rfl⟩ := hcs
    refine ⟨(List.range len).map B, rel_slice (by simp) hl fun i u hu => ?_⟩
    have hi := (List.getElem?_eq_some_iff.1 hu).1
    simp at hi
    rw [List.map_map, List.getElem?_map, List.getElem?_range hi] at hu
    simp at hu; subst hu
    exact ⟨_, hcell i (by omega), by simp only [RelV]⟩
end
end Go.Sv
