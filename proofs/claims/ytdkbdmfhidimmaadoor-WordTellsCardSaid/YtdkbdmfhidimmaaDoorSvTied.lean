/- What the listed variables of the library give the walks; what a tied row wants. -/
import Derived.Test.YtdkbdmfhidimmaaDoorSvRow4
import Derived.Test.YtdkbdmfhidimmaaDoorTie
import Derived.Test.YtdkbdmfhidimmaaDoorCards
import Derived.ChangeVars
import Derived.LaidLaws
import Derived.LaidMore
import Derived.Lib.LaidU8
import Derived.Stop.Joined
import Derived.SevenTiedAt
namespace Go.Sv
open Go Go.Proofs Go.RowKit Go.ChangeShapes Go.WideShapes

theorem reads_of_laid {P : Program} {l : List (String × DataW Unit)} {w : World} (h : laidMetH P l w) {n : String} {d : DataW Unit} (hm : (n, d) ∈ l) (hn : d.handleName? = none) : Lib.VarReads P w n d := by
  unfold laidMetH at h
  split at h
  · exact Lib.laidMet.reads h hm
  · exact Lib.laidMet.reads h.1 (List.mem_filter.2 ⟨hm, by simp [hn]⟩)

theorem stat_of_reads {P : Program} {w : World} {n nm : String} {d : DataW Unit} {g : Nat} {ti : TypeId} {ms : Array (String × TypeId)} (h : Lib.VarReads P w n (.iface nm d)) (hg : P.globalNamed n = some g) (ht : (P.globals[g]?).map (·.type) = some ti) (hi : P.underlying ti = some (.interface ms)) :
    ∃ v, cell w g 0 = some v ∧ (v = .nilIface ∨ ∃ te pe, v = .iface te pe) := by
  obtain ⟨g0, t0, cs, fuel, p, hg0, ht0, hv, hd⟩ := h
  obtain rfl := Option.some.inj (hg.symm.trans hg0)
  obtain rfl := Option.some.inj (ht.symm.trans ht0)
  obtain ⟨f', u, v, hcs, _, _⟩ := iface_of_trod hi hd
  refine ⟨.iface u v, ?_, .inr ⟨u, v, rfl⟩⟩
  have := World.var?_cell hg hv 0
  unfold cell
  rw [this]
  obtain ⟨l⟩ := cs
  simp only at hcs; subst hcs; rfl

theorem gErrRange : Tryd.prog.globalNamed "strconv.ErrRange" = some 8 := by kernel_rfl
theorem gErrSyntax : Tryd.prog.globalNamed "strconv.ErrSyntax" = some 7 := by kernel_rfl
theorem tErrRange : (Tryd.prog.globals[8]?).map (·.type) = some 27 := by kernel_rfl
theorem tErrSyntax : (Tryd.prog.globals[7]?).map (·.type) = some 27 := by kernel_rfl

end Go.Sv
