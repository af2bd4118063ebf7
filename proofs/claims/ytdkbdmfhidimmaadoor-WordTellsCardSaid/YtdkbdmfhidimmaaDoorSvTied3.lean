/- The handle of the type 'error' among the listed variables. -/
import Derived.Test.YtdkbdmfhidimmaaDoorSvTied
import Derived.LaidHandle
namespace Go.Sv
open Go Go.Proofs Go.RowKit Go.ChangeShapes Go.WideShapes

theorem gErrorType : Tryd.prog.globalNamed "errors.errorType" = some 0 := by kernel_rfl
theorem rtCut : (Tryd.prog.cutTypes.find? (·.1 == "internal/reflectlite.rtype")).map (·.2) = some 96 := by kernel_rfl
theorem oneRow : ((List.range Tryd.prog.types.size).filter fun t => Tryd.prog.rowNamed t [101, 114, 114, 111, 114]) = [27] := by kernel_rfl
theorem handle_of_laid {l : List (String × DataW Unit)} {W : World} (h : laidMetH Tryd.prog l W) (hm : ("errors.errorType", Go.Proofs.YtdkbdmfhidimmaaDoor.Rows.laid_errors_errorType) ∈ l) :
    cell W 0 0 = some (.iface 96 (.agg #[.pointer (some ⟨9, 27, none⟩)])) := by
  unfold laidMetH at h
  split at h
  · rename_i he
    have : ("errors.errorType", Go.Proofs.YtdkbdmfhidimmaaDoor.Rows.laid_errors_errorType) ∈ l.filter fun x => x.2.handleName?.isSome := List.mem_filter.2 ⟨hm, rfl⟩
    rw [he] at this; cases this
  · rename_i x xs he
    have hin : ("errors.errorType", Go.Proofs.YtdkbdmfhidimmaaDoor.Rows.laid_errors_errorType) ∈ x :: xs := by rw [← he]; exact List.mem_filter.2 ⟨hm, rfl⟩
    obtain ⟨name, u, ty, e1, e2, e3, e4, e5⟩ := h.2 _ hin
    have en : name = [101, 114, 114, 111, 114] := (Option.some.inj e1).symm
    subst en
    obtain rfl := Option.some.inj (rtCut.symm.trans e2)
    have hmm : ty ∈ (List.range Tryd.prog.types.size).filter fun t => Tryd.prog.rowNamed t [101, 114, 114, 111, 114] := List.mem_filter.2 ⟨List.mem_range.2 e3, e4⟩
    rw [oneRow] at hmm
    obtain rfl := List.mem_singleton.1 hmm
    have hh : typeHandle Tryd.prog 27 = .pointer (some ⟨9, 27, none⟩) := by kernel_rfl
    rw [hh] at e5
    have h6 := World.var?_cell gErrorType e5 0
    unfold cell
    rw [h6]; rfl

theorem statOk_of3 {l : List (String × DataW Unit)} {W : World} (h : laidMetH Tryd.prog l W) (h1 : ("strconv.ErrRange", Go.Proofs.YtdkbdmfhidimmaaDoor.Rows.laid_strconv_ErrRange) ∈ l) (h2 : ("strconv.ErrSyntax", Go.Proofs.YtdkbdmfhidimmaaDoor.Rows.laid_strconv_ErrSyntax) ∈ l) (h3 : ("errors.errorType", Go.Proofs.YtdkbdmfhidimmaaDoor.Rows.laid_errors_errorType) ∈ l) : statOk W := by
  have a1 := stat_of_reads (reads_of_laid h h1 rfl) gErrRange tErrRange Tryd.underlying27
  have a2 := stat_of_reads (reads_of_laid h h2 rfl) gErrSyntax tErrSyntax Tryd.underlying27
  have a3 := handle_of_laid h h3
  intro p hp
  simp only [statics, List.mem_cons, List.not_mem_nil, or_false] at hp
  rcases hp with rfl | rfl | rfl
  · first | exact a1 | exact a2
  · first | exact a1 | exact a2
  · exact ⟨_, a3, rfl⟩
end Go.Sv
