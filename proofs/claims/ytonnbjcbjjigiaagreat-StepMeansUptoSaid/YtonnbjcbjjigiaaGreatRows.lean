/-
  NARROWER THAN 'FOR EVERY INPUT', by the rows' own cells (each row's printed sentence says how): StepMeans: loops · StepRuns: loops.
  DERIVED. THE GIVEN ROWS OF THIS SEAT. 3 by the template 'for every input the law returns true; each argument reads behind the call as it read before'; 0 by the template 'total and deterministic' (their statements: YtonnbjcbjjigiaaGreatTotals.lean).
  GIVEN WITH THE SEED: the statements are not yours to turn. If you find one false, say at which input.
  Laid BY PROGRAM, IN A SANDBOX (cutbox-rows.mjs): the forced cells as the released guide's own fill.sh prints them over the translation c21cf7c33079bc48… (all of the seat's roots in one cut). By AI agents, Wed Nov 11 2026. No macro, syntax, notation, axiom, sorry.
-/
import Derived.Test.YtonnbjcbjjigiaaGreatChecked
import GoSem.Claim
import GoSem.ClaimJoined
import GoSem.ClaimMapViews
import Derived.JoinedTies
import Derived.KernelRfl
namespace Go.Proofs.YtonnbjcbjjigiaaGreat
/- THE CELL 'sum', in the pinned program and in every row, IS THE sha256 OF THE DUMP (.gsa) THAT YtonnbjcbjjigiaaGreatProg.lean LOADS. Nothing in Lean hashes anything: it is a label: what it is worth is what the hold of that sum in a sandbox is worth. -/
noncomputable def Tryz.pinned : Pinned := { name := "ytonnbjcbjjigiaagreat", sum := "c21cf7c33079bc4815c4dfee4b618c1560f0f89d3bfa652238014ac36c70fe54", checked := Tryz.checked }
namespace Rows
def none {H : Type} : Left H := { results := [], args := [] }

/-- 'pasternlaw16.StepMeans': WHATEVER THE INPUT: true; the input reads as it did. -/
def stepMeansSpec : ChangeSpec := { name := "stepMeans", fn := fun _ => fun
  | [d1, d2] => { results := [.lit (.bool true)], args := [d1, d2] }
  | _ => none }
def stepMeansRow : OpenClaim := { program := "ytonnbjcbjjigiaagreat", sum := "c21cf7c33079bc4815c4dfee4b618c1560f0f89d3bfa652238014ac36c70fe54", func := "pastern/pasternlaw16.StepMeans", spec := "stepMeans", inPlace := ["internal/reflectlite.TypeOf"], unfollowed := true, recurses := true, loops := true, apart := false }
def StepMeansSaid : Prop := stepMeansRow.holds Tryz.pinned (OpenSpec.ofChange stepMeansSpec)

/-- ITS FALSE NEIGHBOUR: 'it returns false'. Refute it at one input. -/
def stepMeansWrong : ChangeSpec := { name := "stepMeans", fn := fun _ => fun
  | [d1, d2] => { results := [.lit (.bool false)], args := [d1, d2] }
  | _ => none }
def StepMeansWrongFalsely : Prop := stepMeansRow.holds Tryz.pinned (OpenSpec.ofChange stepMeansWrong)

/-- 'pasternlaw16.StepRuns': WHATEVER THE INPUT: true; the input reads as it did. -/
def stepRunsSpec : ChangeSpec := { name := "stepRuns", fn := fun _ => fun
  | [d1, d2] => { results := [.lit (.bool true)], args := [d1, d2] }
  | _ => none }
def stepRunsRow : OpenClaim := { program := "ytonnbjcbjjigiaagreat", sum := "c21cf7c33079bc4815c4dfee4b618c1560f0f89d3bfa652238014ac36c70fe54", func := "pastern/pasternlaw16.StepRuns", spec := "stepRuns", inPlace := ["internal/reflectlite.TypeOf"], unfollowed := true, recurses := true, loops := true, apart := false }
def StepRunsSaid : Prop := stepRunsRow.holds Tryz.pinned (OpenSpec.ofChange stepRunsSpec)

/-- ITS FALSE NEIGHBOUR: 'it returns false'. Refute it at one input. -/
def stepRunsWrong : ChangeSpec := { name := "stepRuns", fn := fun _ => fun
  | [d1, d2] => { results := [.lit (.bool false)], args := [d1, d2] }
  | _ => none }
def StepRunsWrongFalsely : Prop := stepRunsRow.holds Tryz.pinned (OpenSpec.ofChange stepRunsWrong)

/-- 'pasternlaw16.StepQuota': WHATEVER THE INPUT: true; the input reads as it did. -/
def stepQuotaSpec : ChangeSpec := { name := "stepQuota", fn := fun _ => fun
  | [d1, d2] => { results := [.lit (.bool true)], args := [d1, d2] }
  | _ => none }
def stepQuotaRow : OpenClaim := { program := "ytonnbjcbjjigiaagreat", sum := "c21cf7c33079bc4815c4dfee4b618c1560f0f89d3bfa652238014ac36c70fe54", func := "pastern/pasternlaw16.StepQuota", spec := "stepQuota", inPlace := ["internal/reflectlite.TypeOf"], unfollowed := true, recurses := true, apart := false }
def StepQuotaSaid : Prop := stepQuotaRow.holds Tryz.pinned (OpenSpec.ofChange stepQuotaSpec)

/-- ITS FALSE NEIGHBOUR: 'it returns false'. Refute it at one input. -/
def stepQuotaWrong : ChangeSpec := { name := "stepQuota", fn := fun _ => fun
  | [d1, d2] => { results := [.lit (.bool false)], args := [d1, d2] }
  | _ => none }
def StepQuotaWrongFalsely : Prop := stepQuotaRow.holds Tryz.pinned (OpenSpec.ofChange stepQuotaWrong)

/- THE SECOND FORM. 'bulk': how many values and letters a reading holds, each counted each time it is reached (what is shared counts as often as it is met; a slice's spare places count too). A statement '..UptoSaid' is the law's where the arguments, and the package variables that the reading takes, are together of bulk at most 1048576: NARROWER than '..Said'. Prove '..Said' where nothing that the law and all that it calls make is longer than what came in: it says more and counts as full. Else prove '..UptoSaid'. A law counts once. -/
mutual
def uptoBulk {H : Type} : DataW H → Nat
  | .lit (.string bytes) => bytes.length + 1
  | .lit _ => 1
  | .nil => 1
  | .ptr d => uptoBulk d + 1
  | .slice elems spare => uptoBulkAll elems + uptoBulkAll spare + 1
  | .agg parts => uptoBulkAll parts + 1
  | .iface _ d => uptoBulk d + 1
  | .map entries => uptoBulkEntries entries + 1
  | .held _ => 1
def uptoBulkAll {H : Type} : List (DataW H) → Nat
  | [] => 0
  | d :: r => uptoBulk d + uptoBulkAll r
def uptoBulkEntries {H : Type} : List (Lit × DataW H) → Nat
  | [] => 0
  | x :: r => uptoBulkEntry x + uptoBulkEntries r
def uptoBulkEntry {H : Type} : Lit × DataW H → Nat
  | (.string bytes, d) => bytes.length + uptoBulk d + 1
  | (_, d) => uptoBulk d + 1
 end
def uptoSmall : (H : Type) → List (DataW H) → Bool := fun _ ds => decide (uptoBulkAll ds ≤ 1048576)
def OpenSpec.upto (s : _root_.Go.ChangeSpec) : _root_.Go.OpenSpec := { _root_.Go.OpenSpec.ofChange s with cond := some uptoSmall }

/-- 'pasternlaw16.StepMeans', WHERE WHAT IT READS IS OF BULK AT MOST 1048576: true; the input reads as it did. -/
def stepMeansUptoRow : OpenClaim := { program := "ytonnbjcbjjigiaagreat", sum := "c21cf7c33079bc4815c4dfee4b618c1560f0f89d3bfa652238014ac36c70fe54", func := "pastern/pasternlaw16.StepMeans", spec := "stepMeans", inPlace := ["internal/reflectlite.TypeOf"], unfollowed := true, recurses := true, loops := true, apart := false, narrowed := true }
def StepMeansUptoSaid : Prop := stepMeansUptoRow.holds Tryz.pinned (OpenSpec.upto stepMeansSpec)

/-- 'pasternlaw16.StepRuns', WHERE WHAT IT READS IS OF BULK AT MOST 1048576: true; the input reads as it did. -/
def stepRunsUptoRow : OpenClaim := { program := "ytonnbjcbjjigiaagreat", sum := "c21cf7c33079bc4815c4dfee4b618c1560f0f89d3bfa652238014ac36c70fe54", func := "pastern/pasternlaw16.StepRuns", spec := "stepRuns", inPlace := ["internal/reflectlite.TypeOf"], unfollowed := true, recurses := true, loops := true, apart := false, narrowed := true }
def StepRunsUptoSaid : Prop := stepRunsUptoRow.holds Tryz.pinned (OpenSpec.upto stepRunsSpec)

/-- 'pasternlaw16.StepQuota', WHERE WHAT IT READS IS OF BULK AT MOST 1048576: true; the input reads as it did. -/
def stepQuotaUptoRow : OpenClaim := { program := "ytonnbjcbjjigiaagreat", sum := "c21cf7c33079bc4815c4dfee4b618c1560f0f89d3bfa652238014ac36c70fe54", func := "pastern/pasternlaw16.StepQuota", spec := "stepQuota", inPlace := ["internal/reflectlite.TypeOf"], unfollowed := true, recurses := true, apart := false, narrowed := true }
def StepQuotaUptoSaid : Prop := stepQuotaUptoRow.holds Tryz.pinned (OpenSpec.upto stepQuotaSpec)

end Rows
end Go.Proofs.YtonnbjcbjjigiaaGreat
