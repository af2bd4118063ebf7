/-
  No cell of these rows narrows 'for every input' (looked for: loops, veiled, ifaces, maps, wideKeys, modest, calm, conditions, laid).
  DERIVED. THE GIVEN ROWS OF THIS SEAT. 10 by the template 'for every input the law returns true; each argument reads behind the call as it read before'; 0 by the template 'total and deterministic' (their statements: YtgkfpgkpdkmjbaaTotals.lean).
  GIVEN WITH THE SEED: the statements are not yours to turn. If you find one false, say at which input.
  Laid BY PROGRAM, IN A SANDBOX (cutbox-rows.mjs): the forced cells as the released guide's own fill.sh prints them over the translation 148d46a55aa08630… (all of the seat's roots in one cut). By AI agents, Wed Nov 11 2026. No macro, syntax, notation, axiom, sorry.
-/
import Derived.Test.YtgkfpgkpdkmjbaaChecked
import GoSem.Claim
import GoSem.ClaimJoined
import GoSem.ClaimMapViews
import Derived.JoinedTies
import Derived.KernelRfl
namespace Go.Proofs.Ytgkfpgkpdkmjbaa
/- THE CELL 'sum', in the pinned program and in every row, IS THE sha256 OF THE DUMP (.gsa) THAT YtgkfpgkpdkmjbaaProg.lean LOADS. Nothing in Lean hashes anything: it is a label: what it is worth is what the hold of that sum in a sandbox is worth. -/
noncomputable def Try.pinned : Pinned := { name := "ytgkfpgkpdkmjbaa", sum := "148d46a55aa08630fbd5657b6b868f6f8d1aee7bff5948896577f462123777ec", checked := Try.checked }
namespace Rows
def none {H : Type} : Left H := { results := [], args := [] }

/-- 'pasternlaw24.BytesBack': WHATEVER THE INPUT: true; the input reads as it did. -/
def bytesBackSpec : ChangeSpec := { name := "bytesBack", fn := fun _ => fun
  | [d1, d2, d3] => { results := [.lit (.bool true)], args := [d1, d2, d3] }
  | _ => none }
def bytesBackRow : OpenClaim := { program := "ytgkfpgkpdkmjbaa", sum := "148d46a55aa08630fbd5657b6b868f6f8d1aee7bff5948896577f462123777ec", func := "pastern/pasternlaw24.BytesBack", spec := "bytesBack", inPlace := ["internal/reflectlite.TypeOf"], unfollowed := true, recurses := true, apart := false }
def BytesBackSaid : Prop := bytesBackRow.holds Try.pinned (OpenSpec.ofChange bytesBackSpec)

/-- ITS FALSE NEIGHBOUR: 'it returns false'. Refute it at one input. -/
def bytesBackWrong : ChangeSpec := { name := "bytesBack", fn := fun _ => fun
  | [d1, d2, d3] => { results := [.lit (.bool false)], args := [d1, d2, d3] }
  | _ => none }
def BytesBackWrongFalsely : Prop := bytesBackRow.holds Try.pinned (OpenSpec.ofChange bytesBackWrong)

/-- 'pasternlaw24.BytesShort': WHATEVER THE INPUT: true; the input reads as it did. -/
def bytesShortSpec : ChangeSpec := { name := "bytesShort", fn := fun _ => fun
  | [d1, d2, d3] => { results := [.lit (.bool true)], args := [d1, d2, d3] }
  | _ => none }
def bytesShortRow : OpenClaim := { program := "ytgkfpgkpdkmjbaa", sum := "148d46a55aa08630fbd5657b6b868f6f8d1aee7bff5948896577f462123777ec", func := "pastern/pasternlaw24.BytesShort", spec := "bytesShort", inPlace := ["internal/reflectlite.TypeOf"], unfollowed := true, recurses := true, apart := false }
def BytesShortSaid : Prop := bytesShortRow.holds Try.pinned (OpenSpec.ofChange bytesShortSpec)

/-- ITS FALSE NEIGHBOUR: 'it returns false'. Refute it at one input. -/
def bytesShortWrong : ChangeSpec := { name := "bytesShort", fn := fun _ => fun
  | [d1, d2, d3] => { results := [.lit (.bool false)], args := [d1, d2, d3] }
  | _ => none }
def BytesShortWrongFalsely : Prop := bytesShortRow.holds Try.pinned (OpenSpec.ofChange bytesShortWrong)

/-- 'pasternlaw24.BytesSum': WHATEVER THE INPUT: true; the input reads as it did. -/
def bytesSumSpec : ChangeSpec := { name := "bytesSum", fn := fun _ => fun
  | [d1, d2, d3] => { results := [.lit (.bool true)], args := [d1, d2, d3] }
  | _ => none }
def bytesSumRow : OpenClaim := { program := "ytgkfpgkpdkmjbaa", sum := "148d46a55aa08630fbd5657b6b868f6f8d1aee7bff5948896577f462123777ec", func := "pastern/pasternlaw24.BytesSum", spec := "bytesSum", inPlace := ["internal/reflectlite.TypeOf"], unfollowed := true, recurses := true, apart := false }
def BytesSumSaid : Prop := bytesSumRow.holds Try.pinned (OpenSpec.ofChange bytesSumSpec)

/-- ITS FALSE NEIGHBOUR: 'it returns false'. Refute it at one input. -/
def bytesSumWrong : ChangeSpec := { name := "bytesSum", fn := fun _ => fun
  | [d1, d2, d3] => { results := [.lit (.bool false)], args := [d1, d2, d3] }
  | _ => none }
def BytesSumWrongFalsely : Prop := bytesSumRow.holds Try.pinned (OpenSpec.ofChange bytesSumWrong)

/-- 'pasternlaw24.BytesCanon': WHATEVER THE INPUT: true; the input reads as it did. -/
def bytesCanonSpec : ChangeSpec := { name := "bytesCanon", fn := fun _ => fun
  | [d1, d2] => { results := [.lit (.bool true)], args := [d1, d2] }
  | _ => none }
def bytesCanonRow : OpenClaim := { program := "ytgkfpgkpdkmjbaa", sum := "148d46a55aa08630fbd5657b6b868f6f8d1aee7bff5948896577f462123777ec", func := "pastern/pasternlaw24.BytesCanon", spec := "bytesCanon", inPlace := ["internal/reflectlite.TypeOf"], unfollowed := true, recurses := true, apart := false }
def BytesCanonSaid : Prop := bytesCanonRow.holds Try.pinned (OpenSpec.ofChange bytesCanonSpec)

/-- ITS FALSE NEIGHBOUR: 'it returns false'. Refute it at one input. -/
def bytesCanonWrong : ChangeSpec := { name := "bytesCanon", fn := fun _ => fun
  | [d1, d2] => { results := [.lit (.bool false)], args := [d1, d2] }
  | _ => none }
def BytesCanonWrongFalsely : Prop := bytesCanonRow.holds Try.pinned (OpenSpec.ofChange bytesCanonWrong)

/-- 'pasternlaw24.BytesMost': WHATEVER THE INPUT: true; the input reads as it did. -/
def bytesMostSpec : ChangeSpec := { name := "bytesMost", fn := fun _ => fun
  | [d1, d2, d3] => { results := [.lit (.bool true)], args := [d1, d2, d3] }
  | _ => none }
def bytesMostRow : OpenClaim := { program := "ytgkfpgkpdkmjbaa", sum := "148d46a55aa08630fbd5657b6b868f6f8d1aee7bff5948896577f462123777ec", func := "pastern/pasternlaw24.BytesMost", spec := "bytesMost", inPlace := ["internal/reflectlite.TypeOf"], unfollowed := true, recurses := true, apart := false }
def BytesMostSaid : Prop := bytesMostRow.holds Try.pinned (OpenSpec.ofChange bytesMostSpec)

/-- ITS FALSE NEIGHBOUR: 'it returns false'. Refute it at one input. -/
def bytesMostWrong : ChangeSpec := { name := "bytesMost", fn := fun _ => fun
  | [d1, d2, d3] => { results := [.lit (.bool false)], args := [d1, d2, d3] }
  | _ => none }
def BytesMostWrongFalsely : Prop := bytesMostRow.holds Try.pinned (OpenSpec.ofChange bytesMostWrong)

/-- 'pasternlaw27.DiskCrash': WHATEVER THE INPUT: true; the input reads as it did. -/
def diskCrashSpec : ChangeSpec := { name := "diskCrash", fn := fun _ => fun
  | [d1, d2, d3, d4] => { results := [.lit (.bool true)], args := [d1, d2, d3, d4] }
  | _ => none }
def diskCrashRow : OpenClaim := { program := "ytgkfpgkpdkmjbaa", sum := "148d46a55aa08630fbd5657b6b868f6f8d1aee7bff5948896577f462123777ec", func := "pastern/pasternlaw27.DiskCrash", spec := "diskCrash", inPlace := ["internal/abi.NoEscape", "internal/bytealg.MakeNoZero", "internal/reflectlite.TypeOf"], unfollowed := true, recurses := true, apart := false }
def DiskCrashSaid : Prop := diskCrashRow.holds Try.pinned (OpenSpec.ofChange diskCrashSpec)

/-- ITS FALSE NEIGHBOUR: 'it returns false'. Refute it at one input. -/
def diskCrashWrong : ChangeSpec := { name := "diskCrash", fn := fun _ => fun
  | [d1, d2, d3, d4] => { results := [.lit (.bool false)], args := [d1, d2, d3, d4] }
  | _ => none }
def DiskCrashWrongFalsely : Prop := diskCrashRow.holds Try.pinned (OpenSpec.ofChange diskCrashWrong)

/-- 'pasternlaw27.DiskSlots': WHATEVER THE INPUT: true; the input reads as it did. -/
def diskSlotsSpec : ChangeSpec := { name := "diskSlots", fn := fun _ => fun
  | [d1, d2] => { results := [.lit (.bool true)], args := [d1, d2] }
  | _ => none }
def diskSlotsRow : OpenClaim := { program := "ytgkfpgkpdkmjbaa", sum := "148d46a55aa08630fbd5657b6b868f6f8d1aee7bff5948896577f462123777ec", func := "pastern/pasternlaw27.DiskSlots", spec := "diskSlots", inPlace := ["internal/abi.NoEscape", "internal/bytealg.MakeNoZero", "internal/reflectlite.TypeOf"], unfollowed := true, recurses := true, apart := false }
def DiskSlotsSaid : Prop := diskSlotsRow.holds Try.pinned (OpenSpec.ofChange diskSlotsSpec)

/-- ITS FALSE NEIGHBOUR: 'it returns false'. Refute it at one input. -/
def diskSlotsWrong : ChangeSpec := { name := "diskSlots", fn := fun _ => fun
  | [d1, d2] => { results := [.lit (.bool false)], args := [d1, d2] }
  | _ => none }
def DiskSlotsWrongFalsely : Prop := diskSlotsRow.holds Try.pinned (OpenSpec.ofChange diskSlotsWrong)

/-- 'pasternlaw27.DiskLimits': WHATEVER THE INPUT: true; the input reads as it did. -/
def diskLimitsSpec : ChangeSpec := { name := "diskLimits", fn := fun _ => fun
  | [d] => { results := [.lit (.bool true)], args := [d] }
  | _ => none }
def diskLimitsRow : OpenClaim := { program := "ytgkfpgkpdkmjbaa", sum := "148d46a55aa08630fbd5657b6b868f6f8d1aee7bff5948896577f462123777ec", func := "pastern/pasternlaw27.DiskLimits", spec := "diskLimits", inPlace := ["internal/abi.NoEscape", "internal/bytealg.MakeNoZero", "internal/reflectlite.TypeOf"], unfollowed := true, recurses := true, apart := false }
def DiskLimitsSaid : Prop := diskLimitsRow.holds Try.pinned (OpenSpec.ofChange diskLimitsSpec)

/-- ITS FALSE NEIGHBOUR: 'it returns false'. Refute it at one input. -/
def diskLimitsWrong : ChangeSpec := { name := "diskLimits", fn := fun _ => fun
  | [d] => { results := [.lit (.bool false)], args := [d] }
  | _ => none }
def DiskLimitsWrongFalsely : Prop := diskLimitsRow.holds Try.pinned (OpenSpec.ofChange diskLimitsWrong)

/-- 'pasternlaw27.DiskKept': WHATEVER THE INPUT: true; the input reads as it did. -/
def diskKeptSpec : ChangeSpec := { name := "diskKept", fn := fun _ => fun
  | [d1, d2] => { results := [.lit (.bool true)], args := [d1, d2] }
  | _ => none }
def diskKeptRow : OpenClaim := { program := "ytgkfpgkpdkmjbaa", sum := "148d46a55aa08630fbd5657b6b868f6f8d1aee7bff5948896577f462123777ec", func := "pastern/pasternlaw27.DiskKept", spec := "diskKept", inPlace := ["internal/abi.NoEscape", "internal/bytealg.MakeNoZero", "internal/reflectlite.TypeOf"], unfollowed := true, recurses := true, apart := false }
def DiskKeptSaid : Prop := diskKeptRow.holds Try.pinned (OpenSpec.ofChange diskKeptSpec)

/-- ITS FALSE NEIGHBOUR: 'it returns false'. Refute it at one input. -/
def diskKeptWrong : ChangeSpec := { name := "diskKept", fn := fun _ => fun
  | [d1, d2] => { results := [.lit (.bool false)], args := [d1, d2] }
  | _ => none }
def DiskKeptWrongFalsely : Prop := diskKeptRow.holds Try.pinned (OpenSpec.ofChange diskKeptWrong)

/-- 'pasternlaw27.DiskCut': WHATEVER THE INPUT: true; the input reads as it did. -/
def diskCutSpec : ChangeSpec := { name := "diskCut", fn := fun _ => fun
  | [d1, d2] => { results := [.lit (.bool true)], args := [d1, d2] }
  | _ => none }
def diskCutRow : OpenClaim := { program := "ytgkfpgkpdkmjbaa", sum := "148d46a55aa08630fbd5657b6b868f6f8d1aee7bff5948896577f462123777ec", func := "pastern/pasternlaw27.DiskCut", spec := "diskCut", inPlace := ["internal/abi.NoEscape", "internal/bytealg.MakeNoZero", "internal/reflectlite.TypeOf"], unfollowed := true, recurses := true, apart := false }
def DiskCutSaid : Prop := diskCutRow.holds Try.pinned (OpenSpec.ofChange diskCutSpec)

/-- ITS FALSE NEIGHBOUR: 'it returns false'. Refute it at one input. -/
def diskCutWrong : ChangeSpec := { name := "diskCut", fn := fun _ => fun
  | [d1, d2] => { results := [.lit (.bool false)], args := [d1, d2] }
  | _ => none }
def DiskCutWrongFalsely : Prop := diskCutRow.holds Try.pinned (OpenSpec.ofChange diskCutWrong)

/- THE SECOND FORM. 'bulk': how many values and letters a reading holds, each counted each time it is reached (what is shared counts as often as it is met; a slice's spare places count too). A statement '..UptoSaid' is the law's where the arguments, and the package variables that the reading takes, are together of bulk at most 1048576: NARROWER than '..Said'. Prove '..Said' where nothing that the law and all that it calls make is longer than what came in: it says more and counts as full. Else prove '..UptoSaid'. A law counts once. -/
mutual
def uptoBulk {H : Type} : DataW H → Nat
  | .lit (.string bytes) => bytes.length + 1
  | .lit _ => 1
  | .nil => 1
  | .ptr d => uptoBulk d + 1
  | .slice elems spare => uptoBulkAll elems + uptoBulkAll spare + 1
  | .agg parts => uptoBulkAll parts + 1
  | .iface _ d => uptoBulk d + 1
  | .map entries => uptoBulkEntries entries + 1
  | .held _ => 1
def uptoBulkAll {H : Type} : List (DataW H) → Nat
  | [] => 0
  | d :: r => uptoBulk d + uptoBulkAll r
def uptoBulkEntries {H : Type} : List (Lit × DataW H) → Nat
  | [] => 0
  | x :: r => uptoBulkEntry x + uptoBulkEntries r
def uptoBulkEntry {H : Type} : Lit × DataW H → Nat
  | (.string bytes, d) => bytes.length + uptoBulk d + 1
  | (_, d) => uptoBulk d + 1
 end
def uptoSmall : (H : Type) → List (DataW H) → Bool := fun _ ds => decide (uptoBulkAll ds ≤ 1048576)
def OpenSpec.upto (s : _root_.Go.ChangeSpec) : _root_.Go.OpenSpec := { _root_.Go.OpenSpec.ofChange s with cond := some uptoSmall }

/-- 'pasternlaw24.BytesBack', WHERE WHAT IT READS IS OF BULK AT MOST 1048576: true; the input reads as it did. -/
def bytesBackUptoRow : OpenClaim := { program := "ytgkfpgkpdkmjbaa", sum := "148d46a55aa08630fbd5657b6b868f6f8d1aee7bff5948896577f462123777ec", func := "pastern/pasternlaw24.BytesBack", spec := "bytesBack", inPlace := ["internal/reflectlite.TypeOf"], unfollowed := true, recurses := true, apart := false, narrowed := true }
def BytesBackUptoSaid : Prop := bytesBackUptoRow.holds Try.pinned (OpenSpec.upto bytesBackSpec)

/-- 'pasternlaw24.BytesShort', WHERE WHAT IT READS IS OF BULK AT MOST 1048576: true; the input reads as it did. -/
def bytesShortUptoRow : OpenClaim := { program := "ytgkfpgkpdkmjbaa", sum := "148d46a55aa08630fbd5657b6b868f6f8d1aee7bff5948896577f462123777ec", func := "pastern/pasternlaw24.BytesShort", spec := "bytesShort", inPlace := ["internal/reflectlite.TypeOf"], unfollowed := true, recurses := true, apart := false, narrowed := true }
def BytesShortUptoSaid : Prop := bytesShortUptoRow.holds Try.pinned (OpenSpec.upto bytesShortSpec)

/-- 'pasternlaw24.BytesSum', WHERE WHAT IT READS IS OF BULK AT MOST 1048576: true; the input reads as it did. -/
def bytesSumUptoRow : OpenClaim := { program := "ytgkfpgkpdkmjbaa", sum := "148d46a55aa08630fbd5657b6b868f6f8d1aee7bff5948896577f462123777ec", func := "pastern/pasternlaw24.BytesSum", spec := "bytesSum", inPlace := ["internal/reflectlite.TypeOf"], unfollowed := true, recurses := true, apart := false, narrowed := true }
def BytesSumUptoSaid : Prop := bytesSumUptoRow.holds Try.pinned (OpenSpec.upto bytesSumSpec)

/-- 'pasternlaw24.BytesCanon', WHERE WHAT IT READS IS OF BULK AT MOST 1048576: true; the input reads as it did. -/
def bytesCanonUptoRow : OpenClaim := { program := "ytgkfpgkpdkmjbaa", sum := "148d46a55aa08630fbd5657b6b868f6f8d1aee7bff5948896577f462123777ec", func := "pastern/pasternlaw24.BytesCanon", spec := "bytesCanon", inPlace := ["internal/reflectlite.TypeOf"], unfollowed := true, recurses := true, apart := false, narrowed := true }
def BytesCanonUptoSaid : Prop := bytesCanonUptoRow.holds Try.pinned (OpenSpec.upto bytesCanonSpec)

/-- 'pasternlaw24.BytesMost', WHERE WHAT IT READS IS OF BULK AT MOST 1048576: true; the input reads as it did. -/
def bytesMostUptoRow : OpenClaim := { program := "ytgkfpgkpdkmjbaa", sum := "148d46a55aa08630fbd5657b6b868f6f8d1aee7bff5948896577f462123777ec", func := "pastern/pasternlaw24.BytesMost", spec := "bytesMost", inPlace := ["internal/reflectlite.TypeOf"], unfollowed := true, recurses := true, apart := false, narrowed := true }
def BytesMostUptoSaid : Prop := bytesMostUptoRow.holds Try.pinned (OpenSpec.upto bytesMostSpec)

/-- 'pasternlaw27.DiskCrash', WHERE WHAT IT READS IS OF BULK AT MOST 1048576: true; the input reads as it did. -/
def diskCrashUptoRow : OpenClaim := { program := "ytgkfpgkpdkmjbaa", sum := "148d46a55aa08630fbd5657b6b868f6f8d1aee7bff5948896577f462123777ec", func := "pastern/pasternlaw27.DiskCrash", spec := "diskCrash", inPlace := ["internal/abi.NoEscape", "internal/bytealg.MakeNoZero", "internal/reflectlite.TypeOf"], unfollowed := true, recurses := true, apart := false, narrowed := true }
def DiskCrashUptoSaid : Prop := diskCrashUptoRow.holds Try.pinned (OpenSpec.upto diskCrashSpec)

/-- 'pasternlaw27.DiskSlots', WHERE WHAT IT READS IS OF BULK AT MOST 1048576: true; the input reads as it did. -/
def diskSlotsUptoRow : OpenClaim := { program := "ytgkfpgkpdkmjbaa", sum := "148d46a55aa08630fbd5657b6b868f6f8d1aee7bff5948896577f462123777ec", func := "pastern/pasternlaw27.DiskSlots", spec := "diskSlots", inPlace := ["internal/abi.NoEscape", "internal/bytealg.MakeNoZero", "internal/reflectlite.TypeOf"], unfollowed := true, recurses := true, apart := false, narrowed := true }
def DiskSlotsUptoSaid : Prop := diskSlotsUptoRow.holds Try.pinned (OpenSpec.upto diskSlotsSpec)

/-- 'pasternlaw27.DiskLimits', WHERE WHAT IT READS IS OF BULK AT MOST 1048576: true; the input reads as it did. -/
def diskLimitsUptoRow : OpenClaim := { program := "ytgkfpgkpdkmjbaa", sum := "148d46a55aa08630fbd5657b6b868f6f8d1aee7bff5948896577f462123777ec", func := "pastern/pasternlaw27.DiskLimits", spec := "diskLimits", inPlace := ["internal/abi.NoEscape", "internal/bytealg.MakeNoZero", "internal/reflectlite.TypeOf"], unfollowed := true, recurses := true, apart := false, narrowed := true }
def DiskLimitsUptoSaid : Prop := diskLimitsUptoRow.holds Try.pinned (OpenSpec.upto diskLimitsSpec)

/-- 'pasternlaw27.DiskKept', WHERE WHAT IT READS IS OF BULK AT MOST 1048576: true; the input reads as it did. -/
def diskKeptUptoRow : OpenClaim := { program := "ytgkfpgkpdkmjbaa", sum := "148d46a55aa08630fbd5657b6b868f6f8d1aee7bff5948896577f462123777ec", func := "pastern/pasternlaw27.DiskKept", spec := "diskKept", inPlace := ["internal/abi.NoEscape", "internal/bytealg.MakeNoZero", "internal/reflectlite.TypeOf"], unfollowed := true, recurses := true, apart := false, narrowed := true }
def DiskKeptUptoSaid : Prop := diskKeptUptoRow.holds Try.pinned (OpenSpec.upto diskKeptSpec)

/-- 'pasternlaw27.DiskCut', WHERE WHAT IT READS IS OF BULK AT MOST 1048576: true; the input reads as it did. -/
def diskCutUptoRow : OpenClaim := { program := "ytgkfpgkpdkmjbaa", sum := "148d46a55aa08630fbd5657b6b868f6f8d1aee7bff5948896577f462123777ec", func := "pastern/pasternlaw27.DiskCut", spec := "diskCut", inPlace := ["internal/abi.NoEscape", "internal/bytealg.MakeNoZero", "internal/reflectlite.TypeOf"], unfollowed := true, recurses := true, apart := false, narrowed := true }
def DiskCutUptoSaid : Prop := diskCutUptoRow.holds Try.pinned (OpenSpec.upto diskCutSpec)

end Rows
end Go.Proofs.Ytgkfpgkpdkmjbaa
