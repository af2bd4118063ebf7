/- Each byte between words: what the plain function answers. -/
import Derived.Test.YtdkbdmfhidimmaaDoorWordFns
namespace Go.Sv
open Go

def sgnText (b : UInt8) : List UInt8 := [97, 32] ++ [b] ++ [61, 32, 98]
def isSg (b : UInt8) : Bool := signsL.any fun c => decide (c = b)
def isWd (b : UInt8) : Bool := decide (b = 32) || isDg b || isSm b || isGr b
def wAt (l : List Wd) (i : Nat) : Wd := l.getD i wd0
def checkSign (n : Nat) : Bool :=
  let b := UInt8.ofNat n
  match cutW (sgnText b) with
  | .ok l =>
    if decide (b = 33) || decide (b = 60) then decide (l.length = 3) && decide ((wAt l 1).text = [b, 61])
    else if isSg b then decide (l.length = 4) && decide ((wAt l 1).text = [b]) && decide ((wAt l 2).text = [61]) && decide ((wAt l 1).kind = 5)
    else isWd b && (decide (l.length = 4) == decide (b ≠ 32))
  | .error e => !(decide (b = 33) || decide (b = 60)) && !isSg b && !isWd b && decide (e = 21)
theorem sign_all : (List.range 256).all checkSign = true := by kernel_rfl
theorem sign_cut (b : UInt8) :
    (∃ l, cutW (sgnText b) = .ok l ∧ (b = 33 ∨ b = 60) ∧ l.length = 3 ∧ (wAt l 1).text = [b, 61]) ∨
    (∃ l, cutW (sgnText b) = .ok l ∧ ¬ (b = 33 ∨ b = 60) ∧ isSg b = true ∧ l.length = 4 ∧ (wAt l 1).text = [b] ∧ (wAt l 2).text = [61] ∧ (wAt l 1).kind = 5) ∨
    (∃ l, cutW (sgnText b) = .ok l ∧ ¬ (b = 33 ∨ b = 60) ∧ isSg b = false ∧ isWd b = true ∧ (l.length = 4 ↔ b ≠ 32)) ∨
    (cutW (sgnText b) = .error 21 ∧ ¬ (b = 33 ∨ b = 60) ∧ isSg b = false ∧ isWd b = false) := by
  have h := List.all_eq_true.1 sign_all b.toNat (List.mem_range.2 b.toNat_lt)
  unfold checkSign at h
  simp only [UInt8.ofNat_toNat] at h
  split at h
  · rename_i l e
    split at h
    · rename_i h1
      refine .inl ⟨l, e, ?_⟩
      simpa [and_assoc] using And.intro h1 h
    · rename_i h1
      split at h
      · rename_i h2
        refine .inr (.inl ⟨l, e, by simpa using h1, h2, ?_⟩)
        simpa [and_assoc] using h
      · rename_i h2
        refine .inr (.inr (.inl ⟨l, e, by simpa using h1, by simpa using h2, ?_⟩))
        simp only [Bool.and_eq_true, beq_iff_eq, decide_eq_decide] at h
        exact h
  · rename_i x e
    simp only [Bool.and_eq_true, Bool.not_eq_true', decide_eq_true_eq] at h
    obtain ⟨⟨⟨h1, h2⟩, h3⟩, rfl⟩ := h
    exact .inr (.inr (.inr ⟨e, by simpa using h1, h2, h3⟩))
end Go.Sv
