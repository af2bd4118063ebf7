/- How many words there are: what the plain function answers. -/
import Derived.Test.YtdkbdmfhidimmaaDoorWordFns
namespace Go.Sv
open Go

/-- So many signs, a blank behind each. -/
def plusN : Nat → List UInt8
  | 0 => []
  | n + 1 => plusN n ++ [43, 32]
def checkMany (k : Nat) : Bool := match cutW (plusN k) with
  | .ok l => decide (k ≤ 500) && decide (l.length = k)
  | .error e => decide (500 < k) && decide (e = 12)
theorem many498 : checkMany 498 = true := by kernel_rfl
theorem many499 : checkMany 499 = true := by kernel_rfl
theorem many500 : checkMany 500 = true := by kernel_rfl
theorem many501 : checkMany 501 = true := by kernel_rfl
theorem many502 : checkMany 502 = true := by kernel_rfl
theorem many_ok (k : Nat) (h1 : 498 ≤ k) (h2 : k ≤ 502) : checkMany k = true := by
  have : k = 498 ∨ k = 499 ∨ k = 500 ∨ k = 501 ∨ k = 502 := by omega
  rcases this with rfl | rfl | rfl | rfl | rfl
  · exact many498
  · exact many499
  · exact many500
  · exact many501
  · exact many502
def checkLet (b : UInt8) (j : Nat) : Bool := match cutW (List.replicate j b) with
  | .ok [w] => decide (j ≤ 8) && decide (w.text = List.replicate j b)
  | .ok _ => false
  | .error _ => decide (8 < j)
theorem let_all : (List.range 13).all (fun j => decide (j < 1) || (checkLet 97 j && checkLet 65 j)) = true := by kernel_rfl
theorem let_ok (j : Nat) (h1 : 1 ≤ j) (h2 : j ≤ 12) : checkLet 97 j = true ∧ checkLet 65 j = true := by
  have h := List.all_eq_true.1 let_all j (List.mem_range.2 (by omega))
  rw [decide_eq_false (by omega), Bool.false_or, Bool.and_eq_true] at h
  exact h
theorem plusN_length : ∀ n, (plusN n).length = 2 * n
  | 0 => rfl
  | n + 1 => by rw [plusN, List.length_append, plusN_length n]; simp; omega
theorem many_cut (k : Nat) (h1 : 498 ≤ k) (h2 : k ≤ 502) : (∃ l, cutW (plusN k) = .ok l ∧ k ≤ 500 ∧ l.length = k) ∨ (cutW (plusN k) = .error 12 ∧ 500 < k) := by
  have h := many_ok k h1 h2
  unfold checkMany at h
  split at h
  · rename_i l e
    simp at h
    exact .inl ⟨l, e, h⟩
  · rename_i x e
    simp at h
    exact .inr ⟨by rw [e, h.2], h.1⟩
theorem let_cut (b : UInt8) (hb : b = 97 ∨ b = 65) (j : Nat) (h1 : 1 ≤ j) (h2 : j ≤ 12) : (∃ w, cutW (List.replicate j b) = .ok [w] ∧ j ≤ 8 ∧ w.text = List.replicate j b) ∨ (∃ e, cutW (List.replicate j b) = .error e ∧ 8 < j) := by
  have h : checkLet b j = true := by
    rcases hb with rfl | rfl
    · exact (let_ok j h1 h2).1
    · exact (let_ok j h1 h2).2
  unfold checkLet at h
  split at h
  · rename_i w e
    simp at h
    exact .inl ⟨w, e, h⟩
  · cases h
  · rename_i x e
    simp at h
    exact .inr ⟨x, e, h⟩

end Go.Sv
