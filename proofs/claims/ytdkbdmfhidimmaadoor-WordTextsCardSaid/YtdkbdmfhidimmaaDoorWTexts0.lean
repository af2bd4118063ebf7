/- Texts written in quotes and read. -/
import Derived.Test.YtdkbdmfhidimmaaDoorWordFns
import Derived.Test.YtdkbdmfhidimmaaDoorValFns
namespace Go.Sv
open Go

def escB (c : UInt8) : List UInt8 := if c = 34 ∨ c = 92 then [92, c] else [c]
def esc (s : List UInt8) : List UInt8 := s.flatMap escB
theorem esc_app (s : List UInt8) (c : UInt8) : esc (s ++ [c]) = esc s ++ escB c := by simp [esc]
theorem textR_esc : ∀ (s out : List UInt8), textR out (esc s ++ [34]) =
    if s.all okCh then (if 16 < out.length + s.length then .error 12 else .ok (out ++ s, (esc s).length + 1)) else .error 21
  | [], out => by rw [show esc [] ++ [34] = [34] from rfl, textR_34]; simp [esc]
  | c :: s, out => by
    have ih := textR_esc s (out ++ [c])
    have e1 : esc (c :: s) ++ [34] = escB c ++ (esc s ++ [34]) := by simp [esc]
    have e2 : (esc (c :: s)).length = (escB c).length + (esc s).length := by simp [esc]
    have hl : (out ++ [c]).length + s.length = out.length + (c :: s).length := by simp; omega
    rw [hl] at ih
    rw [e1, e2]
    by_cases hq : c = 34 ∨ c = 92
    · have hok : okCh c = true := by rcases hq with rfl | rfl <;> rfl
      rw [escB, if_pos hq]
      show textR out (92 :: c :: (esc s ++ [34])) = _
      rw [textR_92, if_pos hq, ih, List.all_cons, hok, Bool.true_and]
      split
      · split
        · rfl
        · simp [addN]; omega
      · rfl
    · rw [escB, if_neg hq]
      show textR out (c :: (esc s ++ [34])) = _
      rw [textR_c _ _ (fun h => hq (.inl h)) (fun h => hq (.inr h)), List.all_cons]
      cases hok : okCh c with
      | false => rw [if_neg (by simpa [okCh] using hok)]; simp
      | true =>
        rw [if_pos (by simpa [okCh] using hok), ih, Bool.true_and]
        split
        · split
          · rfl
          · simp [addN]; omega
        · rfl
def quoted (s : List UInt8) : List UInt8 := 34 :: (esc s ++ [34])
theorem cut_quoted (s : List UInt8) : cutW (quoted s) = if s.all okCh then (if 16 < s.length then .error 12 else .ok [⟨3, s, 0, 0⟩]) else .error 21 := by
  have h := textR_esc s []
  rw [List.length_nil, Nat.zero_add, List.nil_append] at h
  have hx : nextR (quoted s) = textE (textR [] (esc s ++ [34])) := by
    rw [quoted, nextR_cons, if_neg (by decide), if_neg (by decide), if_neg (by simp [isDg]), if_pos (by decide)]; rfl
  have hi : itemsF (quoted s).length 0 (quoted s) = match nextR (quoted s) with
      | .error e => [(wd0, some e)]
      | .ok x => (x.wd 0, none) :: itemsF (esc s ++ [34]).length (0 + x.len) ((quoted s).drop x.len) := rfl
  rw [cutW, hi, hx, h]
  cases s.all okCh with
  | false => rfl
  | true =>
    by_cases h16 : 16 < s.length
    · rw [if_pos rfl, if_pos rfl, if_pos h16, if_pos h16]; rfl
    · have hd : (quoted s).drop ((esc s).length + 1 + 1) = [] := List.drop_eq_nil_of_le (by simp [quoted])
      rw [if_pos rfl, if_pos rfl, if_neg h16, if_neg h16]
      show collect [] ((⟨3, s, 0, 0⟩, none) :: itemsF (esc s ++ [34]).length _ ((quoted s).drop ((esc s).length + 1 + 1))) = _
      rw [hd]
      cases (esc s ++ [34]).length <;> rfl
end Go.Sv
