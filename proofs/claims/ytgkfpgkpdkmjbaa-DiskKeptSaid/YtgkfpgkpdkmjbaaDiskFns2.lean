/- Heads, saving, loading, as plain functions. -/
import Derived.Test.YtgkfpgkpdkmjbaaDiskFns
import Derived.Test.YtgkfpgkpdkmjbaaBytes4
namespace Go.Sv

def hdB (t s l : Nat) : List UInt8 := 7 :: (enc t ++ enc s ++ enc l)
abbrev Hd := Nat × Nat × Nat
def rdA (s : List UInt8) := rdN 1099511627776 (s.drop 1) none
def rdB (s : List UInt8) := rdN 1 (rdA s).2.1 (rdA s).2.2
def rdC (s : List UInt8) := rdN 12672 (rdB s).2.1 (rdB s).2.2
/-- The head in a block of that number. -/
def isHd (s : List UInt8) (block : Nat) : Hd × Bool :=
  if s.headD 0 ≠ 7 ∨ (rdC s).2.2 ≠ none ∨ (rdA s).1 < 1 ∨ (rdA s).1 % 2 ≠ block then ((0, 0, 0), false)
  else (((rdA s).1, (rdB s).1, (rdC s).1), decide (pad (hdB (rdA s).1 (rdB s).1 (rdC s).1) = s))
def cntF (D : Dk) : Nat → Hd
  | 0 => (0, 0, 0)
  | n + 1 => if (isHd (dRead D n) n).2 = true ∧ (cntF D n).1 < (isHd (dRead D n) n).1.1 then (isHd (dRead D n) n).1 else cntF D n
def rdK (D : Dk) (i : Nat) : Nat → List UInt8
  | 0 => []
  | n + 1 => rdK D i n ++ dRead D ((i + n : Nat) : Int)
def dLoad (D : Dk) : Except Nat (List UInt8) :=
  if 0 < (cntF D 2).1 then .ok ((rdK D (2 + (cntF D 2).2.1 * 198) (((cntF D 2).2.2 + 63) / 64)).take (cntF D 2).2.2) else .error 20
def chunk (s : List UInt8) : List (List UInt8) := (List.range ((s.length + 63) / 64)).map fun i => (s.drop (64 * i)).take 64
def dWrites (D : Dk) (i : Nat) : List (List UInt8) → Option Nat × Dk
  | [] => (none, D)
  | c :: cs => match dWrite D i c with
    | .error e => (some e, D)
    | .ok D' => dWrites D' (i + 1) cs
def slotOf (h : Hd) : Nat := if 0 < h.1 then 1 - h.2.1 else 0
def dSave4 (D : Dk) : Option Nat × Dk := match dSync D with
  | .error e => (some e, D)
  | .ok D' => (none, D')
def dSave3 (h : Hd) (n : Nat) (D : Dk) : Option Nat × Dk := match dWrite D (((h.1 + 1) % 2 : Nat) : Int) (hdB (h.1 + 1) (slotOf h) n) with
  | .error e => (some e, D)
  | .ok D' => dSave4 D'
def dSave2 (h : Hd) (n : Nat) (D : Dk) : Option Nat × Dk := match dSync D with
  | .error e => (some e, D)
  | .ok D' => dSave3 h n D'
def dSave1 (h : Hd) (n : Nat) (r : Option Nat × Dk) : Option Nat × Dk := match r with
  | (some e, D') => (some e, D')
  | (none, D') => dSave2 h n D'
def dSave (D : Dk) (s : List UInt8) : Option Nat × Dk :=
  if s.length > 12672 then (some 12, D) else dSave1 (cntF D 2) s.length (dWrites D (2 + slotOf (cntF D 2) * 198) (chunk s))

theorem hdB_length (t s l : Nat) : (hdB t s l).length ≤ 31 := by
  have h1 := enc_length t
  have h2 := enc_length s
  have h3 := enc_length l
  simp [hdB]; omega

/-- What was read is as small as may be. -/
theorem decN_le {most n : Nat} {l r : List UInt8} (h : decN most l = .ok (n, r)) : n ≤ most := by
  unfold decN at h
  split at h
  · cases h
  · split at h
    · cases h
    · cases h; omega
theorem rdN_le (most : Nat) (l : List UInt8) (e : Option Nat) : (rdN most l e).1 ≤ most := by
  unfold rdN step
  split
  · exact Nat.zero_le _
  · split
    · rename_i h; exact decN_le h
    · exact Nat.zero_le _
theorem isHd_le (s : List UInt8) (b : Nat) : (isHd s b).1.1 ≤ 1099511627776 ∧ (isHd s b).1.2.1 ≤ 1 ∧ (isHd s b).1.2.2 ≤ 12672 := by
  unfold isHd
  split
  · exact ⟨Nat.zero_le _, Nat.zero_le _, Nat.zero_le _⟩
  · exact ⟨rdN_le _ _ _, rdN_le _ _ _, rdN_le _ _ _⟩
theorem cntF_le (D : Dk) : ∀ n, (cntF D n).1 ≤ 1099511627776 ∧ (cntF D n).2.1 ≤ 1 ∧ (cntF D n).2.2 ≤ 12672
  | 0 => ⟨Nat.zero_le _, Nat.zero_le _, Nat.zero_le _⟩
  | n + 1 => by
    rw [cntF]
    split
    · exact isHd_le _ _
    · exact cntF_le D n
theorem rdK_length {D : Dk} (h : DOk D) {i : Nat} : ∀ n, i + n ≤ 400 → (rdK D i n).length = 64 * n
  | 0, _ => rfl
  | n + 1, hn => by
    rw [rdK, List.length_append, rdK_length h n (by omega), dRead_length h (by omega) (by omega)]; omega
theorem dWrites_append {D : Dk} : ∀ {i : Nat} (a b : List (List UInt8)) {D1 : Dk}, dWrites D i a = (none, D1) → dWrites D i (a ++ b) = dWrites D1 (i + a.length) b := by
  intro i a
  induction a generalizing D i with
  | nil => intro b D1 h; cases h; rfl
  | cons c a ih =>
    intro b D1 h
    rw [dWrites] at h
    rw [List.cons_append, dWrites]
    cases hw : dWrite D i c with
    | error e => rw [hw] at h; cases h
    | ok D2 =>
      rw [hw] at h
      simp only
      rw [ih b h, List.length_cons, Nat.add_assoc, Nat.add_comm 1]
theorem chunk_length (s : List UInt8) : (chunk s).length = (s.length + 63) / 64 := by simp [chunk]
theorem chunk_mem {s c : List UInt8} (h : c ∈ chunk s) : c.length ≤ 64 := by
  simp only [chunk, List.mem_map] at h
  obtain ⟨i, _, rfl⟩ := h
  simp; omega
end Go.Sv
