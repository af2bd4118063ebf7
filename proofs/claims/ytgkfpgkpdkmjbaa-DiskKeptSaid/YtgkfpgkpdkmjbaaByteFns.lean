/- What the package bytes computes, as plain functions. -/
import Derived.Test.YtgkfpgkpdkmjbaaSvNum
namespace Go.Sv

def encF : Nat → Nat → List UInt8
  | 0, n => [UInt8.ofNat n]
  | f + 1, n => if n < 128 then [UInt8.ofNat n] else UInt8.ofNat (n % 128 + 128) :: encF f (n / 128)
/-- A number's bytes. -/
def enc (n : Nat) : List UInt8 := encF 9 n
/-- A number with a sign as one without. -/
def zig (i : Int) : Nat := if i < 0 then 2 * (-1 - i).toNat + 1 else 2 * i.toNat
def zag (n : Nat) : Int := if n % 2 = 1 then -1 - ((n / 2 : Nat) : Int) else ((n / 2 : Nat) : Int)
def encT (s : List UInt8) : List UInt8 := enc s.length ++ s

/-- A number is read: 11: too short, 10: ill-formed. -/
def dec : Nat → Nat → List UInt8 → Except Nat (Nat × List UInt8)
  | _, _, [] => .error 11
  | sh, acc, b :: l =>
    if sh + 7 > 64 ∧ b.toNat > 1 then .error 10
    else if b.toNat < 128 then (if b.toNat = 0 ∧ sh > 0 then .error 10 else .ok (acc + b.toNat % 128 * 2 ^ sh, l))
    else dec (sh + 7) (acc + b.toNat % 128 * 2 ^ sh) l
def decN (most : Nat) (l : List UInt8) : Except Nat (Nat × List UInt8) :=
  match dec 0 0 l with
  | .error e => .error e
  | .ok (n, r) => if n > most then .error 12 else .ok (n, r)
def decT (most : Nat) (l : List UInt8) : Except Nat (List UInt8 × List UInt8) :=
  match decN most l with
  | .error e => .error e
  | .ok (n, r) => if n > r.length then .error 11 else .ok (r.take n, r.drop n)
def decP (tag : UInt8) (l : List UInt8) : Except Nat (List UInt8 × List UInt8) :=
  match l with
  | [] => .error 11
  | b :: r => if b ≠ tag then .error 10 else decT 1000000 r

theorem encF_lt : ∀ (f n : Nat), n < 128 → encF f n = [UInt8.ofNat n]
  | 0, _, _ => rfl
  | _ + 1, _, h => by rw [encF, if_pos h]
theorem encF_length : ∀ (f n : Nat), (encF f n).length ≤ f + 1
  | 0, _ => by simp [encF]
  | f + 1, n => by
    rw [encF]
    split
    · simp
    · have := encF_length f (n / 128); simp; omega
theorem enc_length (n : Nat) : (enc n).length ≤ 10 := encF_length 9 n
/-- One step. -/
theorem encF_more : ∀ (f n : Nat), n < 128 ^ (f + 1) → encF (f + 1) n = encF f n
  | 0, n, h => by
    have h : n < 128 := by simpa using h
    rw [encF_lt _ _ h, encF_lt _ _ h]
  | f + 1, n, h => by
    have h2 : n / 128 < 128 ^ (f + 1) := by
      rw [Nat.pow_succ] at h
      exact Nat.div_lt_of_lt_mul (by rw [Nat.mul_comm]; exact h)
    conv => lhs; rw [encF]
    conv => rhs; rw [encF]
    rw [encF_more f (n / 128) h2]
theorem enc_small {n : Nat} (h : n < 128) : enc n = [UInt8.ofNat n] := encF_lt _ _ h
theorem enc_big {n : Nat} (h : 128 ≤ n) (h' : n < 18446744073709551616) : enc n = UInt8.ofNat (n % 128 + 128) :: enc (n / 128) := by
  unfold enc
  rw [show (9 : Nat) = 8 + 1 from rfl, encF, if_neg (by omega), ← encF_more 8 (n / 128) (by omega)]

theorem zag_zig (i : Int) : zag (zig i) = i := by
  unfold zag zig
  split <;> split <;> omega
theorem zig_lt {i : Int} (h : -9223372036854775808 ≤ i) (h' : i < 9223372036854775808) : zig i < 18446744073709551616 := by
  unfold zig; split <;> omega

theorem dec_encF : ∀ (f n k acc : Nat) (l : List UInt8), n < 128 ^ (f + 1) → (n = 0 → k = 0) → k + f ≤ 9 → n * 2 ^ (7 * k) < 18446744073709551616 → dec (7 * k) acc (encF f n ++ l) = .ok (acc + n * 2 ^ (7 * k), l) := by
  intro f
  induction f with
  | zero =>
    intro n k acc l h h0 hs hb
    have hn : n < 128 := by simpa using h
    have e : (UInt8.ofNat n).toNat = n := by simp; omega
    rw [encF_lt 0 n hn]
    simp only [List.cons_append, List.nil_append, dec, e]
    have h1 : ¬ (7 * k + 7 > 64 ∧ n > 1) := fun ⟨ha, hc⟩ => by
      have : k = 9 := by omega
      subst this; omega
    rw [if_neg h1, if_pos hn, if_neg (by omega), Nat.mod_eq_of_lt hn]
  | succ f ih =>
    intro n k acc l h h0 hs hb
    by_cases hn : n < 128
    · have e : (UInt8.ofNat n).toNat = n := by simp; omega
      rw [encF_lt _ n hn]
      simp only [List.cons_append, List.nil_append, dec, e]
      have h1 : ¬ (7 * k + 7 > 64 ∧ n > 1) := fun ⟨ha, hc⟩ => by omega
      rw [if_neg h1, if_pos hn, if_neg (by omega), Nat.mod_eq_of_lt hn]
    · have e : (UInt8.ofNat (n % 128 + 128)).toNat = n % 128 + 128 := by simp; omega
      rw [encF, if_neg hn]
      simp only [List.cons_append, dec, e]
      rw [if_neg (by omega), if_neg (by omega)]
      have e2 : (n % 128 + 128) % 128 = n % 128 := by omega
      rw [e2]
      have h2 : n / 128 < 128 ^ (f + 1) := by
        rw [Nat.pow_succ] at h
        exact Nat.div_lt_of_lt_mul (by rw [Nat.mul_comm]; exact h)
      have e3 : 7 * k + 7 = 7 * (k + 1) := by omega
      have e4 : 2 ^ (7 * (k + 1)) = 128 * 2 ^ (7 * k) := by rw [← e3, Nat.pow_add]; omega
      have hd : n % 128 * 2 ^ (7 * k) + n / 128 * 2 ^ (7 * (k + 1)) = n * 2 ^ (7 * k) := by
        rw [e4, ← Nat.mul_assoc, ← Nat.add_mul]
        congr 1; omega
      rw [e3, ih (n / 128) (k + 1) _ l h2 (by omega) (by omega) (by omega), Nat.add_assoc, hd]

theorem dec_enc {n : Nat} (h : n < 18446744073709551616) (l : List UInt8) : dec 0 0 (enc n ++ l) = .ok (n, l) := by
  have := dec_encF 9 n 0 0 l (by omega) (by simp) (by omega) (by simpa using h)
  simpa [enc] using this
theorem decN_enc {n most : Nat} (h : n < 18446744073709551616) (hm : n ≤ most) (l : List UInt8) : decN most (enc n ++ l) = .ok (n, l) := by
  simp [decN, dec_enc h, Nat.not_lt.2 hm]
theorem decT_encT {s : List UInt8} {most : Nat} (hs : s.length < 18446744073709551616) (hm : s.length ≤ most) (l : List UInt8) : decT most (encT s ++ l) = .ok (s, l) := by
  simp [decT, encT, decN_enc hs hm]
theorem decP_encT {s : List UInt8} (tag : UInt8) (hm : s.length ≤ 1000000) (l : List UInt8) : decP tag (tag :: encT s ++ l) = .ok (s, l) := by
  simp [decP, decT_encT (by omega) hm]

/-- The bounds of what is read. -/
theorem dec_lt : ∀ (l : List UInt8) (k acc n : Nat) (r : List UInt8), k ≤ 9 → acc < 2 ^ (7 * k) → dec (7 * k) acc l = .ok (n, r) → n < 18446744073709551616 ∧ r.length < l.length
  | [], _, _, _, _, _, _, h => by simp [dec] at h
  | b :: l, k, acc, n, r, hk, ha, h => by
    simp only [dec] at h
    have hb := b.toNat_lt
    split at h
    · cases h
    · rename_i h1
      split at h
      · rename_i h2
        split at h
        · cases h
        · simp only [Except.ok.injEq, Prod.mk.injEq] at h
          obtain ⟨h3, rfl⟩ := h
          refine ⟨?_, by simp⟩
          have hk' : k = 0 ∨ k = 1 ∨ k = 2 ∨ k = 3 ∨ k = 4 ∨ k = 5 ∨ k = 6 ∨ k = 7 ∨ k = 8 ∨ k = 9 := by omega
          rcases hk' with rfl | rfl | rfl | rfl | rfl | rfl | rfl | rfl | rfl | rfl <;> omega
      · rename_i h2
        have e3 : 7 * k + 7 = 7 * (k + 1) := by omega
        rw [e3] at h
        have := dec_lt l (k + 1) _ n r (by omega) (by
          rw [← e3, Nat.pow_add]
          have h3 : b.toNat % 128 ≤ 127 := by omega
          have h4 : b.toNat % 128 * 2 ^ (7 * k) ≤ 127 * 2 ^ (7 * k) := Nat.mul_le_mul_right _ h3
          omega) h
        exact ⟨this.1, by simp; omega⟩
end Go.Sv
