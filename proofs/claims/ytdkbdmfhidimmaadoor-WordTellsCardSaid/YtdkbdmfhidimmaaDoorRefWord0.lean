/- Numbers as the reference reads them: the plain functions agree. -/
import Derived.Test.YtdkbdmfhidimmaaDoorWNumbers0
namespace Go.Sv
open Go

theorem digV_mono : ∀ (a b : List UInt8) (acc : Nat), digV acc a ≤ digV acc (a ++ b)
  | [], b, acc => digV_le b acc
  | c :: a, b, acc => digV_mono a b (acc * 10 + (c.toNat - 48))
theorem parseM_val : ∀ (l : List UInt8) (acc : Nat), (∀ c ∈ l, isDg c = true) → acc ≤ 2 ^ 64 - 1 → Lib.parseUintM (2 ^ 64 - 1) acc l = if digV acc l ≤ 2 ^ 64 - 1 then .ok (digV acc l) else .range
  | [], acc, _, h => by
    show Lib.NumEnd.ok acc = if acc ≤ 2 ^ 64 - 1 then .ok acc else .range
    rw [if_pos h]
  | c :: l, acc, hd, h => by
    have hc : 48 ≤ c.toNat ∧ c.toNat ≤ 57 := by simpa [isDg] using hd c (by simp)
    have h1 := digV_le l (acc * 10 + (c.toNat - 48))
    have e : digV acc (c :: l) = digV (acc * 10 + (c.toNat - 48)) l := rfl
    have ih := fun h => parseM_val l (acc * 10 + (c.toNat - 48)) (fun d hx => hd d (by simp [hx])) h
    rw [e]
    generalize digV (acc * 10 + (c.toNat - 48)) l = v at *
    rw [Lib.parseUintM, if_pos hc]
    by_cases a1 : 1844674407370955162 ≤ acc
    · rw [if_pos a1, if_neg (by omega)]
    · rw [if_neg a1]
      by_cases a2 : 2 ^ 64 - 1 < acc * 10 + (c.toNat - 48)
      · rw [if_pos a2, if_neg (by omega)]
      · rw [if_neg a2]
        exact ih (by omega)

theorem take_takeWhile (l : List UInt8) : l.take (spanN isDg l) = l.takeWhile isDg := by
  induction l with
  | nil => simp [spanN]
  | cons c l ih =>
    cases h : isDg c with
    | true => rw [spanN_cons h, List.take_succ_cons, ih, List.takeWhile_cons_of_pos h]
    | false => rw [spanN_stop h, List.takeWhile_cons_of_neg (by rw [h]; decide)]; rfl
theorem take_dg (l : List UInt8) : ∀ c ∈ l.take (spanN isDg l), isDg c = true := by
  intro c hc
  rw [take_takeWhile] at hc
  have := List.all_takeWhile (p := isDg) (l := l)
  rw [List.all_eq_true] at this
  exact this c hc
/-- A number without a sign. -/
theorem numR_pos {c : UInt8} {r : List UInt8} (h : isDg c = true) : numR (c :: r) = if digV 0 ((c :: r).take (spanN isDg (c :: r))) ≤ 9223372036854775807 then .ok ⟨2, [], (digV 0 ((c :: r).take (spanN isDg (c :: r))) : Nat), spanN isDg (c :: r)⟩ else .error 12 := by
  have hc : 48 ≤ c.toNat ∧ c.toNat ≤ 57 := by simpa [isDg] using h
  have hs : 1 + spanN isDg r = spanN isDg (c :: r) := by rw [spanN_cons h]; omega
  have hd := take_dg (c :: r)
  rw [numR, List.drop_succ_cons, List.drop_zero, hs]
  have hne : (c :: r).take (spanN isDg (c :: r)) = c :: r.take (spanN isDg r) := by rw [spanN_cons h, List.take_succ_cons]
  have hp := parseM_val ((c :: r).take (spanN isDg (c :: r))) 0 hd (by omega)
  generalize spanN isDg (c :: r) = n at *
  rw [hne] at hp ⊢
  rw [Lib.parseIntB, if_neg (by omega), Lib.parseUintB, if_neg (by simp), hp]
  generalize digV 0 (c :: r.take (spanN isDg r)) = u
  by_cases a1 : u ≤ 2 ^ 64 - 1
  · rw [if_pos a1]
    simp only
    by_cases a2 : u ≤ 9223372036854775807
    · rw [if_pos a2, if_neg (by omega), if_neg (by omega), if_neg (by omega)]; rfl
    · rw [if_neg a2, if_pos (by omega)]; rfl
  · rw [if_neg a1, if_neg (by omega)]; rfl
/-- A number with a sign. -/
theorem numR_neg {r : List UInt8} (h : isDg (r.headD 0) = true) (hr : r ≠ []) : numR (45 :: r) = if digV 0 (r.take (spanN isDg r)) ≤ 9223372036854775808 then .ok ⟨2, [], -((digV 0 (r.take (spanN isDg r)) : Nat) : Int), 1 + spanN isDg r⟩ else .error 12 := by
  have hd := take_dg r
  have hne : r.take (spanN isDg r) ≠ [] := by
    cases r with
    | nil => exact absurd rfl hr
    | cons c r =>
      have h : isDg c = true := h
      rw [spanN_cons h, List.take_succ_cons]; simp
  rw [numR, List.drop_succ_cons, List.drop_zero]
  have hp := parseM_val (r.take (spanN isDg r)) 0 hd (by omega)
  have ht : (45 :: r : List UInt8).take (1 + spanN isDg r) = 45 :: r.take (spanN isDg r) := by rw [Nat.add_comm, List.take_succ_cons]
  rw [ht]
  generalize spanN isDg r = n at *
  rw [Lib.parseIntB, if_pos (.inr rfl), Lib.parseUintB, if_neg hne, hp]
  generalize digV 0 (r.take n) = u
  by_cases a1 : u ≤ 2 ^ 64 - 1
  · rw [if_pos a1]
    simp only
    by_cases a2 : u ≤ 9223372036854775808
    · rw [if_pos a2, if_neg (by simp), if_neg (by omega), if_pos (by decide)]; rfl
    · rw [if_neg a2, if_neg (by simp), if_pos ⟨by decide, by omega⟩]; rfl
  · rw [if_neg a1, if_neg (by omega)]; rfl
end Go.Sv
