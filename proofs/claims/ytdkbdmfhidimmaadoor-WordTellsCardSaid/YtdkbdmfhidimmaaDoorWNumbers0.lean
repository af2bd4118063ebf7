/- Numbers written and read. -/
import Derived.Test.YtdkbdmfhidimmaaDoorWordFns
namespace Go.Sv
open Go

/-- A number, digit by digit. -/
def natD (n : Nat) : List UInt8 := if h : n < 10 then [UInt8.ofNat (48 + n)] else natD (n / 10) ++ [UInt8.ofNat (48 + n % 10)]
termination_by n
decreasing_by omega
def decD (n : Int) : List UInt8 := if n < 0 then 45 :: natD n.natAbs else natD n.natAbs
def digV : Nat → List UInt8 → Nat
  | acc, [] => acc
  | acc, c :: l => digV (acc * 10 + (c.toNat - 48)) l
theorem digV_le : ∀ (l : List UInt8) (acc : Nat), acc ≤ digV acc l
  | [], _ => Nat.le_refl _
  | c :: l, acc => by
    exact Nat.le_trans (by omega) (digV_le l (acc * 10 + (c.toNat - 48)))
theorem digV_app : ∀ (l : List UInt8) (acc : Nat) (c : UInt8), digV acc (l ++ [c]) = digV acc l * 10 + (c.toNat - 48)
  | [], _, _ => rfl
  | d :: l, acc, c => digV_app l (acc * 10 + (d.toNat - 48)) c
theorem digB (n : Nat) (h : n < 10) : (UInt8.ofNat (48 + n)).toNat = 48 + n := by rw [UInt8.toNat_ofNat']; omega
theorem natD_dig (n : Nat) : (∀ c ∈ natD n, isDg c = true) ∧ natD n ≠ [] ∧ digV 0 (natD n) = n := by
  induction n using Nat.strongRecOn with
  | _ n ih =>
    rw [natD]
    split
    · rename_i h
      refine ⟨fun c hc => ?_, by simp, ?_⟩
      · rw [List.mem_singleton.1 hc]
        rw [isDg, digB n h, decide_eq_true (by omega), decide_eq_true (by omega)]; rfl
      · show 0 * 10 + ((UInt8.ofNat (48 + n)).toNat - 48) = n
        rw [digB n h]; omega
    · rename_i h
      obtain ⟨h1, h2, h3⟩ := ih (n / 10) (by omega)
      refine ⟨fun c hc => ?_, by simp, ?_⟩
      · rcases List.mem_append.1 hc with hc | hc
        · exact h1 c hc
        · rw [List.mem_singleton.1 hc]
          rw [isDg, digB (n % 10) (by omega), decide_eq_true (by omega), decide_eq_true (by omega)]; rfl
      · rw [digV_app, h3, digB _ (by omega)]; omega
theorem parse_digits : ∀ (l : List UInt8) (acc : Nat), (∀ c ∈ l, isDg c = true) → digV acc l ≤ 2 ^ 63 → Lib.parseUintM (2 ^ 64 - 1) acc l = .ok (digV acc l)
  | [], _, _, _ => rfl
  | c :: l, acc, h, hv => by
    have hc : 48 ≤ c.toNat ∧ c.toNat ≤ 57 := by simpa [isDg] using h c (by simp)
    have hv' : digV (acc * 10 + (c.toNat - 48)) l ≤ 2 ^ 63 := hv
    have h1 := Nat.le_trans (digV_le l (acc * 10 + (c.toNat - 48))) hv'
    have hr := parse_digits l _ (fun d hd => h d (by simp [hd])) hv'
    clear hv hv'
    rw [Lib.parseUintM, if_pos hc, if_neg (by omega), if_neg (by omega)]
    exact hr
theorem span_all {p : UInt8 → Bool} : ∀ {l : List UInt8}, (∀ c ∈ l, p c = true) → spanN p l = l.length
  | [], _ => rfl
  | c :: l, h => by rw [spanN_cons (h c (by simp)), span_all fun d hd => h d (by simp [hd])]; rfl
theorem parse_dec (n : Int) (h1 : -9223372036854775808 ≤ n) (h2 : n < 9223372036854775808) : Lib.parseIntB 64 (decD n) = .ok n := by
  obtain ⟨d1, d2, d3⟩ := natD_dig n.natAbs
  have hp := parse_digits (natD n.natAbs) 0 d1 (by rw [d3]; omega)
  rw [d3] at hp
  unfold decD
  split
  · rename_i h
    rw [Lib.parseIntB]
    rw [if_pos (.inr rfl), Lib.parseUintB, if_neg d2, hp]
    simp only
    rw [if_neg (by simp), if_neg (by omega), if_pos (by decide)]
    congr 1; omega
  · rename_i h
    cases hl : natD n.natAbs with
    | nil => exact absurd hl d2
    | cons c r =>
      have hc : 48 ≤ c.toNat ∧ c.toNat ≤ 57 := by simpa [isDg] using d1 c (by rw [hl]; simp)
      rw [hl] at hp
      rw [Lib.parseIntB]
      rw [if_neg (by omega), Lib.parseUintB, if_neg (by simp), hp]
      simp only
      rw [if_neg (by omega), if_neg (by omega), if_neg (by omega)]
      congr 1; omega
theorem dec_shape (n : Int) : ∃ c r, decD n = c :: r ∧ (∀ d ∈ r, isDg d = true) ∧ (isDg c = true ∨ (c = 45 ∧ r ≠ [])) := by
  obtain ⟨d1, d2, d3⟩ := natD_dig n.natAbs
  unfold decD
  split
  · exact ⟨45, _, rfl, d1, .inr ⟨rfl, d2⟩⟩
  · cases hl : natD n.natAbs with
    | nil => exact absurd hl d2
    | cons c r =>
      rw [hl] at d1
      exact ⟨c, r, rfl, fun d hd => d1 d (by simp [hd]), .inl (d1 c (by simp))⟩
theorem dg_not {c : UInt8} (h : isDg c = true) : isSm c = false ∧ isGr c = false ∧ c ≠ 32 := by
  have hc : 48 ≤ c.toNat ∧ c.toNat ≤ 57 := by simpa [isDg] using h
  refine ⟨by simp [isSm]; omega, by simp [isGr]; omega, ?_⟩
  rintro rfl; revert hc; decide
theorem cut_dec (n : Int) (h1 : -9223372036854775808 ≤ n) (h2 : n < 9223372036854775808) : cutW (decD n) = .ok [⟨2, [], n, 0⟩] := by
  have hp := parse_dec n h1 h2
  obtain ⟨c, r, e, hr, hc⟩ := dec_shape n
  rw [e] at hp ⊢
  have hn : numR (c :: r) = .ok ⟨2, [], n, (c :: r).length⟩ := by
    rw [numR, List.drop_succ_cons, List.drop_zero, span_all hr, List.take_of_length_le (by simp; omega), hp]
    simp [numE, Nat.add_comm]
  have hx : nextR (c :: r) = .ok ⟨2, [], n, (c :: r).length⟩ := by
    rw [nextR_cons]
    rcases hc with hc | ⟨rfl, hne⟩
    · obtain ⟨a1, a2, _⟩ := dg_not hc
      rw [a1, a2, hc, if_neg (by decide), if_neg (by decide), if_pos (Bool.true_or _), hn]
    · cases r with
      | nil => exact absurd rfl hne
      | cons d r' =>
        rw [if_neg (by decide), if_neg (by decide), if_pos (by simp [hr d (by simp)]), hn]
  have hne : c ≠ 32 := by
    rcases hc with hc | ⟨rfl, _⟩
    · exact (dg_not hc).2.2
    · decide
  have hi : itemsF (c :: r).length 0 (c :: r) = [(⟨2, [], n, 0⟩, none)] := by
    show itemsF (r.length + 1) 0 (c :: r) = _
    rw [show itemsF (r.length + 1) 0 (c :: r) = if c = 32 then itemsF r.length (0 + 1) r else match nextR (c :: r) with
      | .error e => [(wd0, some e)]
      | .ok x => (x.wd 0, none) :: itemsF r.length (0 + x.len) ((c :: r).drop x.len) from rfl, if_neg hne, hx]
    simp only
    rw [List.drop_length]
    cases r.length <;> rfl
  rw [cutW, hi]; rfl
end Go.Sv
