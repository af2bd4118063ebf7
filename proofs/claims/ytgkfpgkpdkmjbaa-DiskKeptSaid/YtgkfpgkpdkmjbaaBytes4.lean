/- The package bytes: numbers with a sign; errors.Is; what the law's own look knows. -/
import Derived.Test.YtgkfpgkpdkmjbaaBytes3
import Derived.Test.YtgkfpgkpdkmjbaaIs
namespace Go.Sv
open Go Go.Proofs

theorem rdN_lt (most : Nat) (hm : most < 18446744073709551616) (l : List UInt8) (e : Option Nat) : (rdN most l e).1 < 18446744073709551616 ∧ (rdN most l e).2.1.length ≤ l.length := by
  unfold rdN step
  cases e with
  | some c => simp
  | none =>
    simp only
    cases hd : decN most l with
    | error c => simp
    | ok p =>
      unfold decN at hd
      cases h2 : dec 0 0 l with
      | error c => rw [h2] at hd; cases hd
      | ok q =>
        rw [h2] at hd
        simp only at hd
        split at hd
        · cases hd
        · simp only [Except.ok.injEq] at hd
          subst hd
          have := dec_lt l 0 0 _ _ (by omega) (by omega) (by simpa using h2)
          simp only; omega

theorem shr1 (n : Nat) : ((n : Int).fdiv (2 ^ min (1 : Int).toNat IntKind.u64.bits)) = ((n / 2 : Nat) : Int) := by
  have : min (1 : Int).toNat IntKind.u64.bits = 1 := rfl
  rw [this, Int.fdiv_eq_ediv_of_nonneg _ (by omega)]
  omega

set_option maxRecDepth 100000 in
theorem rdI_call (b : Nat) (l : List UInt8) (e : Option Nat) (hl : l.length < 2 ^ 60) : SCall Try.prog 22 [.loc b 0] (RRes b l e) fun v R' => v = i64V (rdI l e).1 ∧ R' = RRes b (rdI l e).2.1 (rdI l e).2.2 := by
  refine scall_of (live := []) (ords := []) Try.func22 rfl (by kernel_rfl) (by kernel_rfl) (Nat.le_of_ble_eq_true rfl) ?_
  refine wp_call (rdN_call b l e 18446744073709551615 hl) ?_
  rintro v R' ⟨rfl, rfl⟩
  obtain ⟨hn, _⟩ := rdN_lt 18446744073709551615 (by omega) l e
  have ha := and_u64 (a := (rdN 18446744073709551615 l e).1) (b := 1) hn (by omega)
  rw [Nat.and_one_is_mod] at ha
  have hs := shr1 (rdN 18446744073709551615 l e).1
  refine wp_ite (fun h => ?_) (fun h => ?_)
  · have h : (rdN 18446744073709551615 l e).1 % 2 = 1 := by
      have h2 := eq_of_beq h
      have h3 := ha.symm.trans h2
      omega
    refine wp_leaf (ends_ret (v := i64V (rdI l e).1) (resV_tmp resV_nil) (Vle.eq ?_) (List.Sublist.refl _) ⟨rfl, rfl⟩)
    refine cI64 ?_
    rw [hs]
    simp only [rdI, zag, if_pos h, w_i64]
    omega
  · have h : ¬ (rdN 18446744073709551615 l e).1 % 2 = 1 := by
      intro hx
      have h2 : ¬ ((((rdN 18446744073709551615 l e).1 % 2 : Nat) : Int) = 1) := by
        intro h3
        have h4 := ha.trans h3
        have h5 := beq_eq_false_iff_ne.1 h
        exact h5 h4
      omega
    refine wp_leaf (ends_ret (v := i64V (rdI l e).1) (resV_tmp resV_nil) (Vle.eq ?_) (List.Sublist.refl _) ⟨rfl, rfl⟩)
    refine cI64 ?_
    rw [hs]
    simp only [rdI, zag, if_neg h, w_i64]
    omega

theorem is_fn : isFn Try.prog 27 := ⟨_, _, Try.func27, rfl, by kernel_rfl⟩

theorem is_call (e : Option Nat) (n : Nat) : PCall Try.prog 27 [.c (errV e), .c (errV (some n))] (bV (e == some n)) := by
  refine pcall_of_calls is_fn fun g w xs hw hx => ?_
  simp only [RelL, RelV] at hx
  obtain ⟨x, ys, rfl, rfl, y, zs, rfl, rfl, rfl⟩ := hx
  cases e with
  | none =>
    refine Calls.mono (TryIs.is_nil n w) ?_
    rintro e w' ⟨rfl, rfl⟩
    exact ⟨_, rfl, rfl, by simp only [bV, RelV]; rfl⟩
  | some m =>
    refine Calls.mono (TryIs.is_calls m n w) ?_
    rintro e w' ⟨rfl, rfl⟩
    refine ⟨_, rfl, rfl, ?_⟩
    simp only [bV, RelV, Value.bool.injEq]
    rw [Bool.eq_iff_iff]
    simp
    omega
end Go.Sv
