/- The package bytes: its reader. -/
import Derived.Test.YtgkfpgkpdkmjbaaBytes
namespace Go.Sv
open Go Go.Proofs

def numPost (b : Nat) (e : Option Nat) (r : Except Nat (Nat × List UInt8)) (v : V) (R' : List Res) : Prop :=
  match r with
  | .ok (n, l') => v = .tup [u64V n, .c .nilIface] ∧ R' = RRes b l' e
  | .error c => ∃ l', v = .tup [u64V 0, .c (errV (some c))] ∧ R' = RRes b l' e

theorem num_step {k acc : Nat} {x : Int} {a : Nat} (hx : x = ((a % 128 : Nat) : Int)) (ha : a < 256) (hk : k ≤ 9) (hacc : acc < 2 ^ (7 * k)) (hno : ¬ (7 * k + 7 > 64 ∧ a > 1)) :
    IntKind.u64.wrap ((BitVec.ofInt IntKind.u64.bits (acc : Int) ||| BitVec.ofInt IntKind.u64.bits (IntKind.u64.wrap (x * 2 ^ min (((7 * k : Nat) : Int).toNat) IntKind.u64.bits))).toNat : Int) = ((acc + a % 128 * 2 ^ (7 * k) : Nat) : Int) ∧
    acc + a % 128 * 2 ^ (7 * k) < 18446744073709551616 := by
  subst hx
  have hb : a % 128 * 2 ^ (7 * k) < 18446744073709551616 ∧ acc + a % 128 * 2 ^ (7 * k) < 18446744073709551616 ∧ 2 ^ (7 * k) ≤ 18446744073709551616 := by
    have hk' : k = 0 ∨ k = 1 ∨ k = 2 ∨ k = 3 ∨ k = 4 ∨ k = 5 ∨ k = 6 ∨ k = 7 ∨ k = 8 ∨ k = 9 := by omega
    rcases hk' with rfl | rfl | rfl | rfl | rfl | rfl | rfl | rfl | rfl | rfl <;> refine ⟨?_, ?_, ?_⟩ <;> omega
  have e0 : min (((7 * k : Nat) : Int).toNat) IntKind.u64.bits = 7 * k := by
    show min (((7 * k : Nat) : Int).toNat) 64 = 7 * k
    rw [Int.toNat_natCast]; omega
  have e1 : IntKind.u64.wrap (((a % 128 : Nat) : Int) * 2 ^ min (((7 * k : Nat) : Int).toNat) IntKind.u64.bits) = ((2 ^ (7 * k) * (a % 128) : Nat) : Int) := by
    rw [e0]
    have : (((a % 128 : Nat) : Int) * 2 ^ (7 * k)) = ((a % 128 * 2 ^ (7 * k) : Nat) : Int) := by push_cast; rfl
    rw [this, w_u64_small (by omega) (by omega), Nat.mul_comm]
  rw [e1, or_u64 (by omega) (by rw [Nat.mul_comm]; omega), Nat.or_comm, ← Nat.two_pow_add_eq_or_of_lt hacc, Nat.add_comm, Nat.mul_comm]
  exact ⟨rfl, hb.2.1⟩

set_option maxRecDepth 100000 in
theorem rnum_call (b : Nat) (l : List UInt8) (e : Option Nat) (most : Nat) (hl : l.length < 2 ^ 60) :
    SCall Try.prog 41 [.loc b 0, u64V most] (RRes b l e) (numPost b e (decN most l)) := by
  refine scall_of (live := []) (ords := [(10, []), (12, []), (15, [])]) Try.func41 rfl (by kernel_rfl) (by kernel_rfl) (Nat.le_of_ble_eq_true rfl) ?_
  refine wp_loop (fun m fr R => ∃ (l' : List UInt8) (k acc : Nat), m = l'.length ∧ l'.length ≤ l.length ∧ k ≤ 9 ∧ acc < 2 ^ (7 * k) ∧ dec (7 * k) acc l' = dec 0 0 l ∧ R = RRes b l' e ∧ fr = frL [(0, .loc b 0), (1, u64V most), (6, u64V acc), (7, i64V ((7 * k : Nat) : Int))])
    l.length _ _ (.cons (.refl _) (.cons (.refl _) (.cons (.refl _) (.cons (.refl _) (.nil _))))) (List.Sublist.refl _) ⟨l, 0, 0, rfl, Nat.le_refl _, by omega, by omega, rfl, rfl, rfl⟩ ?_
  rintro m fr R ⟨l', k, acc, rfl, hle, hk, hacc, hdec, rfl, rfl⟩
  refine wp_load 0 rfl rfl ?_
  cases l' with
  | nil =>
    refine wp_ite (fun h => ?_) (fun h => ?_)
    · refine wp_leaf (loop_ret ?_)
      refine wp_leaf (ends_ret (v := .tup [u64V 0, .c (errV (some 11))]) (resV_tmp (resV_tmp resV_nil)) (Vle.refl _) (List.Sublist.refl _) ?_)
      have hd : decN most l = .error 11 := by simp [decN, ← hdec, dec]
      rw [hd]
      exact ⟨[], rfl, rfl⟩
    · simp [S_toList, emp_toList] at h
  | cons a l' =>
    have hb := u8_lt a
    refine wp_ite (fun h => ?_) (fun h => ?_)
    · simp [S_toList, emp_toList] at h
    · refine wp_load 0 rfl rfl ?_
      refine wp_need ⟨by omega, by simp⟩ ?_
      refine wp_load 0 rfl rfl ?_
      refine wp_need ⟨by omega, by simp; omega⟩ ?_
      refine wp_store 0 (us := [str l']) rfl (.cons (Vle.eq (cStr (by simp))) .nil) (Nat.le_add_right _ _) rfl ?_
      have hd : dec (7 * k) acc (a :: l') = dec 0 0 l := hdec
      simp only [dec] at hd
      have eb : IntKind.u64.wrap ((byteAt (S (a :: l')) (Int.toNat 0)).toNat : Int) = (a.toNat : Int) := by
        rw [w_u64]; simp only [S_byteAt]; show ((a.toNat : Int) % _) = _; omega
      have es : IntKind.i64.wrap (((7 * k : Nat) : Int) + 7) = ((7 * k + 7 : Nat) : Int) := by rw [w_i64]; omega
      refine wp_cut (frL [(0, .loc b 0), (1, u64V most), (6, u64V acc), (7, i64V ((7 * k : Nat) : Int)), (8, u64V a.toNat), (9, u64V (a.toNat % 128))]) (.cons (.refl _) (.cons (.refl _) (.cons (.refl _) (.cons (.refl _) (.cons (Vle.eq (cU64 eb)) (.cons (Vle.eq ?ek) (.nil _))))))) ?_
      case ek =>
        refine cU64 ?_
        rw [eb, Int.tmod_eq_emod_of_nonneg (by omega)]
        omega
      refine wp_ite (fun h2 => wp_ite (fun h3 => ?e1) (fun h3 => ?c1)) (fun h2 => wp_ite (fun h3 => ?e2) (fun h3 => ?c2))
      case e1 =>
        have h4 : 7 * k + 7 > 64 ∧ a.toNat > 1 := by
          rw [es] at h2; simp at h2 h3; omega
        rw [if_pos h4] at hd
        refine wp_leaf (loop_ret ?_)
        refine wp_leaf (ends_ret (v := .tup [u64V 0, .c (errV (some 10))]) (resV_tmp (resV_tmp resV_nil)) (Vle.refl _) (List.Sublist.refl _) ?_)
        have hd : decN most l = .error 10 := by simp [decN, ← hd]
        rw [hd]
        exact ⟨l', rfl, rfl⟩
      case e2 => cases h3
      all_goals
        have hno : ¬ (7 * k + 7 > 64 ∧ a.toNat > 1) := by
          rintro ⟨hx, hy⟩
          first
            | (simp at h3; omega)
            | (rw [es] at h2; simp at h2; omega)
        rw [if_neg hno] at hd
        obtain ⟨hn, hnlt⟩ := num_step (x := ((a.toNat % 128 : Nat) : Int)) rfl hb hk hacc hno
        refine wp_need (by omega) ?_
        refine wp_cut (frL [(0, .loc b 0), (1, u64V most), (6, u64V (acc + a.toNat % 128 * 2 ^ (7 * k))), (7, i64V ((7 * k : Nat) : Int)), (8, u64V a.toNat)]) (.cons (.refl _) (.cons (.refl _) (.cons (Vle.eq (cU64 hn)) (.cons (.refl _) (.cons (.refl _) (.nil _)))))) ?_
        refine wp_ite (fun h4 => ?_) (fun h4 => ?_)
        · have h4 : a.toNat < 128 := by simp at h4; omega
          rw [if_pos h4] at hd
          refine wp_ite (fun h5 => wp_ite (fun h6 => ?_) (fun h6 => ?_)) (fun h5 => wp_ite (fun h6 => ?_) (fun h6 => ?_))
          · have h7 : a.toNat = 0 ∧ 7 * k > 0 := by
              simp at h5 h6; omega
            rw [if_pos h7] at hd
            refine wp_leaf (loop_ret ?_)
            refine wp_leaf (ends_ret (v := .tup [u64V 0, .c (errV (some 10))]) (resV_tmp (resV_tmp resV_nil)) (Vle.refl _) (List.Sublist.refl _) ?_)
            have hd : decN most l = .error 10 := by simp [decN, ← hd]
            rw [hd]
            exact ⟨l', rfl, rfl⟩
          rotate_left
          · cases h6
          all_goals
            have h7 : ¬ (a.toNat = 0 ∧ 7 * k > 0) := by
              rintro ⟨hx, hy⟩
              first
                | (simp at h6; omega)
                | (simp at h5; omega)
            rw [if_neg h7] at hd
            refine wp_leaf (loop_exit ?_)
            refine wp_cut (frL [(1, u64V most), (6, u64V (acc + a.toNat % 128 * 2 ^ (7 * k)))]) (.cons (.refl _) (.cons (.refl _) (.nil _))) ?_
            refine wp_ite (fun h8 => ?_) (fun h8 => ?_)
            · have h8 : acc + a.toNat % 128 * 2 ^ (7 * k) > most := Int.ofNat_lt.1 (of_decide_eq_true h8)
              refine wp_leaf (ends_ret (v := .tup [u64V 0, .c (errV (some 12))]) (resV_tmp (resV_tmp resV_nil)) (Vle.refl _) (List.Sublist.refl _) ?_)
              have hd : decN most l = .error 12 := by simp [decN, ← hd, h8]
              rw [hd]
              exact ⟨l', rfl, rfl⟩
            · have h8 : ¬ acc + a.toNat % 128 * 2 ^ (7 * k) > most := fun hx => of_decide_eq_false h8 (Int.ofNat_lt.2 hx)
              refine wp_leaf (ends_ret (v := .tup [u64V (acc + a.toNat % 128 * 2 ^ (7 * k)), .c .nilIface]) (resV_tmp (resV_tmp resV_nil)) (Vle.refl _) (List.Sublist.refl _) ?_)
              have hd : decN most l = .ok (acc + a.toNat % 128 * 2 ^ (7 * k), l') := by simp only [decN, ← hd]; rw [if_neg h8]
              rw [hd]
              exact ⟨rfl, rfl⟩
        · have h4 : ¬ a.toNat < 128 := by simp at h4; omega
          rw [if_neg h4] at hd
          have e9 : 7 * k + 7 = 7 * (k + 1) := by omega
          refine wp_leaf (loop_next l'.length (frL [(0, .loc b 0), (1, u64V most), (6, u64V (acc + a.toNat % 128 * 2 ^ (7 * k))), (7, i64V ((7 * (k + 1) : Nat) : Int))]) _ (by simp) (.cons (.refl _) (.cons (.refl _) (.cons (.refl _) (.cons (Vle.eq ?_) (.nil _))))) (List.Sublist.refl _) ⟨l', k + 1, acc + a.toNat % 128 * 2 ^ (7 * k), rfl, by simp at hle; omega, by omega, ?_, ?_, rfl, rfl⟩)
          · refine cI64 ?_
            rw [es, e9]
          · rw [← e9, Nat.pow_add]
            have h3 : a.toNat % 128 ≤ 127 := by omega
            have h4 : a.toNat % 128 * 2 ^ (7 * k) ≤ 127 * 2 ^ (7 * k) := Nat.mul_le_mul_right _ h3
            omega
          · rw [← e9]; exact hd
end Go.Sv
