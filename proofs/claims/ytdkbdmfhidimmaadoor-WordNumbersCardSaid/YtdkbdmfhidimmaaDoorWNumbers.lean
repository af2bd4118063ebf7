/- pasternlaw7.WordNumbers. -/
import Derived.Test.YtdkbdmfhidimmaaDoorKnown7
import Derived.Test.YtdkbdmfhidimmaaDoorWNumbers0
namespace Go.Sv
open Go Go.Proofs

theorem natD_le (m : Nat) : (natD m).length ≤ m + 1 := by
  induction m using Nat.strongRecOn with
  | _ m ih =>
    rw [natD]
    split
    · simp
    · have := ih (m / 10) (by omega)
      rw [List.length_append, List.length_singleton]; omega
theorem natD_20 (m : Nat) (h : m < 10 ^ 20) : (natD m).length ≤ 20 := by
  have key : ∀ (k m : Nat), m < 10 ^ (k + 1) → (natD m).length ≤ k + 1 := by
    intro k
    induction k with
    | zero => intro m hm; rw [natD, dif_pos (by simpa using hm)]; simp
    | succ k ih =>
      intro m hm
      rw [natD]
      split
      · simp
      · have h3 := ih (m / 10) (by rw [Nat.pow_succ] at hm; omega)
        rw [List.length_append, List.length_singleton]; omega
  exact key 19 m h
theorem addByteI {v : V} {out : List UInt8} {x : Int} (c : UInt8) (hx : x = c.toNat) (h : v = V.c (.string (S out ++ ⟨([V.c (.int .u8 x)].map byteOf).toArray⟩))) : Vle v (str (out ++ [c])) := by subst hx; exact addByte h

set_option maxRecDepth 100000 in
theorem nat_call (n : Nat) (hn : n < 2 ^ 64) : PCall Tryd.prog 32 [u64V n] (str (natD n)) := by
  induction n using Nat.strongRecOn with
  | _ n ih =>
  refine scall_of (live := []) (ords := []) Tryd.func32 rfl (by kernel_rfl) (by kernel_rfl) (Nat.le_of_ble_eq_true rfl) ?_
  rw [natD]
  (conv => arg 2; whnf); refine wp_ite (fun h => ?_) (fun h => ?_)
  · have h : n < 10 := by have := of_decide_eq_true h; omega
    have e1 : IntKind.u8.wrap (IntKind.u64.wrap (48 + (n : Int))) = ((UInt8.ofNat (48 + n)).toNat : Int) := by
      rw [w_u64_small (by omega) (by omega), digB n h, w_u8]; omega
    rw [dif_pos h]
    (conv => arg 2; whnf); refine wp_need (byteNeedI _ e1) ?_
    (conv => arg 2; whnf); refine w_retp rfl (byteStrI _ e1 rfl)
  · have h : ¬ n < 10 := by have := of_decide_eq_false h; omega
    rw [dif_neg h]
    have e0 : IntKind.u64.wrap ((n : Int).tdiv 10) = ((n / 10 : Nat) : Int) := by
      rw [Int.tdiv_eq_ediv_of_nonneg (by omega), w_u64_small (by omega) (by omega)]; omega
    have e1 : IntKind.u8.wrap (IntKind.u64.wrap (48 + (n : Int).tmod 10)) = ((UInt8.ofNat (48 + n % 10)).toNat : Int) := by
      rw [show (10 : Int) = ((10 : Nat) : Int) from rfl, tmod_nat, w_u64_small (by omega) (by omega), digB (n % 10) (by omega), w_u8]; omega
    have hlen := natD_le (n / 10)
    (conv => arg 2; whnf); refine wp_pcV (.cons (Vle.of _ rfl (cU64 e0)) .nil) (ih (n / 10) (by omega) (by omega)) ?_
    (conv => arg 2; whnf); refine wp_need (byteNeedI _ e1) ?_
    (conv => arg 2; whnf); refine wp_need (by rw [S_size]; show _ + 1 ≤ _; omega) ?_
    (conv => arg 2; whnf); refine w_retp rfl (addByteI _ e1 rfl)

set_option maxRecDepth 100000 in
theorem dec_call (n : Int) (h1 : -9223372036854775808 ≤ n) (h2 : n < 9223372036854775808) : PCall Tryd.prog 13 [i64V n] (str (decD n)) := by
  refine scall_of (live := []) (ords := []) Tryd.func13 rfl (by kernel_rfl) (by kernel_rfl) (Nat.le_of_ble_eq_true rfl) ?_
  have f := nat_call n.natAbs (by omega)
  rw [decD]
  (conv => arg 2; whnf); refine wp_ite (fun h => ?_) (fun h => ?_)
  · have h : n < 0 := of_decide_eq_true h
    rw [if_pos h]
    have a1 : IntKind.i64.wrap (n + 1) = n + 1 := w_i64_small (by omega) (by omega)
    have a2 : IntKind.i64.wrap (0 - (n + 1)) = 0 - (n + 1) := w_i64_small (by omega) (by omega)
    have a3 : IntKind.u64.wrap (0 - (n + 1)) = 0 - (n + 1) := w_u64_small (by omega) (by omega)
    have e1 : IntKind.u64.wrap (IntKind.u64.wrap (IntKind.i64.wrap (0 - (IntKind.i64.wrap (n + 1)))) + 1) = (n.natAbs : Int) := by
      rw [a1, a2, a3, w_u64_small (by omega) (by omega)]; omega
    (conv => arg 2; whnf); refine wp_pcallV (.cons (Vle.of _ rfl (cU64 e1)) .nil) f ?_
    have hl := natD_20 n.natAbs (by omega)
    (conv => arg 2; whnf); refine wp_need (by rw [S_size]; show 1 + _ ≤ _; omega) ?_
    (conv => arg 2; whnf); refine w_retp rfl (addStr [45] _ rfl)
  · have h : ¬ n < 0 := of_decide_eq_false h
    rw [if_neg h]
    have e1 : IntKind.u64.wrap n = (n.natAbs : Int) := by rw [w_u64_small (by omega) (by omega)]; omega
    (conv => arg 2; whnf); refine wp_pcallV (.cons (Vle.of _ rfl (cU64 e1)) .nil) f ?_
    (conv => arg 2; whnf); refine w_retp rfl (.refl _)

theorem decD_len (n : Int) (h1 : -9223372036854775808 ≤ n) (h2 : n < 9223372036854775808) : (decD n).length < 2 ^ 40 := by
  have h3 := natD_20 n.natAbs (by omega)
  unfold decD
  split
  · rw [List.length_cons]; omega
  · omega

def big0 : List UInt8 := [57, 50, 50, 51, 51, 55, 50, 48, 51, 54, 56, 53, 52, 55, 55, 53, 56, 48, 56]
def big1 : List UInt8 := [45, 57, 50, 50, 51, 51, 55, 50, 48, 51, 54, 56, 53, 52, 55, 55, 53, 56, 48, 57]
def big2 : List UInt8 := [57, 50, 50, 51, 51, 55, 50, 48, 51, 54, 56, 53, 52, 55, 55, 53, 56, 48, 55]
def big3 : List UInt8 := [45, 57, 50, 50, 51, 51, 55, 50, 48, 51, 54, 56, 53, 52, 55, 55, 53, 56, 48, 56]
theorem big0_cut : cutW big0 = .error 12 := by kernel_rfl
theorem big1_cut : cutW big1 = .error 12 := by kernel_rfl
theorem big2_cut : cutW big2 = .ok [⟨2, [], 9223372036854775807, 0⟩] := by kernel_rfl
theorem big3_cut : cutW big3 = .ok [⟨2, [], -9223372036854775808, 0⟩] := by kernel_rfl

set_option maxRecDepth 100000 in
set_option maxHeartbeats 1000000 in
theorem wnumbers_law (n : Int) (m : Nat) (more : Bool) (h1 : -9223372036854775808 ≤ n) (h2 : n < 9223372036854775808) (_ : m < 256) : PCall Tryd.prog 4 [i64V n, .c (.int .u8 m), bV more] (bV true) := by
  obtain ⟨z, hz, hz1⟩ : ∃ z : Nat, ((m : Int).tmod 2) = (z : Int) ∧ z < 2 := ⟨m % 2, tmod_nat m 2, by omega⟩
  obtain ⟨p, q, x, hp, hq, hpc, hqc⟩ : ∃ (p q : List UInt8) (x : Int), [str big0, str big1].getD (Int.toNat (z : Int)) .undef = str p ∧ [str big2, str big3].getD (Int.toNat (z : Int)) .undef = str q ∧
      PCall Tryd.prog 12 [str p] (.tup [wslV [], .c (errV (some 12))]) ∧ PCall Tryd.prog 12 [str q] (.tup [wslV [⟨2, [], x, 0⟩], .c .nilIface]) := by
    have : z = 0 ∨ z = 1 := by omega
    rcases this with rfl | rfl
    · exact ⟨_, _, _, rfl, rfl, cut_err (Nat.le_of_ble_eq_true rfl) big0_cut, cut_ok (Nat.le_of_ble_eq_true rfl) big2_cut⟩
    · exact ⟨_, _, _, rfl, rfl, cut_err (Nat.le_of_ble_eq_true rfl) big1_cut, cut_ok (Nat.le_of_ble_eq_true rfl) big3_cut⟩
  have hne : (0 : Int) ≤ (m : Int).tmod 2 ∧ (m : Int).tmod 2 < 2 ∧ 2 ≤ 2 := by rw [hz]; omega
  rw [← hz] at hp hq
  refine scall_of (live := []) (ords := [(6, []), (7, []), (9, [])]) Tryd.func4 rfl (by kernel_rfl) (by kernel_rfl) (Nat.le_of_ble_eq_true rfl) ?_
  (conv => arg 2; whnf); refine wp_pcall known7_call ?_
  (conv => arg 2; whnf); refine wp_ite (fun h => by first | cases h | (simp at h; done)) (fun _ => ?_)
  (conv => arg 2; whnf); refine wp_pcall (dec_call n h1 h2) ?_
  cases more with
  | true =>
    (repeat ((conv => arg 2; whnf); first | refine wp_ite (fun _ => ?_) (fun h => Bool.noConfusion h) | refine wp_ite (fun h => Bool.noConfusion h) (fun _ => ?_)))
    (conv => arg 2; whnf); refine wp_need hne ?_
    (conv => arg 2; whnf); refine wp_pcallV (.cons (Vle.of _ rfl hp) .nil) hpc ?_
    (conv => arg 2; whnf); refine wp_cutR (frL [(1, .c (.int .u8 m)), (9, .c (errV (some 12)))]) [] (.cons (.refl _) (.cons (.refl _) (.nil _))) (List.Sublist.refl _) ?_
    (conv => arg 2; whnf); refine wp_need hne ?_
    (conv => arg 2; whnf); refine wp_pcallV (.cons (Vle.of _ rfl hq) .nil) hqc ?_
    (conv => arg 2; whnf); refine wp_cutR (frL [(9, .c (errV (some 12))), (10, wslV [⟨2, [], x, 0⟩]), (11, .c .nilIface)]) [] (.cons (.refl _) (.cons (.refl _) (.cons (.refl _) (.nil _)))) (List.Sublist.refl _) ?_
    (conv => arg 2; whnf); refine wp_pcall (is_call (some 12) 12) ?_
    (conv => arg 2; whnf); refine wp_ite (fun _ => ?_) (fun h => absurd h (by decide))
    (repeat ((conv => arg 2; whnf); first | refine wp_ite (fun _ => ?_) (fun h => Bool.noConfusion h) | refine wp_ite (fun h => Bool.noConfusion h) (fun _ => ?_)))
    (conv => arg 2; whnf); refine wp_elem 0 (wdV ⟨2, [], x, 0⟩) rfl rfl (Vle.refl _) ?_
    (conv => arg 2; whnf); refine w_retp rfl (.refl _)
  | false =>
    (repeat ((conv => arg 2; whnf); first | refine wp_ite (fun _ => ?_) (fun h => Bool.noConfusion h) | refine wp_ite (fun h => Bool.noConfusion h) (fun _ => ?_)))
    (conv => arg 2; whnf); refine wp_pcall (cut_ok (decD_len n h1 h2) (cut_dec n h1 h2)) ?_
    (conv => arg 2; whnf); refine wp_cutR (frL [(0, i64V n), (12, wslV [⟨2, [], n, 0⟩]), (13, .c .nilIface)]) [] (.cons (.refl _) (.cons (.refl _) (.cons (.refl _) (.nil _)))) (List.Sublist.refl _) ?_
    (repeat ((conv => arg 2; whnf); first | refine wp_ite (fun _ => ?_) (fun h => Bool.noConfusion h) | refine wp_ite (fun h => Bool.noConfusion h) (fun _ => ?_)))
    (conv => arg 2; whnf); refine wp_elem 0 (wdV ⟨2, [], n, 0⟩) rfl rfl (Vle.refl _) ?_
    (repeat ((conv => arg 2; whnf); first | refine wp_ite (fun _ => ?_) (fun h => Bool.noConfusion h) | refine wp_ite (fun h => Bool.noConfusion h) (fun _ => ?_)))
    (conv => arg 2; whnf); refine wp_elem 0 (wdV ⟨2, [], n, 0⟩) rfl rfl (Vle.refl _) ?_
    (conv => arg 2; whnf); refine wp_ite (fun _ => ?_) (fun h => by simp at h)
    (conv => arg 2; whnf); refine wp_elem 0 (wdV ⟨2, [], n, 0⟩) rfl rfl (Vle.refl _) ?_
    (conv => arg 2; whnf); refine w_retp rfl (.refl _)
end Go.Sv
