/- pasternlaw27.DiskLimits. -/
import Derived.Test.YtgkfpgkpdkmjbaaDCrash
namespace Go.Sv
open Go Go.Proofs

def wElder : List UInt8 := [101, 108, 100, 101, 114]

theorem VleL_eq {a b : List V} (h : a = b) : VleL a b := by subst h; exact VleL.refl _

set_option maxRecDepth 100000 in
set_option maxHeartbeats 2000000 in
theorem dlimits_law (n : Nat) (hn : n < 256) : PCall Try.prog 10 [.c (.int .u8 n)] (bV true) := by
  obtain ⟨k, hk, hk1, hk2⟩ : ∃ k : Nat, k = 12671 + n % 3 ∧ 12671 ≤ k ∧ k ≤ 12673 := ⟨_, rfl, by omega, by omega⟩
  refine scall_of (live := []) (ords := [(4, [])]) Try.func10 rfl (by kernel_rfl) (by kernel_rfl) (Nat.le_of_ble_eq_true rfl) ?_
  (conv => arg 2; whnf); refine wp_pcall known27_call ?_
  (conv => arg 2; whnf); refine wp_ite (fun h => by first | cases h | (simp at h; done)) (fun _ => ?_)
  (conv => arg 2; whnf)
  have w1 : IntKind.i64.wrap (12671 + IntKind.i64.wrap ((n : Int).tmod 3)) = (k : Int) := by
    have a : ((n : Int).tmod 3) = ((n % 3 : Nat) : Int) := by rw [Int.tmod_eq_emod_of_nonneg (by omega)]; omega
    have a1 : IntKind.i64.wrap ((n % 3 : Nat) : Int) = ((n % 3 : Nat) : Int) := w_i64_small (by omega) (by omega)
    rw [a, a1, w_i64_small (by omega) (by omega)]; omega
  (conv => arg 2; whnf); refine wp_cutR (frL [(3, i64V k)]) [] (.cons (Vle.i64 _ rfl w1) (.nil _)) (by simp) ?_
  clear w1 hk
  (conv => arg 2; whnf); refine wp_callF [] [] [] rfl dnew_call ?_
  rintro v R' ⟨d, rfl, rfl⟩
  (conv => arg 2; whnf); refine wp_callF [] (DRes d none dNew) [] (by simp) (calm_save d none calm_new (by omega) (s := wElder) (by decide)) ?_
  rintro v R' ⟨rfl, t, D, rfl, hC, _, hL⟩
  (conv => arg 2; whnf); refine wp_ite (fun h => by first | cases h | (simp at h; done)) (fun _ => ?_)
  (conv => arg 2; whnf); refine wp_makeE k k (List.replicate k (byteV 0)) rfl rfl (Nat.le_refl _) (by show (k : Int) * 1 ≤ _; omega) (by rw [flat_one]; rfl) fun b => ?_
  (conv => arg 2; whnf); refine wp_strE (cs := List.replicate k (byteV 0)) (DRes d t D).length 0 k (List.replicate k 0) (by simp) rfl rfl (VleL_eq (by simp)) (by simp) ?_
  by_cases h : k ≤ 12672
  · (conv => arg 2; whnf); refine wp_callF [] (DRes d t D) [.obj b (List.replicate k (byteV 0))] (by simp) (calm_save d t hC (by omega) (s := List.replicate k 0) (by simpa using h)) ?_
    rintro v R' ⟨rfl, t', D', rfl, hC', _, hL'⟩
    (conv => arg 2; whnf); refine wp_callF [] (DRes d t' D') [.obj b (List.replicate k (byteV 0))] (by simp) (calm_load d t' hC'.ok hC'.loose hL') ?_
    rintro v R' ⟨rfl, rfl⟩
    (conv => arg 2; whnf); refine wp_ite (fun h2 => by have := of_decide_eq_true h2; omega) (fun _ => ?_)
    (repeat ((conv => arg 2; whnf); first | refine wp_ite (fun _ => ?_) (fun h => Bool.noConfusion h) | refine wp_ite (fun h => Bool.noConfusion h) (fun _ => ?_)))
    (conv => arg 2; whnf); refine w_retp rfl (Vle.eq (cBool ?_))
    show decide _ = true
    simp
  · have e1 : dSave D (List.replicate k 0) = (some 12, D) := by rw [dSave, if_pos (by simp; omega)]
    have f1 : SCall Try.prog 31 [.loc d 0, str (List.replicate k 0)] (DRes d t D) fun v R' => v = .c (errV (some 12)) ∧ ∃ t', R' = DRes d t' D := (save_call d t D (List.replicate k 0) (fun _ => hC.loose) (by rw [hC.loose]; decide) (by rw [hC.left]; decide) hC.ok (by simp; omega)).mono fun v R' h => by rw [e1] at h; exact ⟨h.1, h.2.imp fun t h => h.1⟩
    (conv => arg 2; whnf); refine wp_callF [] (DRes d t D) [.obj b (List.replicate k (byteV 0))] (by simp) f1 ?_
    rintro v R' ⟨rfl, t', rfl⟩
    (conv => arg 2; whnf); refine wp_callF [] (DRes d t' D) [.obj b (List.replicate k (byteV 0))] (by simp) (calm_load d t' hC.ok hC.loose hL) ?_
    rintro v R' ⟨rfl, rfl⟩
    (conv => arg 2; whnf); refine wp_ite (fun _ => ?_) (fun h2 => by have := of_decide_eq_false h2; omega)
    (conv => arg 2; whnf); refine wp_pcall (is_call (some 12) 12) ?_
    (conv => arg 2; whnf); refine wp_ite (fun _ => ?_) (fun h => absurd h (by decide))
    (repeat ((conv => arg 2; whnf); first | refine wp_ite (fun _ => ?_) (fun h => Bool.noConfusion h) | refine wp_ite (fun h => Bool.noConfusion h) (fun _ => ?_)))
    (conv => arg 2; whnf); refine wp_ite (fun _ => ?_) (fun h => (eqT h rfl).elim)
    have hlo : SCall Try.prog 35 [.loc d 0] (DRes d t' D) fun v R' => v = i64V 0 ∧ R' = DRes d t' D := (dloose_call d t' D (fun _ => hC.loose)).mono fun v R' h => by rw [hC.loose] at h; exact h
    (conv => arg 2; whnf); refine wp_callF [] (DRes d t' D) [.obj b (List.replicate k (byteV 0))] (by simp) hlo ?_
    rintro v R' ⟨rfl, rfl⟩
    (repeat ((conv => arg 2; whnf); first | refine wp_ite (fun _ => ?_) (fun h => Bool.noConfusion h) | refine wp_ite (fun h => Bool.noConfusion h) (fun _ => ?_)))
    (conv => arg 2; whnf); refine w_retp rfl (.refl _)
end Go.Sv
