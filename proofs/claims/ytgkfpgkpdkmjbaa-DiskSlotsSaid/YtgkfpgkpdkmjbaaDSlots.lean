/- pasternlaw27.DiskSlots. -/
import Derived.Test.YtgkfpgkpdkmjbaaDCrash
namespace Go.Sv
open Go Go.Proofs

def wOther : List UInt8 := [111, 116, 104, 101, 114]

theorem tmod_nat (a b : Nat) : ((a : Int).tmod (b : Int)) = ((a % b : Nat) : Int) := by rw [Int.tmod_eq_emod_of_nonneg (by omega)]; exact (Int.natCast_emod a b).symm

set_option maxRecDepth 100000 in
set_option maxHeartbeats 2000000 in
theorem dslots_law (l : List (List UInt8)) (again : Nat) (ha : again < 256) : PCall Try.prog 9 [slS l, .c (.int .u8 again)] (bV true) := by
  refine scall_of (live := []) (ords := []) Try.func9 rfl (by kernel_rfl) (by kernel_rfl) (Nat.le_of_ble_eq_true rfl) ?_
  (conv => arg 2; whnf); refine wp_pcall known27_call ?_
  (conv => arg 2; whnf); refine wp_ite (fun h => by first | cases h | (simp at h; done)) (fun _ => ?_)
  (conv => arg 2; whnf); refine wp_ite (fun h1 => ?_) (fun h1 => ?_)
  · (repeat ((conv => arg 2; whnf); first | refine wp_ite (fun _ => ?_) (fun h => Bool.noConfusion h) | refine wp_ite (fun h => Bool.noConfusion h) (fun _ => ?_)))
    (conv => arg 2; whnf); refine w_retp rfl (.refl _)
  (conv => arg 2; whnf); refine wp_ite (fun h2 => ?_) (fun h2 => ?_)
  · (repeat ((conv => arg 2; whnf); first | refine wp_ite (fun _ => ?_) (fun h => Bool.noConfusion h) | refine wp_ite (fun h => Bool.noConfusion h) (fun _ => ?_)))
    (conv => arg 2; whnf); refine w_retp rfl (.refl _)
  (repeat ((conv => arg 2; whnf); first | refine wp_ite (fun _ => ?_) (fun h => Bool.noConfusion h) | refine wp_ite (fun h => Bool.noConfusion h) (fun _ => ?_)))
  have h1 : l.length ≠ 0 := by
    intro e
    simp only [List.length_map, e] at h1
    exact absurd h1 (by decide)
  have h2 : l.length ≤ 12 := by have := of_decide_eq_false h2; simp only [List.length_map] at this; omega
  (conv => arg 2; whnf); refine wp_callF [] [] [] rfl dnew_call ?_
  rintro v R' ⟨d, rfl, rfl⟩
  (conv => arg 2; whnf); refine wp_loop (fun m fr R => ∃ n t D, m = l.length - n ∧ n ≤ l.length ∧ R = DRes d t D ∧ Calm D n ∧ (0 < n → (cntF D 2).2.1 = (n - 1) % 2) ∧ (0 < n → dLoad D = .ok (lastV l n)) ∧
      fr = frL [(0, slS l), (1, .c (.int .u8 again)), (5, .loc d 0), (6, i64V (n : Nat))])
    l.length _ _ (.cons (.refl _) (.cons (.refl _) (.cons (.refl _) (.cons (.refl _) (.nil _))))) (by simp) ⟨0, none, dNew, rfl, Nat.zero_le _, rfl, calm_new, by omega, by omega, rfl⟩ ?_
  rintro m fr R ⟨n, t, D, rfl, hn, rfl, hC, hS, hL, rfl⟩
  (conv => arg 2; whnf); refine wp_ite (fun h => ?_) (fun h => ?_)
  · have h : n < l.length := by have := of_decide_eq_true h; simp only [List.length_map] at this; omega
    have hg : l[n]? = some l[n] := List.getElem?_eq_getElem h
    have hlast : lastV l (n + 1) = l[n] := by simp [lastV, h]
    generalize l[n] = x at hg hlast
    have hg2 : (l.map str)[n]? = some (str x) := by rw [List.getElem?_map, hg]; rfl
    (conv => arg 2; whnf); refine wp_elem n (str x) rfl hg2 (Vle.refl _) ?_
    (conv => arg 2; whnf); refine wp_ite (fun hx => ?_) (fun hx => ?_)
    · (conv => arg 2; whnf)
      refine wp_leaf (loop_ret ?_)
      (conv => arg 2; whnf); refine w_retp rfl (.refl _)
    have hx : x.length ≤ 500 := by have := of_decide_eq_false hx; simp only [S_size] at this; omega
    (conv => arg 2; whnf); refine wp_elem n (str x) rfl hg2 (Vle.refl _) ?_
    (conv => arg 2; whnf); refine wp_callF [] (DRes d t D) [] (by simp) (calm_save d t hC (by omega) (s := x) (by omega)) ?_
    rintro v R' ⟨rfl, t', D', rfl, hC', hS', hL'⟩
    have hlo : SCall Try.prog 35 [.loc d 0] (DRes d t' D') fun v R' => v = i64V 0 ∧ R' = DRes d t' D' := (dloose_call d t' D' (fun _ => hC'.loose)).mono fun v R' h => by rw [hC'.loose] at h; exact h
    (repeat ((conv => arg 2; whnf); first | refine wp_ite (fun _ => ?_) (fun h => Bool.noConfusion h) | refine wp_ite (fun h => Bool.noConfusion h) (fun _ => ?_)))
    (conv => arg 2; whnf); refine wp_callF [] (DRes d t' D') [] (by simp) hlo ?_
    rintro v R' ⟨rfl, rfl⟩
    (repeat ((conv => arg 2; whnf); first | refine wp_ite (fun _ => ?_) (fun h => Bool.noConfusion h) | refine wp_ite (fun h => Bool.noConfusion h) (fun _ => ?_)))
    (conv => arg 2; whnf); refine wp_callF [] (DRes d t' D') [] (by simp) (calm_load d t' hC'.ok hC'.loose hL') ?_
    rintro v R' ⟨rfl, rfl⟩
    (repeat ((conv => arg 2; whnf); first | refine wp_ite (fun _ => ?_) (fun h => Bool.noConfusion h) | refine wp_ite (fun h => Bool.noConfusion h) (fun _ => ?_)))
    (conv => arg 2; whnf); refine wp_elem n (str x) rfl hg2 (Vle.refl _) ?_
    (conv => arg 2; whnf); refine wp_ite (fun h => by rw [(dec_str x x).2 rfl] at h; cases h) (fun _ => ?_)
    (conv => arg 2; whnf)
    refine wp_leaf (loop_next (l.length - (n + 1)) _ _ (by omega) (.cons (.refl _) (.cons (.refl _) (.cons (.refl _) (.cons (Vle.inc n rfl (by omega)) (.nil _))))) (by simp)
      ⟨n + 1, t', D', rfl, h, rfl, hC', fun _ => ?_, fun _ => by rw [hlast]; exact hL', rfl⟩)
    rw [hS', slotOf, hC.turn]
    split
    · rename_i h0; rw [hS h0]; omega
    · have : n = 0 := by omega
      subst this; rfl
  have h : n = l.length := by have := of_decide_eq_false h; simp only [List.length_map] at this; omega
  subst h
  (conv => arg 2; whnf)
  refine wp_leaf (loop_exit ?_)
  have hS := hS (by omega)
  have hL := hL (by omega)
  have w1 : IntKind.i64.wrap (IntKind.i64.wrap ((again : Int).tmod 20) + IntKind.i64.wrap (200 * ((((l.map str).length : Nat) : Int).tmod 2))) = ((again % 20 + 200 * (l.length % 2) : Nat) : Int) := by
    rw [show (20 : Int) = ((20 : Nat) : Int) from rfl, show (2 : Int) = ((2 : Nat) : Int) from rfl, tmod_nat, tmod_nat, List.length_map]
    have a1 : IntKind.i64.wrap ((again % 20 : Nat) : Int) = ((again % 20 : Nat) : Int) := w_i64_small (by omega) (by omega)
    have a2 : IntKind.i64.wrap (200 * ((l.length % 2 : Nat) : Int)) = ((200 * (l.length % 2) : Nat) : Int) := by rw [w_i64_small (by omega) (by omega)]; omega
    rw [a1, a2, w_i64_small (by omega) (by omega)]; omega
  obtain ⟨k, hk⟩ : ∃ k, k = again % 20 + 200 * (l.length % 2) := ⟨_, rfl⟩
  rw [← hk] at w1
  (conv => arg 2; whnf); refine wp_ite (fun h3 => ?_) (fun h3 => ?_)
  · (conv => arg 2; whnf); refine w_retp rfl (.refl _)
  have h3 : 2 ≤ k := by rw [w1] at h3; have := of_decide_eq_false h3; omega
  have hk4 : k < 400 := by omega
  have hw := dWrite_ok' (i := k) (c := wOther) hC.gone hk4 (by decide)
  have hk5 := dWrite_ok hC.ok hw
  have hq : slotOf (cntF D 2) = l.length % 2 := by rw [slotOf, hC.turn, if_pos (by omega), hS]; omega
  have hview := old_view (D := D) (E := dWritten D k wOther) (ws := [(k, pad wOther)]) (by simp [dNow, dWritten, hC.loose, laidW]) (by
    intro w hw
    rw [List.mem_singleton.1 hw, hq]
    simp only
    omega)
  have f1 : SCall Try.prog 36 [.loc d 0, i64V k, str wOther] (DRes d t D) fun _ R' => ∃ t', R' = DRes d (some t') (dWritten D k wOther) := (dwrite_call d t D k wOther (fun _ => hC.loose) (by rw [hC.loose]; decide) (by rw [hC.left]; decide) (by decide)).mono fun v R' h => by rw [hw] at h; exact h.2
  have f2 : ∀ t', SCall Try.prog 34 [.loc d 0] (DRes d (some t') (dWritten D k wOther)) fun v R' => v = .tup [str (lastV l l.length), .c .nilIface] ∧ R' = DRes d (some t') (dWritten D k wOther) := fun t' => (load_call d (some t') (dWritten D k wOther) (fun h => by cases h) (by simp [dWritten, hC.loose]) hk5).mono fun v R' h => by rw [hview.2, hL] at h; exact ⟨h.2, h.1⟩
  (conv => arg 2; whnf); refine wp_callV [] (DRes d t D) [] (by simp) (.cons (.refl _) (.cons (Vle.i64 _ rfl w1) (.cons (.refl _) .nil))) f1 ?_
  rintro v R' ⟨t', rfl⟩
  (conv => arg 2; whnf); refine wp_callF [] (DRes d (some t') (dWritten D k wOther)) [] (by simp) (f2 t') ?_
  rintro v R' ⟨rfl, rfl⟩
  (repeat ((conv => arg 2; whnf); first | refine wp_ite (fun _ => ?_) (fun h => Bool.noConfusion h) | refine wp_ite (fun h => Bool.noConfusion h) (fun _ => ?_)))
  have hg : l[l.length - 1]? = some (lastV l l.length) := by
    rw [lastV, if_neg h1, List.getD_eq_getElem?_getD, List.getElem?_eq_getElem (by omega)]; rfl
  (conv => arg 2; whnf); refine wp_elem (l.length - 1) (str (lastV l l.length)) ?_ (by rw [List.getElem?_map, hg]; rfl) (Vle.refl _) ?_
  · show IntKind.i64.wrap ((((l.map str).length : Nat) : Int) - 1) = _
    rw [List.length_map, w_i64_small (by omega) (by omega)]; omega
  (conv => arg 2; whnf); refine wp_ite (fun _ => ?_) (fun h => (eqT h rfl).elim)
  (repeat ((conv => arg 2; whnf); first | refine wp_ite (fun _ => ?_) (fun h => Bool.noConfusion h) | refine wp_ite (fun h => Bool.noConfusion h) (fun _ => ?_)))
  (conv => arg 2; whnf); refine w_retp rfl (.refl _)
end Go.Sv
