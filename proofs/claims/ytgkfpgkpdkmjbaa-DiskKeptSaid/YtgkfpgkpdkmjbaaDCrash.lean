/- pasternlaw27.DiskCrash. -/
import Derived.Test.YtgkfpgkpdkmjbaaDiskLaw3
namespace Go.Sv
open Go Go.Proofs

theorem dec_str (l m : List UInt8) : ((S l).toList == (S m).toList) = true ↔ l = m := by rw [strEq]; simp

theorem Vle.of {v y : V} (x : V) (h : v = x) (e : x = y) : Vle v y := Vle.eq (h.trans e)

/-- What was seen last. -/
def lastV (l : List (List UInt8)) (i : Nat) : List UInt8 := if i = 0 then [] else l.getD (i - 1) []

set_option maxRecDepth 100000 in
set_option maxHeartbeats 2000000 in
theorem dcrash_law (elder : List (List UInt8)) (s : List UInt8) (cut : Nat) (keep : List Bool) (hcut : cut < 256) : PCall Try.prog 8 [slS elder, str s, .c (.int .u8 cut), slB keep] (bV true) := by
  refine scall_of (live := []) (ords := []) Try.func8 rfl (by kernel_rfl) (by kernel_rfl) (Nat.le_of_ble_eq_true rfl) ?_
  (conv => arg 2; whnf); refine wp_pcall known27_call ?_
  (conv => arg 2; whnf); refine wp_ite (fun h => by first | cases h | (simp at h; done)) (fun _ => ?_)
  (conv => arg 2; whnf); refine wp_ite (fun h1 => ?_) (fun h1 => ?_)
  · (repeat ((conv => arg 2; whnf); first | refine wp_ite (fun _ => ?_) (fun h => Bool.noConfusion h) | refine wp_ite (fun h => Bool.noConfusion h) (fun _ => ?_)))
    (conv => arg 2; whnf); refine w_retp rfl (.refl _)
  (conv => arg 2; whnf); refine wp_ite (fun h2 => ?_) (fun h2 => ?_)
  · (repeat ((conv => arg 2; whnf); first | refine wp_ite (fun _ => ?_) (fun h => Bool.noConfusion h) | refine wp_ite (fun h => Bool.noConfusion h) (fun _ => ?_)))
    (conv => arg 2; whnf); refine w_retp rfl (.refl _)
  (conv => arg 2; whnf); refine wp_ite (fun h3 => ?_) (fun h3 => ?_)
  · (repeat ((conv => arg 2; whnf); first | refine wp_ite (fun _ => ?_) (fun h => Bool.noConfusion h) | refine wp_ite (fun h => Bool.noConfusion h) (fun _ => ?_)))
    (conv => arg 2; whnf); refine w_retp rfl (.refl _)
  (repeat ((conv => arg 2; whnf); first | refine wp_ite (fun _ => ?_) (fun h => Bool.noConfusion h) | refine wp_ite (fun h => Bool.noConfusion h) (fun _ => ?_)))
  have h1 : elder.length ≤ 5 := by have := of_decide_eq_false h1; simp only [List.length_map] at this; omega
  have h2 : s.length ≤ 2000 := by have := of_decide_eq_false h2; simp only [S_size] at this; omega
  (conv => arg 2; whnf); refine wp_callF [] [] [] rfl dnew_call ?_
  rintro v R' ⟨d, rfl, rfl⟩
  (conv => arg 2; whnf); refine wp_loop (fun m fr R => ∃ n t D, m = elder.length - n ∧ n ≤ elder.length ∧ R = DRes d t D ∧ Calm D n ∧ (dLoad D = if n = 0 then .error 20 else .ok (lastV elder n)) ∧
      fr = frL [(0, slS elder), (1, str s), (2, .c (.int .u8 cut)), (3, slB keep), (9, .loc d 0), (10, str (lastV elder n)), (11, bV (decide (0 < n))), (12, i64V (n : Nat))])
    elder.length _ _ (.cons (.refl _) (.cons (.refl _) (.cons (.refl _) (.cons (.refl _) (.cons (.refl _) (.cons (.refl _) (.cons (.refl _) (.cons (.refl _) (.nil _))))))))) (by simp) ⟨0, none, dNew, rfl, Nat.zero_le _, rfl, calm_new, dNew_load, rfl⟩ ?_
  rintro m fr R ⟨n, t, D, rfl, hn, rfl, hC, hL, rfl⟩
  (conv => arg 2; whnf); refine wp_ite (fun h => ?_) (fun h => ?_)
  · have h : n < elder.length := by have := of_decide_eq_true h; simp only [List.length_map] at this; omega
    have hg : elder[n]? = some elder[n] := List.getElem?_eq_getElem h
    have hlast : lastV elder (n + 1) = elder[n] := by simp [lastV, h]
    generalize elder[n] = x at hg hlast
    have hg2 : (elder.map str)[n]? = some (str x) := by rw [List.getElem?_map, hg]; rfl
    (conv => arg 2; whnf); refine wp_elem n (str x) rfl hg2 (Vle.refl _) ?_
    (conv => arg 2; whnf); refine wp_ite (fun hx => ?_) (fun hx => ?_)
    · (conv => arg 2; whnf)
      refine wp_leaf (loop_ret ?_)
      (conv => arg 2; whnf); refine w_retp rfl (.refl _)
    have hx : x.length ≤ 2000 := by have := of_decide_eq_false hx; simp only [S_size] at this; omega
    (conv => arg 2; whnf); refine wp_elem n (str x) rfl hg2 (Vle.refl _) ?_
    (conv => arg 2; whnf); refine wp_callF [] (DRes d t D) [] (by simp) (calm_save d t hC (by omega) (s := x) (by omega)) ?_
    rintro v R' ⟨rfl, t', D', rfl, hC', _, hL'⟩
    (conv => arg 2; whnf); refine wp_ite (fun h => by first | cases h | (simp at h; done)) (fun _ => ?_)
    (conv => arg 2; whnf); refine wp_elem n (str x) rfl hg2 (Vle.refl _) ?_
    (conv => arg 2; whnf)
    refine wp_leaf (loop_next (elder.length - (n + 1)) _ _ (by omega) (.cons (.refl _) (.cons (.refl _) (.cons (.refl _) (.cons (.refl _) (.cons (.refl _) (.cons (Vle.of (y := str (lastV elder (n + 1))) (str x) rfl (by rw [hlast])) (.cons (.refl _) (.cons (Vle.inc n rfl (by omega)) (.nil _))))))))) (by simp)
      ⟨n + 1, t', D', rfl, h, rfl, hC', by rw [if_neg (by omega), hlast]; exact hL', by rw [show decide (0 < n + 1) = true by simp]; rfl⟩)
  have h : n = elder.length := by have := of_decide_eq_false h; simp only [List.length_map] at this; omega
  subst h
  (conv => arg 2; whnf)
  refine wp_leaf (loop_exit ?_)
  have hcm : ((cut : Int).tmod 40) = ((cut % 40 : Nat) : Int) := by rw [Int.tmod_eq_emod_of_nonneg (by omega)]; omega
  have hk1 := dCut_ok ((cut % 40 : Nat) : Int) hC.ok
  have hview := dCut_view D ((cut % 40 : Nat) : Int)
  have hleft : (dCut D ((cut % 40 : Nat) : Int)).left < 2 ^ 62 := by show (max ((cut % 40 : Nat) : Int) 0).toNat < _; omega
  have hcr := save_crash (D := dCut D ((cut % 40 : Nat) : Int)) hk1 hC.loose hC.gone (s := s) (by omega) (by rw [hview.1, hC.turn]; omega) keep
  have hkeep := dSave_keep hk1 s
  have hsave := fun t => save_call d t (dCut D ((cut % 40 : Nat) : Int)) s (fun _ => hC.loose) (by rw [show (dCut D ((cut % 40 : Nat) : Int)).loose = [] from hC.loose]; decide) hleft hk1 (by omega)
  rw [hview.2, hL] at hcr
  have hlo : (dCut D ((cut % 40 : Nat) : Int)).loose.length = 0 := by rw [show (dCut D ((cut % 40 : Nat) : Int)).loose = [] from hC.loose]; rfl
  rw [hlo] at hkeep
  have hcutc := dcut_call d t D ((cut % 40 : Nat) : Int) (by omega) (by omega)
  generalize dCut D ((cut % 40 : Nat) : Int) = D1 at *
  generalize dSave D1 s = r at hcr hkeep hsave
  obtain ⟨e, D2⟩ := r
  simp only at hcr hkeep hsave
  have hk3 := dCrash_ok keep hkeep.1
  have hl3 : (dCrash D2 keep).loose = [] := rfl
  have hcrash := fun t ht => dcrash_call d t D2 keep ht (by omega) hkeep.1
  generalize dCrash D2 keep = E at *
  (conv => arg 2; whnf); refine wp_callV [] (DRes d t D) [] (by simp) (.cons (.refl _) (.cons (Vle.i64 _ rfl ?_) .nil)) hcutc ?_
  · rw [hcm, w_i64]; omega
  rintro v R' rfl
  (conv => arg 2; whnf); refine wp_callF [] (DRes d t D1) [] (by simp) (hsave t) ?_
  rintro v R' ⟨rfl, t2, rfl, ht2⟩
  (conv => arg 2; whnf); refine wp_callF [] (DRes d t2 D2) [] (by simp) (hcrash t2 ht2) ?_
  rintro v R' rfl
  rcases hcr with ⟨rfl, hE⟩ | ⟨rfl, hE⟩
  · (conv => arg 2; whnf); refine wp_callF [] (DRes d none E) [] (by simp) (calm_load d none hk3 hl3 hE) ?_
    rintro v R' ⟨rfl, rfl⟩
    (conv => arg 2; whnf); refine wp_ite (fun _ => ?_) (fun h => by first | cases h | (simp at h; done))
    (repeat ((conv => arg 2; whnf); first | refine wp_ite (fun _ => ?_) (fun h => Bool.noConfusion h) | refine wp_ite (fun h => Bool.noConfusion h) (fun _ => ?_)))
    (conv => arg 2; whnf); refine w_retp rfl (Vle.eq (cBool ?_))
    exact (dec_str s s).2 rfl
  · have hE2 : dLoad E = .error 20 ∧ elder.length = 0 ∨ dLoad E = .ok s ∨ (0 < elder.length ∧ dLoad E = .ok (lastV elder elder.length)) := by
      rcases hE with hE | hE
      · exact .inr (.inl hE)
      · by_cases h0 : elder.length = 0
        · rw [if_pos h0] at hE; exact .inl ⟨hE, h0⟩
        · rw [if_neg h0] at hE; exact .inr (.inr ⟨by omega, hE⟩)
    rcases hE2 with ⟨hE, h0⟩ | hE
    · (conv => arg 2; whnf); refine wp_callF [] (DRes d none E) [] (by simp) ((load_call d none E (fun _ => hl3) (by rw [hl3]; decide) hk3).mono (K' := fun v R' => v = .tup [str [], .c (errV (some 20))] ∧ R' = DRes d none E) fun v R' hv => by rw [hE] at hv; exact ⟨hv.2, hv.1⟩) ?_
      rintro v R' ⟨rfl, rfl⟩
      (conv => arg 2; whnf); refine wp_ite (fun h => by first | cases h | (simp at h; done)) (fun _ => ?_)
      (conv => arg 2; whnf); refine wp_pcall (is_call (some 23) 23) ?_
      (conv => arg 2; whnf); refine wp_ite (fun h => by first | cases h | (simp at h; done)) (fun _ => ?_)
      (conv => arg 2; whnf); refine wp_ite (fun _ => ?_) (fun h => by first | cases h | (simp at h; done))
      (conv => arg 2; whnf); refine wp_pcall (is_call (some 20) 20) ?_
      (conv => arg 2; whnf); refine wp_ite (fun _ => ?_) (fun h => absurd h (by decide))
      (repeat ((conv => arg 2; whnf); first | refine wp_ite (fun _ => ?_) (fun h => Bool.noConfusion h) | refine wp_ite (fun h => Bool.noConfusion h) (fun _ => ?_)))
      (conv => arg 2; whnf); refine w_retp rfl (Vle.eq (cBool ?_))
      show (!decide (0 < elder.length)) = true
      rw [h0]; rfl
    · obtain ⟨x, hE, hx⟩ : ∃ x, dLoad E = .ok x ∧ (x = s ∨ (0 < elder.length ∧ x = lastV elder elder.length)) := by
        rcases hE with hE | ⟨h0, hE⟩
        · exact ⟨_, hE, .inl rfl⟩
        · exact ⟨_, hE, .inr ⟨h0, rfl⟩⟩
      (conv => arg 2; whnf); refine wp_callF [] (DRes d none E) [] (by simp) (calm_load d none hk3 hl3 hE) ?_
      rintro v R' ⟨rfl, rfl⟩
      (conv => arg 2; whnf); refine wp_ite (fun h => by first | cases h | (simp at h; done)) (fun _ => ?_)
      (conv => arg 2; whnf); refine wp_pcall (is_call (some 23) 23) ?_
      (conv => arg 2; whnf); refine wp_ite (fun h => by first | cases h | (simp at h; done)) (fun _ => ?_)
      (conv => arg 2; whnf); refine wp_ite (fun h => by first | cases h | (simp at h; done)) (fun _ => ?_)
      (conv => arg 2; whnf); refine wp_ite (fun hq => ?_) (fun hq => ?_)
      · (repeat ((conv => arg 2; whnf); first | refine wp_ite (fun _ => ?_) (fun h => Bool.noConfusion h) | refine wp_ite (fun h => Bool.noConfusion h) (fun _ => ?_)))
        (conv => arg 2; whnf); refine w_retp rfl (.refl _)
      · have hx : 0 < elder.length ∧ x = lastV elder elder.length := by
          rcases hx with rfl | hx
          · exact (eqT hq rfl).elim
          · exact hx
        (conv => arg 2; whnf); refine wp_ite (fun h5 => ?_) (fun h5 => absurd hx.1 (of_decide_eq_false h5))
        (repeat ((conv => arg 2; whnf); first | refine wp_ite (fun _ => ?_) (fun h => Bool.noConfusion h) | refine wp_ite (fun h => Bool.noConfusion h) (fun _ => ?_)))
        (conv => arg 2; whnf); refine w_retp rfl (Vle.eq (cBool ?_))
        exact (dec_str _ _).2 hx.2
end Go.Sv
