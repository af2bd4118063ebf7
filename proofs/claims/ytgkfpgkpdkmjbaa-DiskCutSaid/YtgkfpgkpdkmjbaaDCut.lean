/- pasternlaw27.DiskCut. -/
import Derived.Test.YtgkfpgkpdkmjbaaDCrash
namespace Go.Sv
open Go Go.Proofs

theorem tmod_nat2 (a b : Nat) : ((a : Int).tmod (b : Int)) = ((a % b : Nat) : Int) := by rw [Int.tmod_eq_emod_of_nonneg (by omega)]; exact (Int.natCast_emod a b).symm

/-- A disk whose power goes behind k writes, i writes later. -/
structure CutAt (k i : Nat) (t : Option Nat) (D : Dk) : Prop where
  ht : t = none → D.loose = []
  ok : DOk D
  len : D.loose.length ≤ i
  left : D.left ≤ 10
  gone : D.gone = decide (0 < k ∧ k ≤ i)
  rest : D.gone = false → D.left = k - i

theorem cutAt_next {k i t : Nat} {t0 : Option Nat} {D : Dk} (h : CutAt k i t0 D) (hg : D.gone = false) (hi : i < 400) (s : List UInt8) (hs : s.length ≤ 64) : CutAt k (i + 1) (some t) (dWritten D i s) := by
  have hr := h.rest hg
  refine ⟨(fun e => by cases e), dWrite_ok h.ok (dWrite_ok' hg hi hs), (by simp [dWritten]; exact h.len), (by have := h.left; simp only [dWritten]; omega), ?_, ?_⟩
  · have h1 := h.gone
    rw [hg] at h1
    have h2 := of_decide_eq_false h1.symm
    show (if 0 < D.left then D.left == 1 else D.gone) = _
    split
    · rw [hr]
      rw [Bool.eq_iff_iff]
      simp only [beq_iff_eq, decide_eq_true_eq]
      omega
    · rw [hg]
      exact (decide_eq_false (by omega)).symm
  · intro _; show D.left - 1 = _; omega

set_option maxRecDepth 100000 in
set_option maxHeartbeats 2000000 in
theorem dcut_law (n m : Nat) (hn : n < 256) (hm : m < 256) : PCall Try.prog 12 [.c (.int .u8 n), .c (.int .u8 m)] (bV true) := by
  have wm : IntKind.i64.wrap ((m : Int).tmod 20) = ((m % 20 : Nat) : Int) := by
    have a1 : IntKind.i64.wrap ((m % 20 : Nat) : Int) = ((m % 20 : Nat) : Int) := w_i64_small (by omega) (by omega)
    rw [show (20 : Int) = ((20 : Nat) : Int) from rfl, tmod_nat2, a1]
  have wn : IntKind.i64.wrap ((n : Int).tmod 10) = ((n % 10 : Nat) : Int) := by
    have a1 : IntKind.i64.wrap ((n % 10 : Nat) : Int) = ((n % 10 : Nat) : Int) := w_i64_small (by omega) (by omega)
    rw [show (10 : Int) = ((10 : Nat) : Int) from rfl, tmod_nat2, a1]
  obtain ⟨k, hk, hk1⟩ : ∃ k : Nat, n % 10 = k ∧ k < 10 := ⟨_, rfl, by omega⟩
  obtain ⟨M, hM, hM1⟩ : ∃ M : Nat, m % 20 = M ∧ M < 20 := ⟨_, rfl, by omega⟩
  rw [hk] at wn; rw [hM] at wm
  clear hk hM
  refine scall_of (live := []) (ords := []) Try.func12 rfl (by kernel_rfl) (by kernel_rfl) (Nat.le_of_ble_eq_true rfl) ?_
  (conv => arg 2; whnf); refine wp_pcall known27_call ?_
  (conv => arg 2; whnf); refine wp_ite (fun h => by first | cases h | (simp at h; done)) (fun _ => ?_)
  (conv => arg 2; whnf); refine wp_callF [] [] [] rfl dnew_call ?_
  rintro v R' ⟨d, rfl, rfl⟩
  (conv => arg 2; whnf); refine wp_callV [] (DRes d none dNew) [] (by simp) (.cons (.refl _) (.cons (Vle.i64 _ rfl wn) .nil)) (dcut_call d none dNew (k : Nat) (by omega) (by omega)) ?_
  rintro v R' rfl
  (conv => arg 2; whnf); refine wp_loop (fun ms fr R => ∃ i t D, ms = M - i ∧ i ≤ M ∧ R = DRes d t D ∧ CutAt k i t D ∧
      fr = frL [(0, .c (.int .u8 n)), (1, .c (.int .u8 m)), (5, .loc d 0), (6, i64V (k : Nat)), (7, i64V (i : Nat))])
    M _ _ (.cons (.refl _) (.cons (.refl _) (.cons (.refl _) (.cons (Vle.i64 _ rfl wn) (.cons (.refl _) (.nil _)))))) (by simp)
    ⟨0, none, dCut dNew (k : Nat), rfl, Nat.zero_le _, rfl, ⟨fun _ => rfl, dCut_ok _ dNew_ok, Nat.le_refl _, by show (max (k : Int) 0).toNat ≤ _; omega, (decide_eq_false (by omega)).symm, fun _ => by show (max (k : Int) 0).toNat = _; omega⟩, rfl⟩ ?_
  rintro ms fr R ⟨i, t, D, rfl, hi, rfl, hC, rfl⟩
  (conv => arg 2; whnf); refine wp_ite (fun h => ?_) (fun h => ?_)
  · have h : i < M := by rw [wm] at h; have := of_decide_eq_true h; omega
    have f1 := dwrite_call d t D (i : Nat) [120] hC.ht (by have := hC.len; omega) (by have := hC.left; omega) (by decide)
    cases hg : D.gone with
    | false =>
      rw [dWrite_ok' hg (by omega) (by decide)] at f1
      (conv => arg 2; whnf); refine wp_callF [] (DRes d t D) [] (by simp) f1 ?_
      rintro v R' ⟨rfl, t', rfl⟩
      have hC' := cutAt_next (t := t') hC hg (by omega) [120] (by decide)
      have h1 := hC.gone
      rw [hg] at h1
      have h2 := of_decide_eq_false h1.symm
      have hend : ∀ fr : Fr, Weak fr (frL [(0, .c (.int .u8 n)), (1, .c (.int .u8 m)), (5, .loc d 0), (6, i64V (k : Nat)), (7, i64V ((i + 1 : Nat) : Int))]) → loopPost (fun ms fr R => ∃ i t D, ms = M - i ∧ i ≤ M ∧ R = DRes d t D ∧ CutAt k i t D ∧
          fr = frL [(0, .c (.int .u8 n)), (1, .c (.int .u8 m)), (5, .loc d 0), (6, i64V (k : Nat)), (7, i64V (i : Nat))]) (M - i) (fun _ _ _ => True) .normal fr (DRes d (some t') (dWritten D i [120])) := fun fr hw =>
        loop_next (M - (i + 1)) _ _ (by omega) hw (List.Sublist.refl _) ⟨i + 1, some t', _, rfl, by omega, rfl, hC', rfl⟩
      (conv => arg 2; whnf); refine wp_ite (fun h3 => ?_) (fun h3 => ?_)
      · (repeat ((conv => arg 2; whnf); first | refine wp_ite (fun _ => ?_) (fun h => Bool.noConfusion h) | refine wp_ite (fun h => Bool.noConfusion h) (fun _ => ?_)))
        (conv => arg 2; whnf)
        exact wp_leaf (hend _ (.cons (.refl _) (.cons (.refl _) (.cons (.refl _) (.cons (.refl _) (.cons (Vle.inc i rfl (by omega)) (.nil _)))))))
      · have h3 := of_decide_eq_false h3
        (conv => arg 2; whnf); refine wp_ite (fun h4 => ?_) (fun h4 => ?_)
        · exfalso
          have : decide ((i : Int) < (k : Int)) = true := decide_eq_true (by omega)
          rw [this] at h4; cases h4
        · (conv => arg 2; whnf)
          exact wp_leaf (hend _ (.cons (.refl _) (.cons (.refl _) (.cons (.refl _) (.cons (.refl _) (.cons (Vle.inc i rfl (by omega)) (.nil _)))))))
    | true =>
      rw [dWrite, if_pos (by rw [hg])] at f1
      (conv => arg 2; whnf); refine wp_callF [] (DRes d t D) [] (by simp) f1 ?_
      rintro v R' ⟨rfl, rfl⟩
      have h1 := hC.gone
      rw [hg] at h1
      have h2 := of_decide_eq_true h1.symm
      (conv => arg 2; whnf); refine wp_ite (fun h3 => by have := of_decide_eq_true h3; omega) (fun h3 => ?_)
      (conv => arg 2; whnf); refine wp_ite (fun h4 => ?_) (fun h4 => ?_)
      · exfalso
        have : decide ((i : Int) < (k : Int)) = false := decide_eq_false (by omega)
        rw [this] at h4; cases h4
      · (conv => arg 2; whnf)
        refine wp_leaf (loop_next (M - (i + 1)) _ (DRes d t D) (by omega) (.cons (.refl _) (.cons (.refl _) (.cons (.refl _) (.cons (.refl _) (.cons (Vle.inc i rfl (by omega)) (.nil _)))))) (by simp)
          ⟨i + 1, t, D, rfl, by omega, rfl, ⟨hC.ht, hC.ok, by have := hC.len; omega, hC.left, by rw [hg]; exact (decide_eq_true (by omega)).symm, fun h => by rw [hg] at h; cases h⟩, rfl⟩)
  have h : i = M := by rw [wm] at h; have := of_decide_eq_false h; omega
  subst h
  (conv => arg 2; whnf)
  refine wp_leaf (loop_exit ?_)
  have f1 := dsync_call d t D hC.ht (by have := hC.len; omega) hC.ok
  have f2 : ∀ t' D', DOk D' → D'.loose.length ≤ i → (t' = none → D'.loose = []) → SCall Try.prog 33 [.loc d 0, slB []] (DRes d t' D') fun _ R' => R' = DRes d none (dCrash D' []) := fun t' D' hk hl ht => dcrash_call d t' D' [] ht (by omega) hk
  have f3 : ∀ D', DOk D' → SCall Try.prog 36 [.loc d 0, i64V 0, str [121]] (DRes d none (dCrash D' [])) fun v R' => v = .c .nilIface ∧ ∃ t', R' = DRes d (some t') (dWritten (dCrash D' []) 0 [121]) := fun D' hk =>
    (dwrite_call d none (dCrash D' []) 0 [121] (fun _ => rfl) (show 0 < _ by decide) (show 0 < _ by decide) (by decide)).mono fun v R' h => h
  have f4 : ∀ D' t, DOk D' → SCall Try.prog 37 [.loc d 0] (DRes d (some t) (dWritten (dCrash D' []) 0 [121])) fun v R' => v = .c .nilIface ∧ R' = DRes d none { dWritten (dCrash D' []) 0 [121] with sure := dNow (dWritten (dCrash D' []) 0 [121]), loose := [] } := fun D' t hk =>
    (dsync_call d (some t) _ (fun h => by cases h) (show 1 < _ by decide) (dWrite_ok (dCrash_ok [] hk) (dWrite_ok' rfl (by decide) (by decide)))).mono fun v R' h => h
  have f5 : ∀ D', DOk D' → SCall Try.prog 38 [.loc d 0, i64V 0] (DRes d none { dWritten (dCrash D' []) 0 [121] with sure := dNow (dWritten (dCrash D' []) 0 [121]), loose := [] }) fun v R' => v = str (pad [121]) ∧ R' = DRes d none { dWritten (dCrash D' []) 0 [121] with sure := dNow (dWritten (dCrash D' []) 0 [121]), loose := [] } := fun D' hk => by
    have k1 := dWrite_ok (dCrash_ok [] hk) (dWrite_ok' (D := dCrash D' []) (i := 0) (c := [121]) rfl (by decide) (by decide))
    have k2 := dSync_ok (D' := { dWritten (dCrash D' []) 0 [121] with sure := dNow (dWritten (dCrash D' []) 0 [121]), loose := [] }) k1 rfl
    refine (dread_call d none _ 0 (fun _ => rfl) (show 0 < _ by decide) k2).mono fun v R' h => ?_
    have e : dRead { dWritten (dCrash D' []) 0 [121] with sure := dNow (dWritten (dCrash D' []) 0 [121]), loose := [] } 0 = pad [121] := by
      rw [show (0 : Int) = ((0 : Nat) : Int) from rfl, dRead_now _ (by omega)]
      show (laidW (laidW (dCrash D' []).sure [(0, pad [121])]) []).getD 0 [] = _
      show ((dCrash D' []).sure.set 0 (pad [121])).getD 0 [] = _
      rw [List.getD_eq_getElem?_getD, List.getElem?_set_self (by rw [(dCrash_ok [] hk).n]; omega)]; rfl
    rw [e] at h; exact h
  have hrest : ∀ (t' : Option Nat) (D' : Dk), DOk D' → D'.loose.length ≤ i → (t' = none → D'.loose = []) → SCall Try.prog 33 [.loc d 0, .sl none [] .zero] (DRes d t' D') fun _ R' => R' = DRes d none (dCrash D' []) := fun t' D' hk hl ht => (f2 t' D' hk hl ht).vle (.cons (.refl _) (.cons (Vle.nil _ _ _) .nil))
  clear f2
  have hg := hC.gone
  (conv => arg 2; whnf); refine wp_ite (fun h3 => ?_) (fun h3 => ?_)
  · have h3 := of_decide_eq_true h3
    cases hg2 : D.gone with
    | true =>
      rw [dSync, if_pos (by rw [hg2])] at f1
      rw [hg2] at hg
      have hg := of_decide_eq_true hg.symm
      (conv => arg 2; whnf); refine wp_callF [] (DRes d t D) [] (by simp) f1 ?_
      rintro v R' ⟨rfl, rfl⟩
      (conv => arg 2; whnf); refine wp_ite (fun h => ?_) (fun _ => ?_)
      · exfalso
        rw [wm] at h
        have e : decide ((i : Int) ≥ (k : Int)) = true := decide_eq_true (by omega)
        rw [e] at h; cases h
      (conv => arg 2; whnf); refine wp_callF [] (DRes d t D) [] (by simp) (hrest t D hC.ok hC.len hC.ht) ?_
      rintro v R' rfl
      (conv => arg 2; whnf); refine wp_callF [] (DRes d none (dCrash D [])) [] (by simp) (f3 D hC.ok) ?_
      rintro v R' ⟨rfl, t', rfl⟩
      (repeat ((conv => arg 2; whnf); first | refine wp_ite (fun _ => ?_) (fun h => Bool.noConfusion h) | refine wp_ite (fun h => Bool.noConfusion h) (fun _ => ?_)))
      (conv => arg 2; whnf); refine wp_callF [] (DRes d (some t') (dWritten (dCrash D []) 0 [121])) [] (by simp) (f4 D t' hC.ok) ?_
      rintro v R' ⟨rfl, rfl⟩
      (repeat ((conv => arg 2; whnf); first | refine wp_ite (fun _ => ?_) (fun h => Bool.noConfusion h) | refine wp_ite (fun h => Bool.noConfusion h) (fun _ => ?_)))
      (conv => arg 2; whnf); refine wp_callF [] (DRes d none { dWritten (dCrash D []) 0 [121] with sure := dNow (dWritten (dCrash D []) 0 [121]), loose := [] }) [] (by simp) (f5 D hC.ok) ?_
      rintro v R' ⟨rfl, rfl⟩
      (conv => arg 2; whnf); refine wp_need (by decide) ?_
      (conv => arg 2; whnf); refine w_retp rfl (Vle.eq (cBool ?_))
      show ((((S (pad [121])).extract 0 (Int.toNat 1)).toList == (S [121]).toList)) = true
      rw [S_extract, strEq]
      decide
    | false =>
      have hk2 := dSync_ok (D' := { D with sure := dNow D, loose := [] }) hC.ok (by rw [dSync, if_neg (by simp [hg2])])
      rw [dSync, if_neg (by simp [hg2])] at f1
      generalize hE : ({ D with sure := dNow D, loose := [] } : Dk) = E at f1 hk2
      have hl2 : E.loose = [] := by rw [← hE]
      (conv => arg 2; whnf); refine wp_callF [] (DRes d t D) [] (by simp) f1 ?_
      rintro v R' ⟨rfl, rfl⟩
      rw [hg2] at hg
      have hg := of_decide_eq_false hg.symm
      (conv => arg 2; whnf); refine wp_ite (fun h => ?_) (fun _ => ?_)
      · exfalso
        rw [wm] at h
        have e : decide ((i : Int) ≥ (k : Int)) = false := decide_eq_false (by omega)
        rw [e] at h; cases h
      (conv => arg 2; whnf); refine wp_callF [] (DRes d none E) [] (by simp) (hrest none E hk2 (by rw [hl2]; exact Nat.zero_le _) (fun _ => hl2)) ?_
      rintro v R' rfl
      (conv => arg 2; whnf); refine wp_callF [] (DRes d none (dCrash E [])) [] (by simp) (f3 E hk2) ?_
      rintro v R' ⟨rfl, t', rfl⟩
      (repeat ((conv => arg 2; whnf); first | refine wp_ite (fun _ => ?_) (fun h => Bool.noConfusion h) | refine wp_ite (fun h => Bool.noConfusion h) (fun _ => ?_)))
      (conv => arg 2; whnf); refine wp_callF [] (DRes d (some t') (dWritten (dCrash E []) 0 [121])) [] (by simp) (f4 E t' hk2) ?_
      rintro v R' ⟨rfl, rfl⟩
      (repeat ((conv => arg 2; whnf); first | refine wp_ite (fun _ => ?_) (fun h => Bool.noConfusion h) | refine wp_ite (fun h => Bool.noConfusion h) (fun _ => ?_)))
      (conv => arg 2; whnf); refine wp_callF [] (DRes d none { dWritten (dCrash E []) 0 [121] with sure := dNow (dWritten (dCrash E []) 0 [121]), loose := [] }) [] (by simp) (f5 E hk2) ?_
      rintro v R' ⟨rfl, rfl⟩
      (conv => arg 2; whnf); refine wp_need (by decide) ?_
      (conv => arg 2; whnf); refine w_retp rfl (Vle.eq (cBool ?_))
      show ((((S (pad [121])).extract 0 (Int.toNat 1)).toList == (S [121]).toList)) = true
      rw [S_extract, strEq]
      decide
  · have h3 := of_decide_eq_false h3
    have hg2 : D.gone = false := by rw [hg]; exact decide_eq_false (by omega)
    have hk2 := dSync_ok (D' := { D with sure := dNow D, loose := [] }) hC.ok (by rw [dSync, if_neg (by simp [hg2])])
    rw [dSync, if_neg (by simp [hg2])] at f1
    generalize hE : ({ D with sure := dNow D, loose := [] } : Dk) = E at f1 hk2
    have hl2 : E.loose = [] := by rw [← hE]
    (conv => arg 2; whnf); refine wp_callF [] (DRes d t D) [] (by simp) f1 ?_
    rintro v R' ⟨rfl, rfl⟩
    (repeat ((conv => arg 2; whnf); first | refine wp_ite (fun _ => ?_) (fun h => Bool.noConfusion h) | refine wp_ite (fun h => Bool.noConfusion h) (fun _ => ?_)))
    (conv => arg 2; whnf); refine wp_callF [] (DRes d none E) [] (by simp) (hrest none E hk2 (by rw [hl2]; exact Nat.zero_le _) (fun _ => hl2)) ?_
    rintro v R' rfl
    (conv => arg 2; whnf); refine wp_callF [] (DRes d none (dCrash E [])) [] (by simp) (f3 E hk2) ?_
    rintro v R' ⟨rfl, t', rfl⟩
    (repeat ((conv => arg 2; whnf); first | refine wp_ite (fun _ => ?_) (fun h => Bool.noConfusion h) | refine wp_ite (fun h => Bool.noConfusion h) (fun _ => ?_)))
    (conv => arg 2; whnf); refine wp_callF [] (DRes d (some t') (dWritten (dCrash E []) 0 [121])) [] (by simp) (f4 E t' hk2) ?_
    rintro v R' ⟨rfl, rfl⟩
    (repeat ((conv => arg 2; whnf); first | refine wp_ite (fun _ => ?_) (fun h => Bool.noConfusion h) | refine wp_ite (fun h => Bool.noConfusion h) (fun _ => ?_)))
    (conv => arg 2; whnf); refine wp_callF [] (DRes d none { dWritten (dCrash E []) 0 [121] with sure := dNow (dWritten (dCrash E []) 0 [121]), loose := [] }) [] (by simp) (f5 E hk2) ?_
    rintro v R' ⟨rfl, rfl⟩
    (conv => arg 2; whnf); refine wp_need (by decide) ?_
    (conv => arg 2; whnf); refine w_retp rfl (Vle.eq (cBool ?_))
    show ((((S (pad [121])).extract 0 (Int.toNat 1)).toList == (S [121]).toList)) = true
    rw [S_extract, strEq]
    decide
end Go.Sv
