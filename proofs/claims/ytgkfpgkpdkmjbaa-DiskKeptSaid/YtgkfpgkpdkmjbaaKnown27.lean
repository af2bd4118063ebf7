/- What pasternlaw27.known asks. -/
import Derived.Test.YtgkfpgkpdkmjbaaDisk5
import Derived.Test.YtgkfpgkpdkmjbaaDiskLaw2
namespace Go.Sv
open Go Go.Proofs

theorem eqT {l m : List UInt8} (h : ((S l).toList == (S m).toList) = false) (e : l = m) : False := by
  rw [strEq, e] at h; simp at h

def wFirst : List UInt8 := [102, 105, 114, 115, 116]
def wSecond : List UInt8 := [115, 101, 99, 111, 110, 100]
set_option maxRecDepth 100000 in
set_option maxHeartbeats 4000000 in
theorem known27_call : PCall Try.prog 29 [] (bV true) := by
  have hc0 : (cntF dNew 2).1 < 1099511627776 := by rw [dNew_cnt]; decide
  obtain ⟨D1, s1, k1, l1, g1, p1, c1, o1⟩ := save_ok dNew_ok rfl rfl rfl (s := wFirst) (by decide) hc0
  have k2 := dCut_ok 1 k1
  have o2 : dLoad (dCut D1 1) = .ok wFirst := (dCut_view D1 1).2.trans o1
  have cl : (dCut D1 1).left = 1 := rfl
  obtain ⟨D3, s3, k3, g3, n3, o3⟩ := save_cut k2 (D := dCut D1 1) l1 g1 (s := wSecond) (by decide) (by rw [cl]; decide) (by rw [cl]; decide) [true]
  rw [o2] at o3
  have k4 := dCrash_ok [true] k3
  have l4 : (dCrash D3 [true]).loose = [] := rfl
  have g4 : (dCrash D3 [true]).gone = false := rfl
  have p4 : (dCrash D3 [true]).left = 0 := rfl
  have f1 : ∀ d, SCall Try.prog 34 [.loc d 0] (DRes d none dNew) fun v R' => v = .tup [str [], .c (errV (some 20))] ∧ R' = DRes d none dNew := fun d => (load_call d none dNew (fun _ => rfl) (by decide) dNew_ok).mono fun v R' h => by rw [dNew_load] at h; exact ⟨h.2, h.1⟩
  have f2 : ∀ d, SCall Try.prog 31 [.loc d 0, str wFirst] (DRes d none dNew) fun v R' => v = .c .nilIface ∧ ∃ t, R' = DRes d t D1 := fun d => (save_call d none dNew wFirst (fun _ => rfl) (by decide) (by decide) dNew_ok (by decide)).mono fun v R' h => by rw [s1] at h; exact ⟨h.1, h.2.imp fun t h => h.1⟩
  have f3 : ∀ d t, SCall Try.prog 34 [.loc d 0] (DRes d t D1) fun v R' => v = .tup [str wFirst, .c .nilIface] ∧ R' = DRes d t D1 := fun d t => (load_call d t D1 (fun _ => l1) (by rw [l1]; decide) k1).mono fun v R' h => by rw [o1] at h; exact ⟨h.2, h.1⟩
  have f4 : ∀ d t, SCall Try.prog 32 [.loc d 0, i64V 1] (DRes d t D1) fun _ R' => R' = DRes d t (dCut D1 1) := fun d t => dcut_call d t D1 1 (by omega) (by omega)
  have f5 : ∀ d t, SCall Try.prog 31 [.loc d 0, str wSecond] (DRes d t (dCut D1 1)) fun v R' => v = .c (errV (some 23)) ∧ ∃ t', R' = DRes d t' D3 ∧ (t' = none → D3.loose = []) := fun d t => (save_call d t (dCut D1 1) wSecond (fun _ => l1) (by rw [show (dCut D1 1).loose = [] from l1]; decide) (by rw [cl]; decide) k2 (by decide)).mono fun v R' h => by rw [s3] at h; exact h
  have f6 : ∀ d t, (t = none → D3.loose = []) → SCall Try.prog 37 [.loc d 0] (DRes d t D3) fun v R' => v = .c (errV (some 23)) ∧ R' = DRes d t D3 := fun d t ht => (dsync_call d t D3 ht (by omega) k3).mono fun v R' h => by rw [dSync, if_pos g3] at h; exact h
  have f7 : ∀ d t, (t = none → D3.loose = []) → SCall Try.prog 33 [.loc d 0, slB [true]] (DRes d t D3) fun _ R' => R' = DRes d none (dCrash D3 [true]) := fun d t ht => dcrash_call d t D3 [true] ht (by omega) k3
  generalize dCrash D3 [true] = D4 at *
  have hw5 := dWrite_ok' (i := 5) (c := [97, 98]) g4 (by omega) (by decide)
  have k5 := dWrite_ok k4 hw5
  have b4 : D4.loose.length < 2 ^ 30 := by rw [l4]; decide
  have q4 : D4.left < 2 ^ 62 := by rw [p4]; decide
  have f8 : ∀ d, SCall Try.prog 34 [.loc d 0] (DRes d none D4) fun v R' => v = .tup [str wFirst, .c .nilIface] ∧ R' = DRes d none D4 := fun d => (load_call d none D4 (fun _ => l4) (by omega) k4).mono fun v R' h => by rw [o3] at h; exact ⟨h.2, h.1⟩
  have f9 : ∀ d, SCall Try.prog 36 [.loc d 0, i64V 400, str [120]] (DRes d none D4) fun v R' => v = .c (errV (some 13)) ∧ R' = DRes d none D4 := fun d => (dwrite_call d none D4 400 [120] (fun _ => l4) (by omega) q4 (by decide)).mono fun v R' h => by rw [dWrite, if_neg (by simp [g4]), if_pos (by omega)] at h; exact h
  have f10 : ∀ d, SCall Try.prog 36 [.loc d 0, i64V 5, str (List.replicate 65 0)] (DRes d none D4) fun v R' => v = .c (errV (some 12)) ∧ R' = DRes d none D4 := fun d => (dwrite_call d none D4 5 (List.replicate 65 0) (fun _ => l4) (by omega) q4 (by decide)).mono fun v R' h => by rw [dWrite, if_neg (by simp [g4]), if_neg (by omega), if_pos (by decide)] at h; exact h
  have f11 : ∀ d, SCall Try.prog 36 [.loc d 0, i64V 5, str [97, 98]] (DRes d none D4) fun v R' => v = .c .nilIface ∧ ∃ t, R' = DRes d (some t) (dWritten D4 5 [97, 98]) := fun d => (dwrite_call d none D4 5 [97, 98] (fun _ => l4) (by omega) q4 (by decide)).mono fun v R' h => by rw [show dWrite D4 5 [97, 98] = .ok (dWritten D4 5 [97, 98]) from hw5] at h; exact h
  have hr : dRead (dWritten D4 5 [97, 98]) 5 = pad [97, 98] := by
    rw [show (5 : Int) = ((5 : Nat) : Int) from rfl, dRead_now _ (by omega)]
    have : dNow (dWritten D4 5 [97, 98]) = D4.sure.set 5 (pad [97, 98]) := by simp [dNow, dWritten, l4, laidW]
    rw [this, List.getD_eq_getElem?_getD, List.getElem?_set_self (by rw [k4.n]; omega)]; rfl
  have hl5 : (dWritten D4 5 [97, 98]).loose.length = 1 := by simp [dWritten, l4]
  generalize dWritten D4 5 [97, 98] = D5 at *
  have f12 : ∀ d t, SCall Try.prog 35 [.loc d 0] (DRes d (some t) D5) fun v R' => v = i64V 1 ∧ R' = DRes d (some t) D5 := fun d t => (dloose_call d (some t) D5 (fun h => by cases h)).mono fun v R' h => by rw [hl5] at h; exact h
  have f13 : ∀ d t, SCall Try.prog 38 [.loc d 0, i64V 5] (DRes d (some t) D5) fun v R' => v = str (pad [97, 98]) ∧ R' = DRes d (some t) D5 := fun d t => (dread_call d (some t) D5 5 (fun h => by cases h) (by omega) k5).mono fun v R' h => by rw [hr] at h; exact h
  have f14 : ∀ d t, SCall Try.prog 38 [.loc d 0, i64V (-1)] (DRes d (some t) D5) fun v R' => v = str [] ∧ R' = DRes d (some t) D5 := fun d t => (dread_call d (some t) D5 (-1) (fun h => by cases h) (by omega) k5).mono fun v R' h => by rw [dRead, if_pos (by omega)] at h; exact h
  clear hc0 s1 k1 l1 g1 p1 c1 o1 k2 o2 cl s3 k3 g3 n3 o3 k4 l4 g4 p4 hw5 k5 b4 q4 hr hl5
  refine scall_of (live := []) (ords := [(8, []), (12, []), (15, [])]) Try.func29 rfl (by kernel_rfl) (by kernel_rfl) (Nat.le_of_ble_eq_true rfl) ?_
  (conv => arg 2; whnf); refine wp_callF [] [] [] rfl dnew_call ?_
  rintro v R' ⟨d, rfl, rfl⟩
  (conv => arg 2; whnf); refine wp_ite (fun h => by first | cases h | (simp at h; done)) (fun _ => ?_)
  (conv => arg 2; whnf); refine wp_callF [] (DRes d none dNew) [] (List.append_nil _).symm (f1 d) ?_
  rintro v R' ⟨rfl, rfl⟩
  (conv => arg 2; whnf); refine wp_callF [] (DRes d none dNew) [] (by simp) (f2 d) ?_
  rintro v R' ⟨rfl, t1, rfl⟩
  (conv => arg 2; whnf); refine wp_callF [] (DRes d t1 D1) [] (by simp) (f3 d t1) ?_
  rintro v R' ⟨rfl, rfl⟩
  (conv => arg 2; whnf); refine wp_callF [] (DRes d t1 D1) [] (by simp) (f4 d t1) ?_
  rintro v R' rfl
  (conv => arg 2; whnf); refine wp_cutR (frL [(1, .loc d 0), (3, .c (errV (some 20))), (4, .c .nilIface), (5, str wFirst), (6, .c .nilIface)]) (DRes d t1 (dCut D1 1)) (.cons (.refl _) (.cons (.refl _) (.cons (.refl _) (.cons (.refl _) (.cons (.refl _) (.nil _)))))) (by simp) ?_
  (conv => arg 2; whnf); refine wp_callF [] (DRes d t1 (dCut D1 1)) [] (by simp) (f5 d t1) ?_
  rintro v R' ⟨rfl, t3, rfl, ht3⟩
  (conv => arg 2; whnf); refine wp_callF [] (DRes d t3 D3) [] (by simp) (f6 d t3 ht3) ?_
  rintro v R' ⟨rfl, rfl⟩
  (conv => arg 2; whnf); refine wp_callF [] (DRes d t3 D3) [] (by simp) (f7 d t3 ht3) ?_
  rintro v R' rfl
  (conv => arg 2; whnf); refine wp_callF [] (DRes d none D4) [] (by simp) (f8 d) ?_
  rintro v R' ⟨rfl, rfl⟩
  (conv => arg 2; whnf); refine wp_cutR (frL [(1, .loc d 0), (3, .c (errV (some 20))), (4, .c .nilIface), (5, str wFirst), (6, .c .nilIface), (7, .c (errV (some 23))), (8, .c (errV (some 23))), (9, str wFirst), (10, .c .nilIface)]) (DRes d none D4) (.cons (.refl _) (.cons (.refl _) (.cons (.refl _) (.cons (.refl _) (.cons (.refl _) (.cons (.refl _) (.cons (.refl _) (.cons (.refl _) (.cons (.refl _) (.nil _)))))))))) (by simp) ?_
  (conv => arg 2; whnf); refine wp_callF [] (DRes d none D4) [] (by simp) (f9 d) ?_
  rintro v R' ⟨rfl, rfl⟩
  (conv => arg 2; whnf); refine wp_makeE 65 65 (List.replicate 65 (byteV 0)) rfl rfl (Nat.le_refl _) (by decide) rfl fun b => ?_
  (conv => arg 2; whnf); refine wp_strE (cs := List.replicate 65 (byteV 0)) (DRes d none D4).length 0 65 (List.replicate 65 0) (by simp) rfl rfl (VleL.refl _) rfl ?_
  (conv => arg 2; whnf); refine wp_callF [] (DRes d none D4) [.obj b (List.replicate 65 (byteV 0))] (by simp) (f10 d) ?_
  rintro v R' ⟨rfl, rfl⟩
  (conv => arg 2; whnf); refine wp_callF [] (DRes d none D4) [.obj b (List.replicate 65 (byteV 0))] (by simp) (f11 d) ?_
  rintro v R' ⟨rfl, t5, rfl⟩
  (conv => arg 2; whnf); refine wp_cutR (frL [(1, .loc d 0), (3, .c (errV (some 20))), (4, .c .nilIface), (5, str wFirst), (6, .c .nilIface), (7, .c (errV (some 23))), (8, .c (errV (some 23))), (9, str wFirst), (10, .c .nilIface), (11, .c (errV (some 13))), (12, .c (errV (some 12))), (13, .c .nilIface)])
    (DRes d (some t5) D5) (.cons (.refl _) (.cons (.refl _) (.cons (.refl _) (.cons (.refl _) (.cons (.refl _) (.cons (.refl _) (.cons (.refl _) (.cons (.refl _) (.cons (.refl _) (.cons (.refl _) (.cons (.refl _) (.cons (.refl _) (.nil _))))))))))))) (by simp) ?_
  (conv => arg 2; whnf); refine wp_pcall (is_call (some 20) 20) ?_
  (conv => arg 2; whnf); refine wp_ite (fun _ => ?_) (fun h => absurd h (by decide))
  (repeat ((conv => arg 2; whnf); first | refine wp_ite (fun _ => ?_) (fun h => Bool.noConfusion h) | refine wp_ite (fun h => Bool.noConfusion h) (fun _ => ?_)))
  (conv => arg 2; whnf); refine wp_ite (fun _ => ?_) (fun h => (eqT h rfl).elim)
  (conv => arg 2; whnf); refine wp_pcall (is_call (some 23) 23) ?_
  (conv => arg 2; whnf); refine wp_ite (fun _ => ?_) (fun h => absurd h (by decide))
  (conv => arg 2; whnf); refine wp_pcall (is_call (some 23) 23) ?_
  (conv => arg 2; whnf); refine wp_ite (fun _ => ?_) (fun h => absurd h (by decide))
  (repeat ((conv => arg 2; whnf); first | refine wp_ite (fun _ => ?_) (fun h => Bool.noConfusion h) | refine wp_ite (fun h => Bool.noConfusion h) (fun _ => ?_)))
  (conv => arg 2; whnf); refine wp_ite (fun _ => ?_) (fun h => (eqT h rfl).elim)
  (conv => arg 2; whnf); refine wp_pcall (is_call (some 13) 13) ?_
  (conv => arg 2; whnf); refine wp_ite (fun _ => ?_) (fun h => absurd h (by decide))
  (conv => arg 2; whnf); refine wp_pcall (is_call (some 12) 12) ?_
  (conv => arg 2; whnf); refine wp_ite (fun _ => ?_) (fun h => absurd h (by decide))
  (repeat ((conv => arg 2; whnf); first | refine wp_ite (fun _ => ?_) (fun h => Bool.noConfusion h) | refine wp_ite (fun h => Bool.noConfusion h) (fun _ => ?_)))
  (conv => arg 2; whnf); refine wp_callF [] (DRes d (some t5) D5) [] (by simp) (f12 d t5) ?_
  rintro v R' ⟨rfl, rfl⟩
  (repeat ((conv => arg 2; whnf); first | refine wp_ite (fun _ => ?_) (fun h => Bool.noConfusion h) | refine wp_ite (fun h => Bool.noConfusion h) (fun _ => ?_)))
  (conv => arg 2; whnf); refine wp_callF [] (DRes d (some t5) D5) [] (by simp) (f13 d t5) ?_
  rintro v R' ⟨rfl, rfl⟩
  (repeat ((conv => arg 2; whnf); first | refine wp_ite (fun _ => ?_) (fun h => Bool.noConfusion h) | refine wp_ite (fun h => Bool.noConfusion h) (fun _ => ?_)))
  (conv => arg 2; whnf); refine wp_callF [] (DRes d (some t5) D5) [] (by simp) (f13 d t5) ?_
  rintro v R' ⟨rfl, rfl⟩
  (conv => arg 2; whnf); refine wp_need (by decide) ?_
  (conv => arg 2; whnf); refine wp_ite (fun _ => ?_) (fun h => absurd h ?_)
  · (conv => arg 2; whnf); refine wp_callF [] (DRes d (some t5) D5) [] (by simp) (f14 d t5) ?_
    rintro v R' ⟨rfl, rfl⟩
    (conv => arg 2; whnf); refine w_retp rfl (Vle.eq (cBool ?_))
    show ((S []).toList == (S []).toList) = true
    rw [strEq]; rfl
  · show ¬ ((((S (pad [97, 98])).extract 0 (Int.toNat 2)).toList == (S [97, 98]).toList) = false)
    rw [S_extract, strEq]
    decide
end Go.Sv
