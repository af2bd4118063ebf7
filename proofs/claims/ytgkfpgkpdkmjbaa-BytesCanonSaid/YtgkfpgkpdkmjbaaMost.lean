/- The law BytesMost. -/
import Derived.Test.YtgkfpgkpdkmjbaaKnown24
namespace Go.Sv
open Go Go.Proofs

theorem rdI_err (l : List UInt8) (c : Nat) : rdI l (some c) = (0, l, some c) := by simp [rdI, rdN, step, zag]
theorem u64_of {n : Nat} (h : n < 18446744073709551616) : IntKind.u64.wrap ((n : Nat) : Int) = n := by rw [w_u64]; omega
theorem rdN_big {a b : Nat} (ha : a < 18446744073709551616) (h : a > b) (l : List UInt8) : rdN b (enc a ++ l) none = (0, enc a ++ l, some 12) := by
  simp [rdN, step, decN, dec_enc ha, h]
theorem rdN_fit {a b : Nat} (ha : a < 18446744073709551616) (h : ¬ a > b) (l : List UInt8) : rdN b (enc a ++ l) none = (a, l, none) := by
  simp only [rdN, step, decN, dec_enc ha, if_neg h]
theorem rdT_big {s : List UInt8} {k : Nat} (hs : s.length < 18446744073709551616) (h : s.length > k) (l : List UInt8) : rdT k (encT s ++ l) none = ([], encT s ++ l, some 12) := by
  simp [rdT, step, decT, decN, encT, dec_enc hs, h]
theorem rdT_fit {s : List UInt8} {k : Nat} (hs : s.length < 18446744073709551616) (h : ¬ s.length > k) (l : List UInt8) : rdT k (encT s ++ l) none = (s, l, none) := by
  simp only [rdT, step, decT_encT hs (Nat.not_lt.1 h)]

set_option maxRecDepth 100000 in
theorem most_call (a b : Nat) (s : List UInt8) (ha : a < 4294967296) (hb : b < 4294967296) : PCall Try.prog 7 [.c (.int .u32 a), .c (.int .u32 b), str s] (bV true) := by
  refine scall_of (live := []) (ords := [(10, []), (15, []), (16, [])]) Try.func7 rfl (by kernel_rfl) (by kernel_rfl) (Nat.le_of_ble_eq_true rfl) ?_
  refine wp_pcall known24_call ?_
  refine wp_ite (fun h => by cases h) (fun _ => ?_)
  refine wp_ite (fun h => ?_) (fun h => ?_)
  · exact wp_leaf (ends_ret (v := bV true) (resV_tmp resV_nil) (Vle.refl _) (List.nil_sublist _) rfl)
  have hs : s.length ≤ 100 := by
    have h := of_decide_eq_false h
    simp at h; omega
  refine wp_call new_call ?_
  rintro v R' ⟨w, rfl, rfl⟩
  have c1 : SCall Try.prog 15 [.loc w 0, u64V a] (WRes w none []) fun _ R' => ∃ t', R' = WRes w (some t') (enc a) := wnum_call w none [] a (by simp) (by omega) (by simp)
  refine wp_call (c1.vle (.cons (.refl _) (.cons (Vle.eq ?_) .nil))) ?_
  · exact cU64 (u64_of (by omega))
  rintro v R' ⟨t1, rfl⟩
  have hea := enc_length a
  have hes := enc_length s.length
  have hL : (enc a ++ encT s).length ≤ 120 := by simp [encT]; omega
  have hL2 : (encT s).length ≤ 110 := by simp [encT]; omega
  refine wp_call (wtext_call w (some t1) (enc a) s (by simp) (by omega) (by omega)) ?_
  rintro v R' ⟨t2, rfl⟩
  refine wp_call (wstring_call w (some t2) _) ?_
  rintro v R' ⟨rfl, rfl⟩
  refine wp_callF (WRes w (some t2) (enc a ++ encT s)) [] [] rfl (of_call _) ?_
  rintro v R' ⟨r, rfl, rfl⟩
  by_cases hab : a > b
  · have d1 : SCall Try.prog 21 [.loc r 0, u64V b] (RRes r (enc a ++ encT s) none) fun v R' => v = u64V 0 ∧ R' = RRes r (enc a ++ encT s) (some 12) := by
      have := rdN_call r (enc a ++ encT s) none b (by omega)
      rw [rdN_big (by omega) hab] at this
      exact this
    refine wp_callF (WRes w (some t2) (enc a ++ encT s)) (RRes r (enc a ++ encT s) none) [] rfl (d1.vle (.cons (.refl _) (.cons (Vle.eq ?_) .nil))) ?_
    · exact cU64 (u64_of (by omega))
    rintro v R' ⟨rfl, rfl⟩
    refine wp_cut (frL [(0, .c (.int .u32 a)), (1, .c (.int .u32 b)), (2, str s), (8, .loc r 0), (9, u64V 0)]) (.cons (.refl _) (.cons (.refl _) (.cons (.refl _) (.cons (.refl _) (.cons (.refl _) (.nil _)))))) ?_
    refine wp_ite (fun _ => ?_) (fun h => absurd (Int.ofNat_lt.2 hab) (of_decide_eq_false h))
    refine wp_ite (fun _ => ?_) (fun h => absurd h (by decide))
    refine wp_callF (WRes w (some t2) (enc a ++ encT s)) (RRes r (enc a ++ encT s) (some 12)) [] rfl (err_call r _ _) ?_
    rintro v R' ⟨rfl, rfl⟩
    refine wp_pcall (is_call (some 12) 12) ?_
    refine wp_ite (fun _ => ?_) (fun h => absurd h (by decide))
    refine wp_callF (WRes w (some t2) (enc a ++ encT s)) (RRes r (enc a ++ encT s) (some 12)) [] rfl (rdT_call r _ _ 100 (by omega) (by omega)) ?_
    rintro v R' ⟨rfl, rfl⟩
    refine wp_ite (fun _ => ?_) (fun h => (eqS_true h rfl).elim)
    have d3 : SCall Try.prog 22 [.loc r 0] (RRes r (enc a ++ encT s) (some 12)) fun v R' => v = i64V 0 ∧ R' = RRes r (enc a ++ encT s) (some 12) := by
      have := rdI_call r (enc a ++ encT s) (some 12) (by omega)
      have e : rdI (enc a ++ encT s) (some 12) = (0, enc a ++ encT s, some 12) := rdI_err _ _
      rw [e] at this
      exact this
    refine wp_callF (WRes w (some t2) (enc a ++ encT s)) (RRes r (enc a ++ encT s) (some 12)) [] rfl d3 ?_
    rintro v R' ⟨rfl, rfl⟩
    refine wp_ite (fun _ => ?_) (fun h => absurd h (by decide))
    refine wp_callF (WRes w (some t2) (enc a ++ encT s)) (RRes r (enc a ++ encT s) (some 12)) [] rfl (err_call r _ _) ?_
    rintro v R' ⟨rfl, rfl⟩
    refine wp_pcall (is_call (some 12) 12) ?_
    exact wp_leaf (ends_ret (v := bV true) (resV_tmp resV_nil) (Vle.refl _) (List.nil_sublist _) rfl)
  · have d1 : SCall Try.prog 21 [.loc r 0, u64V b] (RRes r (enc a ++ encT s) none) fun v R' => v = u64V a ∧ R' = RRes r (encT s) none := by
      have := rdN_call r (enc a ++ encT s) none b (by omega)
      rw [rdN_fit (by omega) hab] at this
      exact this
    refine wp_callF (WRes w (some t2) (enc a ++ encT s)) (RRes r (enc a ++ encT s) none) [] rfl (d1.vle (.cons (.refl _) (.cons (Vle.eq ?_) .nil))) ?_
    · exact cU64 (u64_of (by omega))
    rintro v R' ⟨rfl, rfl⟩
    refine wp_cut (frL [(0, .c (.int .u32 a)), (1, .c (.int .u32 b)), (2, str s), (8, .loc r 0), (9, u64V a)]) (.cons (.refl _) (.cons (.refl _) (.cons (.refl _) (.cons (.refl _) (.cons (.refl _) (.nil _)))))) ?_
    refine wp_ite (fun h => absurd (of_decide_eq_true h) (fun h => hab (Int.ofNat_lt.1 h))) (fun _ => ?_)
    have ek : IntKind.i64.wrap (Int.tmod (b : Int) 120) = ((b % 120 : Nat) : Int) := by
      rw [Int.tmod_eq_emod_of_nonneg (by omega), w_i64]; omega
    by_cases hk : s.length > b % 120
    · have d2 : SCall Try.prog 23 [.loc r 0, i64V ((b % 120 : Nat) : Int)] (RRes r (encT s) none) fun v R' => v = str [] ∧ R' = RRes r (encT s) (some 12) := by
        have := rdT_call r (encT s) none ((b % 120 : Nat) : Int) (by omega) (by omega)
        have e := rdT_big (s := s) (k := b % 120) (by omega) hk []
        simp only [List.append_nil] at e
        rw [Int.toNat_natCast, e] at this
        exact this
      refine wp_callF (WRes w (some t2) (enc a ++ encT s)) (RRes r (encT s) none) [] rfl (d2.vle (.cons (.refl _) (.cons (Vle.eq ?_) .nil))) ?_
      · exact cI64 ek
      rintro v R' ⟨rfl, rfl⟩
      refine wp_ite (fun _ => ?_) (fun h => ?_)
      · refine wp_cut (frL [(0, .c (.int .u32 a)), (8, .loc r 0), (9, u64V a), (11, str [])]) (.cons (.refl _) (.cons (.refl _) (.cons (.refl _) (.cons (.refl _) (.nil _))))) ?_
        have e0 : ((a : Int) == IntKind.u64.wrap (a : Int)) = true := by rw [u64_of (by omega)]; simp
        refine wp_ite (fun _ => ?_) (fun h => ?_)
        · refine wp_ite (fun _ => ?_) (fun h => (eqS_true h rfl).elim)
          refine wp_callF (WRes w (some t2) (enc a ++ encT s)) (RRes r (encT s) (some 12)) [] rfl (err_call r _ _) ?_
          rintro v R' ⟨rfl, rfl⟩
          refine wp_pcall (is_call (some 12) 12) ?_
          exact wp_leaf (ends_ret (v := bV true) (resV_tmp resV_nil) (Vle.refl _) (List.nil_sublist _) rfl)
        · exact absurd (e0.symm.trans h) (by decide)
      · have h := of_decide_eq_false h
        simp only [S_size] at h
        rw [ek] at h
        exact absurd (Int.ofNat_lt.2 hk) h
    · have d2 : SCall Try.prog 23 [.loc r 0, i64V ((b % 120 : Nat) : Int)] (RRes r (encT s) none) fun v R' => v = str s ∧ R' = RRes r [] none := by
        have := rdT_call r (encT s) none ((b % 120 : Nat) : Int) (by omega) (by omega)
        have e := rdT_fit (s := s) (k := b % 120) (by omega) hk []
        simp only [List.append_nil] at e
        rw [Int.toNat_natCast, e] at this
        exact this
      refine wp_callF (WRes w (some t2) (enc a ++ encT s)) (RRes r (encT s) none) [] rfl (d2.vle (.cons (.refl _) (.cons (Vle.eq ?_) .nil))) ?_
      · exact cI64 ek
      rintro v R' ⟨rfl, rfl⟩
      refine wp_ite (fun h => ?_) (fun _ => ?_)
      · have h := of_decide_eq_true h
        simp only [S_size] at h
        rw [ek] at h
        exact absurd (Int.ofNat_lt.1 h) hk
      · refine wp_cut (frL [(0, .c (.int .u32 a)), (2, str s), (8, .loc r 0), (9, u64V a), (11, str s)]) (.cons (.refl _) (.cons (.refl _) (.cons (.refl _) (.cons (.refl _) (.cons (.refl _) (.nil _)))))) ?_
        have e0 : ((a : Int) == IntKind.u64.wrap (a : Int)) = true := by rw [u64_of (by omega)]; simp
        refine wp_ite (fun _ => ?_) (fun h => ?_)
        · refine wp_ite (fun _ => ?_) (fun h => (eqS_true h rfl).elim)
          refine wp_callF (WRes w (some t2) (enc a ++ encT s)) (RRes r [] none) [] rfl (err_call r _ _) ?_
          rintro v R' ⟨rfl, rfl⟩
          exact wp_leaf (ends_ret (v := bV true) (resV_tmp resV_nil) (Vle.refl _) (List.nil_sublist _) rfl)
        · exact absurd (e0.symm.trans h) (by decide)
end Go.Sv
