/- The law BytesShort. -/
import Derived.Test.YtgkfpgkpdkmjbaaMost
namespace Go.Sv
open Go Go.Proofs

theorem dec_prefix : ∀ (f n k acc j : Nat), k + f ≤ 9 → j < (encF f n).length → dec (7 * k) acc ((encF f n).take j) = .error 11 := by
  intro f
  induction f with
  | zero =>
    intro n k acc j _ hj
    simp [encF] at hj
    subst hj
    simp [dec]
  | succ f ih =>
    intro n k acc j hk hj
    cases j with
    | zero => simp [dec]
    | succ j =>
      by_cases hn : n < 128
      · rw [encF_lt _ n hn] at hj; simp at hj
      · rw [encF, if_neg hn] at hj ⊢
        have e : (UInt8.ofNat (n % 128 + 128)).toNat = n % 128 + 128 := by simp; omega
        simp only [List.take_succ_cons, dec, e]
        rw [if_neg (by omega), if_neg (by omega)]
        have e3 : 7 * k + 7 = 7 * (k + 1) := by omega
        rw [e3]
        exact ih _ _ _ _ (by omega) (by simpa using hj)
theorem enc_prefix {n j : Nat} (hj : j < (enc n).length) : dec 0 0 ((enc n).take j) = .error 11 := by
  have := dec_prefix 9 n 0 0 j (by omega) hj
  simpa [enc] using this

theorem decT_prefix {s : List UInt8} {most j : Nat} (hs : s.length < 18446744073709551616) (hm : s.length ≤ most) (hj : j < (encT s).length) : decT most ((encT s).take j) = .error 11 := by
  unfold encT at hj ⊢
  by_cases h : j < (enc s.length).length
  · rw [List.take_append_of_le_length (by omega)]
    simp [decT, decN, enc_prefix h]
  · have : (enc s.length ++ s).take j = enc s.length ++ s.take (j - (enc s.length).length) := by
      rw [List.take_append, List.take_of_length_le (by omega)]
    rw [this]
    simp only [decT, decN_enc hs hm]
    rw [if_pos]
    simp at hj ⊢; omega

/-- What is read of a row cut off. -/
theorem short_read {n : Nat} {s : List UInt8} {m : Nat} (hn : n < 18446744073709551616) (hs : s.length ≤ 300) (hm : m < (enc n ++ encT s).length) :
    ∃ x l2 e2, rdN 18446744073709551615 ((enc n ++ encT s).take m) none = (x, l2, e2) ∧ (x = 0 ∨ x = n) ∧ l2.length ≤ 400 ∧ ∃ l3, rdT 300 l2 e2 = ([], l3, some 11) := by
  have hes := enc_length s.length
  have hen := enc_length n
  have hT : (encT s).length ≤ 310 := by simp [encT]; omega
  by_cases h : m < (enc n).length
  · refine ⟨0, (enc n ++ encT s).take m, some 11, ?_, .inl rfl, by simp; omega, (enc n ++ encT s).take m, rfl⟩
    rw [List.take_append_of_le_length (by omega)]
    simp [rdN, step, decN, enc_prefix h]
  · have : (enc n ++ encT s).take m = enc n ++ (encT s).take (m - (enc n).length) := by
      rw [List.take_append, List.take_of_length_le (by omega)]
    rw [this]
    refine ⟨n, (encT s).take (m - (enc n).length), none, rdN_fit hn (by omega) _, .inr rfl, by simp; omega, (encT s).take (m - (enc n).length), ?_⟩
    simp only [rdT, step]
    rw [decT_prefix (by omega) hs (by simp at hm; omega)]

set_option maxRecDepth 100000 in
theorem short_call (n : Nat) (s : List UInt8) (at_ : Nat) (hn : n < 18446744073709551616) (ha : at_ < 65536) : PCall Try.prog 4 [u64V n, str s, .c (.int .u16 at_)] (bV true) := by
  refine scall_of (live := []) (ords := [(9, []), (13, [])]) Try.func4 rfl (by kernel_rfl) (by kernel_rfl) (Nat.le_of_ble_eq_true rfl) ?_
  refine wp_pcall known24_call ?_
  refine wp_ite (fun h => by cases h) (fun _ => ?_)
  refine wp_ite (fun h => ?_) (fun h => ?_)
  · exact wp_leaf (ends_ret (v := bV true) (resV_tmp resV_nil) (Vle.refl _) (List.nil_sublist _) rfl)
  have hs : s.length ≤ 300 := by
    have h := of_decide_eq_false h
    simp at h; omega
  refine wp_call new_call ?_
  rintro v R' ⟨w, rfl, rfl⟩
  have c1 : SCall Try.prog 15 [.loc w 0, u64V n] (WRes w none []) fun _ R' => ∃ t', R' = WRes w (some t') (enc n) := wnum_call w none [] n (by simp) (by omega) (by simp)
  refine wp_call c1 ?_
  rintro v R' ⟨t1, rfl⟩
  have hea := enc_length n
  have hes := enc_length s.length
  have hL : (enc n ++ encT s).length ≤ 320 := by simp [encT]; omega
  have hL2 : 2 ≤ (enc n ++ encT s).length := by
    have h1 : 1 ≤ (enc n).length := by unfold enc; rw [encF]; split <;> simp
    have h2 : 1 ≤ (enc s.length).length := by unfold enc; rw [encF]; split <;> simp
    simp [encT]; omega
  refine wp_call (wtext_call w (some t1) (enc n) s (by simp) (by omega) (by omega)) ?_
  rintro v R' ⟨t2, rfl⟩
  refine wp_call (wstring_call w (some t2) _) ?_
  rintro v R' ⟨rfl, rfl⟩
  refine wp_cut (frL [(0, u64V n), (2, .c (.int .u16 at_)), (8, str (enc n ++ encT s))]) (.cons (.refl _) (.cons (.refl _) (.cons (.refl _) (.nil _)))) ?_
  refine wp_ite (fun h => ?_) (fun _ => ?_)
  · have h := of_decide_eq_true h
    simp only [S_size] at h
    exact absurd h (by omega)
  refine wp_need (by simp only [S_size]; omega) ?_
  have em : (IntKind.i64.wrap ((at_ : Nat) : Int)).tmod ((S (enc n ++ encT s)).size : Int) = ((at_ % (enc n ++ encT s).length : Nat) : Int) := by
    have e1 : IntKind.i64.wrap ((at_ : Nat) : Int) = ((at_ : Nat) : Int) := by rw [w_i64]; omega
    rw [e1, Int.tmod_eq_emod_of_nonneg (by omega)]
    rfl
  have hm : at_ % (enc n ++ encT s).length < (enc n ++ encT s).length := Nat.mod_lt _ (by omega)
  refine wp_need (by rw [em]; simp only [S_size]; omega) ?_
  obtain ⟨x, l2, e2, h1, h2, h3, l3, h4⟩ := short_read hn hs hm
  refine wp_callF (WRes w (some t2) (enc n ++ encT s)) [] [] rfl ((of_call ((enc n ++ encT s).take (at_ % (enc n ++ encT s).length))).vle (.cons (Vle.eq ?_) .nil)) ?_
  · refine cStr ?_
    rw [em, S_extract, Int.toNat_natCast]; simp
  rintro v R' ⟨r, rfl, rfl⟩
  have d1 : SCall Try.prog 21 [.loc r 0, u64V 18446744073709551615] (RRes r ((enc n ++ encT s).take (at_ % (enc n ++ encT s).length)) none) fun v R' => v = u64V x ∧ R' = RRes r l2 e2 := by
    have := rdN_call r ((enc n ++ encT s).take (at_ % (enc n ++ encT s).length)) none 18446744073709551615 (Nat.lt_of_le_of_lt (List.length_take_le _ _) (by omega))
    rw [h1] at this
    exact this
  refine wp_callF (WRes w (some t2) (enc n ++ encT s)) (RRes r ((enc n ++ encT s).take (at_ % (enc n ++ encT s).length)) none) [] rfl d1 ?_
  rintro v R' ⟨rfl, rfl⟩
  have d2 : SCall Try.prog 23 [.loc r 0, i64V 300] (RRes r l2 e2) fun v R' => v = str [] ∧ R' = RRes r l3 (some 11) := by
    have := rdT_call r l2 e2 300 (by omega) (by omega)
    rw [show Int.toNat 300 = 300 from rfl, h4] at this
    exact this
  refine wp_callF (WRes w (some t2) (enc n ++ encT s)) (RRes r l2 e2) [] rfl d2 ?_
  rintro v R' ⟨rfl, rfl⟩
  refine wp_cut (frL [(0, u64V n), (9, .loc r 0), (10, u64V x), (11, str [])]) (.cons (.refl _) (.cons (.refl _) (.cons (.refl _) (.cons (.refl _) (.nil _))))) ?_
  refine wp_callF (WRes w (some t2) (enc n ++ encT s)) (RRes r l3 (some 11)) [] rfl (err_call r _ _) ?_
  rintro v R' ⟨rfl, rfl⟩
  refine wp_pcall (is_call (some 11) 11) ?_
  refine wp_ite (fun _ => ?_) (fun h => absurd h (by decide))
  refine wp_ite (fun _ => ?_) (fun h => (eqS_true h rfl).elim)
  refine wp_ite (fun _ => ?_) (fun h => ?_)
  · exact wp_leaf (ends_ret (v := bV true) (resV_tmp resV_nil) (Vle.refl _) (List.nil_sublist _) rfl)
  · rcases h2 with rfl | rfl
    · exact absurd h (by decide)
    · refine wp_leaf (ends_ret (v := bV true) (resV_tmp resV_nil) (Vle.eq ?_) (List.nil_sublist _) rfl)
      refine cBool ?_
      simp
end Go.Sv
