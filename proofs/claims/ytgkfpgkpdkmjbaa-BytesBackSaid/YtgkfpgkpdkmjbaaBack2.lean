/- The law BytesBack: the walk. -/
import Derived.Test.YtgkfpgkpdkmjbaaBack
namespace Go.Sv
open Go Go.Proofs

def slN (l : List Nat) : V := .sl none (l.map u64V) .no
def slI (l : List Int) : V := .sl none (l.map i64V) .no
def slT (l : List (List UInt8)) : V := .sl none (l.map str) .no

set_option maxRecDepth 100000 in
theorem back_call (ns : List Nat) (is : List Int) (ts : List (List UInt8)) (hn : ∀ n ∈ ns, n < 18446744073709551616) (hi : ∀ i ∈ is, -9223372036854775808 ≤ i ∧ i < 9223372036854775808) :
    PCall Try.prog 3 [slN ns, slI is, slT ts] (bV true) := by
  refine scall_of (live := [91, 104, 117, 127]) (ords := [(25, [0, 2, 3, 4, 5, 1, 6]), (30, [0, 2, 3, 4, 5, 1, 6]), (35, [0, 2, 3, 4, 5, 1, 6, 7, 8, 9, 10, 12, 13, 14, 15, 11, 16, 17])]) Try.func3 rfl (by kernel_rfl) (by kernel_rfl) (Nat.le_of_ble_eq_true rfl) ?_
  refine wp_pcall known24_call ?_
  refine wp_ite (fun h => by cases h) (fun _ => ?_)
  refine wp_ite (fun _ => ?_) (fun h1 => ?_)
  · refine wp_ite (fun _ => ?_) (fun h => by cases h)
    refine wp_ite (fun _ => ?_) (fun h => by cases h)
    exact wp_leaf (ends_ret (v := bV true) (resV_tmp resV_nil) (Vle.refl _) (List.nil_sublist _) rfl)
  refine wp_ite (fun _ => ?_) (fun h2 => ?_)
  · refine wp_ite (fun _ => ?_) (fun h => by cases h)
    exact wp_leaf (ends_ret (v := bV true) (resV_tmp resV_nil) (Vle.refl _) (List.nil_sublist _) rfl)
  refine wp_ite (fun _ => ?_) (fun h3 => ?_)
  · exact wp_leaf (ends_ret (v := bV true) (resV_tmp resV_nil) (Vle.refl _) (List.nil_sublist _) rfl)
  have l1 : ns.length ≤ 20 := by have := of_decide_eq_false h1; simp at this; omega
  have l2 : is.length ≤ 20 := by have := of_decide_eq_false h2; simp at this; omega
  have l3 : ts.length ≤ 20 := by have := of_decide_eq_false h3; simp at this; omega
  have b1 := bN_length ns
  have b2 := bI_length is
  refine wp_call new_call ?_
  rintro v R' ⟨w, rfl, rfl⟩
  refine wp_loop (fun m fr R => ∃ (i : Nat) (t : Option Nat), m = ns.length - i ∧ i ≤ ns.length ∧ (t = none → i = 0) ∧ R = WRes w t (bN (ns.take i)) ∧ fr = frL [(0, slN ns), (1, slI is), (2, slT ts), (7, .loc w 0), (8, i64V (i : Int))])
    ns.length _ _ (.cons (.refl _) (.cons (.refl _) (.cons (.refl _) (.cons (.refl _) (.cons (.refl _) (.nil _)))))) (List.Sublist.refl _) ⟨0, none, rfl, Nat.zero_le _, by simp, rfl, rfl⟩ ?_
  rintro m fr R ⟨i, t, rfl, hile, ht, rfl, rfl⟩
  have bi := bN_length (ns.take i)
  refine wp_ite (fun h => ?_) (fun h => ?_)
  · have hlt : i < ns.length := by have := of_decide_eq_true h; simp at this; exact this
    refine wp_elem i (u64V (ns.getD i 0)) rfl (get_map u64V 0 hlt) (Vle.refl _) ?_
    refine wp_call (wnum_call w t (bN (ns.take i)) (ns.getD i 0) (fun h => by rw [ht h]; rfl) (hn _ (mem_getD 0 hlt)) (by simp at bi; omega)) ?_
    rintro v R' ⟨t', rfl⟩
    refine wp_leaf (loop_next (ns.length - (i + 1)) (frL [(0, slN ns), (1, slI is), (2, slT ts), (7, .loc w 0), (8, i64V ((i + 1 : Nat) : Int))]) _ (by omega) (.cons (.refl _) (.cons (.refl _) (.cons (.refl _) (.cons (.refl _) (.cons (Vle.eq ?_) (.nil _)))))) (List.Sublist.refl _) ⟨i + 1, some t', rfl, by omega, by simp, by rw [bN_succ hlt], rfl⟩)
    refine cI64 ?_
    rw [w_i64]; omega
  have hie : i = ns.length := by have := of_decide_eq_false h; simp at this; omega
  subst hie
  rw [List.take_length]
  refine wp_leaf (loop_exit ?_)
  refine wp_loop (fun m fr R => ∃ (i : Nat) (t : Option Nat), m = is.length - i ∧ i ≤ is.length ∧ (t = none → bN ns ++ bI (is.take i) = []) ∧ R = WRes w t (bN ns ++ bI (is.take i)) ∧ fr = frL [(0, slN ns), (1, slI is), (2, slT ts), (7, .loc w 0), (9, i64V (i : Int))])
    is.length _ (WRes w t (bN ns ++ bI (is.take 0))) (.cons (.refl _) (.cons (.refl _) (.cons (.refl _) (.cons (.refl _) (.cons (.refl _) (.nil _)))))) (by rw [List.take_zero]; simp [bI]) ⟨0, t, rfl, Nat.zero_le _, (fun h => by have := ht h; rw [List.eq_nil_of_length_eq_zero this]; rfl), rfl, rfl⟩ ?_
  clear ht hile bi h
  rintro m fr R ⟨i, t, rfl, hile, ht, rfl, rfl⟩
  have bi := bI_length (is.take i)
  refine wp_ite (fun h => ?_) (fun h => ?_)
  · have hlt : i < is.length := by have := of_decide_eq_true h; simp at this; exact this
    refine wp_elem i (i64V (is.getD i 0)) rfl (get_map i64V 0 hlt) (Vle.refl _) ?_
    have hr := hi _ (mem_getD 0 hlt)
    refine wp_call (wint_call w t (bN ns ++ bI (is.take i)) (is.getD i 0) ht hr.1 hr.2 (by simp at bi ⊢; omega)) ?_
    rintro v R' ⟨t', rfl⟩
    refine wp_leaf (loop_next (is.length - (i + 1)) (frL [(0, slN ns), (1, slI is), (2, slT ts), (7, .loc w 0), (9, i64V ((i + 1 : Nat) : Int))]) _ (by omega) (.cons (.refl _) (.cons (.refl _) (.cons (.refl _) (.cons (.refl _) (.cons (Vle.eq ?_) (.nil _)))))) (List.Sublist.refl _) ⟨i + 1, some t', rfl, by omega, by simp, by rw [bI_succ hlt, List.append_assoc], rfl⟩)
    refine cI64 ?_
    rw [w_i64]; omega
  have hie : i = is.length := by have := of_decide_eq_false h; simp at this; omega
  subst hie
  rw [List.take_length] at ht ⊢
  refine wp_leaf (loop_exit ?_)
  refine wp_loop (fun m fr R => ∃ (i : Nat) (t : Option Nat), m = ts.length - i ∧ i ≤ ts.length ∧ (∀ s ∈ ts.take i, s.length ≤ 300) ∧ (t = none → bN ns ++ bI is ++ bT 0 (ts.take i) = []) ∧ R = WRes w t (bN ns ++ bI is ++ bT 0 (ts.take i)) ∧ fr = frL [(0, slN ns), (1, slI is), (2, slT ts), (7, .loc w 0), (10, i64V (i : Int))])
    ts.length _ (WRes w t (bN ns ++ bI is ++ bT 0 (ts.take 0))) (.cons (.refl _) (.cons (.refl _) (.cons (.refl _) (.cons (.refl _) (.cons (.refl _) (.nil _)))))) (by rw [List.take_zero]; simp [bT]) ⟨0, t, rfl, Nat.zero_le _, by simp, (fun h => by rw [List.take_zero]; simpa [bT] using ht h), rfl, rfl⟩ ?_
  clear ht hile bi h
  rintro m fr R ⟨i, t, rfl, hile, hts, ht, rfl, rfl⟩
  have bi := bT_length (ts.take i) 0 hts
  refine wp_ite (fun h => ?_) (fun h => ?_)
  · have hlt : i < ts.length := by have := of_decide_eq_true h; simp at this; exact this
    refine wp_elem i (str (ts.getD i [])) rfl (get_map str [] hlt) (Vle.refl _) ?_
    refine wp_ite (fun _ => ?_) (fun h4 => ?_)
    · refine wp_leaf (loop_ret ?_)
      exact wp_leaf (ends_ret (v := bV true) (resV_tmp resV_nil) (Vle.refl _) (List.nil_sublist _) rfl)
    have h4 : (ts.getD i []).length ≤ 300 := by have := of_decide_eq_false h4; simp only [S_size] at this; omega
    refine wp_elem i (str (ts.getD i [])) rfl (get_map str [] hlt) (Vle.refl _) ?_
    refine wp_call (wtext_call w t _ (ts.getD i []) ht (by omega) (by simp at bi ⊢; omega)) ?_
    rintro v R' ⟨t1, rfl⟩
    refine wp_elem i (str (ts.getD i [])) rfl (get_map str [] hlt) (Vle.refl _) ?_
    have he := enc_length (ts.getD i []).length
    refine wp_call ((wpart_call w (some t1) _ (ts.getD i []) (UInt8.ofNat i) (by simp) (by omega) (by simp only [encT, List.length_append] at bi he ⊢; simp only [List.length_take] at bi; omega)).vle (.cons (.refl _) (.cons (Vle.eq ?_) (.cons (.refl _) .nil)))) ?_
    · refine cByte ?_
      rw [w_u8, UInt8.toNat_ofNat']; omega
    rintro v R' ⟨t', rfl⟩
    refine wp_leaf (loop_next (ts.length - (i + 1)) (frL [(0, slN ns), (1, slI is), (2, slT ts), (7, .loc w 0), (10, i64V ((i + 1 : Nat) : Int))]) _ (by omega) (.cons (.refl _) (.cons (.refl _) (.cons (.refl _) (.cons (.refl _) (.cons (Vle.eq ?_) (.nil _)))))) (List.Sublist.refl _) ⟨i + 1, some t', rfl, by omega, ?_, by simp, by rw [bT_succ hlt]; simp, rfl⟩)
    · refine cI64 ?_
      rw [w_i64]; omega
    · intro s hs
      rw [take_one [] hlt, List.mem_append] at hs
      rcases hs with hs | hs
      · exact hts s hs
      · rw [List.mem_singleton.1 hs]; exact h4
  have hie : i = ts.length := by have := of_decide_eq_false h; simp at this; omega
  subst hie
  rw [List.take_length] at hts ht bi ⊢
  obtain ⟨L, hL⟩ : ∃ L, L = bN ns ++ bI is ++ bT 0 ts := ⟨_, rfl⟩
  have hLl : L.length < 2 ^ 60 := by rw [hL]; simp; omega
  rw [← hL]
  refine wp_leaf (loop_exit ?_)
  refine wp_call (wstring_call w t L) ?_
  rintro v R' ⟨rfl, rfl⟩
  refine wp_callF (WRes w t L) [] [] (by simp) (of_call L) ?_
  rintro v R' ⟨r, rfl, rfl⟩
  refine wp_loop (fun m fr R => ∃ (i : Nat), m = ns.length - i ∧ i ≤ ns.length ∧ R = WRes w t L ++ RRes r (bN (ns.drop i) ++ (bI is ++ bT 0 ts)) none ++ [] ∧ fr = frL [(0, slN ns), (1, slI is), (2, slT ts), (11, .loc r 0), (12, i64V (i : Int))])
    ns.length _ _ (.cons (.refl _) (.cons (.refl _) (.cons (.refl _) (.cons (.refl _) (.cons (.refl _) (.nil _)))))) (List.Sublist.refl _) ⟨0, rfl, Nat.zero_le _, by rw [hL]; simp, rfl⟩ ?_
  clear hile h ht
  rintro m fr R ⟨i, rfl, hile, rfl, rfl⟩
  refine wp_ite (fun h => ?_) (fun h => ?_)
  · have hlt : i < ns.length := by have := of_decide_eq_true h; simp at this; exact this
    refine wp_cut (frL [(0, slN ns), (1, slI is), (2, slT ts), (11, .loc r 0), (12, i64V (i : Int))]) (.cons (.refl _) (.cons (.refl _) (.cons (.refl _) (.cons (.refl _) (.cons (.refl _) (.nil _)))))) ?_
    refine wp_elem i (u64V (ns.getD i 0)) rfl (get_map u64V 0 hlt) (Vle.refl _) ?_
    have hx := hn _ (mem_getD 0 hlt)
    have hb : (bN (ns.drop i) ++ (bI is ++ bT 0 ts)).length < 2 ^ 60 := by
      have := bN_length (ns.drop i)
      simp at this ⊢; omega
    have d : SCall Try.prog 21 [.loc r 0, u64V 18446744073709551615] (RRes r (bN (ns.drop i) ++ (bI is ++ bT 0 ts)) none) fun v R' => v = u64V (ns.getD i 0) ∧ R' = RRes r (bN (ns.drop (i + 1)) ++ (bI is ++ bT 0 ts)) none := by
      have := rdN_call r (bN (ns.drop i) ++ (bI is ++ bT 0 ts)) none 18446744073709551615 hb
      rw [bN_drop hlt, List.append_assoc, rdN_fit hx (by omega), ← List.append_assoc, ← bN_drop hlt] at this
      exact this
    refine wp_callF (WRes w t L) (RRes r (bN (ns.drop i) ++ (bI is ++ bT 0 ts)) none) [] rfl d ?_
    rintro v R' ⟨rfl, rfl⟩
    refine wp_ite (fun h => by simp at h) (fun _ => ?_)
    refine wp_leaf (loop_next (ns.length - (i + 1)) (frL [(0, slN ns), (1, slI is), (2, slT ts), (11, .loc r 0), (12, i64V ((i + 1 : Nat) : Int))]) _ (by omega) (.cons (.refl _) (.cons (.refl _) (.cons (.refl _) (.cons (.refl _) (.cons (Vle.eq ?_) (.nil _)))))) (List.Sublist.refl _) ⟨i + 1, rfl, by omega, rfl, rfl⟩)
    refine cI64 ?_
    rw [w_i64]; omega
  have hie : i = ns.length := by have := of_decide_eq_false h; simp at this; omega
  subst hie
  rw [List.drop_length]
  refine wp_leaf (loop_exit ?_)
  refine wp_loop (fun m fr R => ∃ (i : Nat), m = is.length - i ∧ i ≤ is.length ∧ R = WRes w t L ++ RRes r (bI (is.drop i) ++ bT 0 ts) none ++ [] ∧ fr = frL [(1, slI is), (2, slT ts), (11, .loc r 0), (13, i64V (i : Int))])
    is.length _ _ (.cons (.refl _) (.cons (.refl _) (.cons (.refl _) (.cons (.refl _) (.nil _))))) (List.Sublist.refl _) ⟨0, rfl, Nat.zero_le _, rfl, rfl⟩ ?_
  clear hile h
  rintro m fr R ⟨i, rfl, hile, rfl, rfl⟩
  refine wp_ite (fun h => ?_) (fun h => ?_)
  · have hlt : i < is.length := by have := of_decide_eq_true h; simp at this; exact this
    refine wp_cut (frL [(1, slI is), (2, slT ts), (11, .loc r 0), (13, i64V (i : Int))]) (.cons (.refl _) (.cons (.refl _) (.cons (.refl _) (.cons (.refl _) (.nil _))))) ?_
    refine wp_elem i (i64V (is.getD i 0)) rfl (get_map i64V 0 hlt) (Vle.refl _) ?_
    have hx := hi _ (mem_getD 0 hlt)
    have hb : (bI (is.drop i) ++ bT 0 ts).length < 2 ^ 60 := by
      have := bI_length (is.drop i)
      simp at this ⊢; omega
    have d : SCall Try.prog 22 [.loc r 0] (RRes r (bI (is.drop i) ++ bT 0 ts) none) fun v R' => v = i64V (is.getD i 0) ∧ R' = RRes r (bI (is.drop (i + 1)) ++ bT 0 ts) none := by
      have := rdI_call r (bI (is.drop i) ++ bT 0 ts) none hb
      rw [bI_drop hlt, List.append_assoc, rdI_fit hx.1 hx.2, ← List.append_assoc, ← bI_drop hlt] at this
      exact this
    refine wp_callF (WRes w t L) (RRes r (bI (is.drop i) ++ bT 0 ts) none) [] rfl d ?_
    rintro v R' ⟨rfl, rfl⟩
    refine wp_ite (fun h => by simp at h) (fun _ => ?_)
    refine wp_leaf (loop_next (is.length - (i + 1)) (frL [(1, slI is), (2, slT ts), (11, .loc r 0), (13, i64V ((i + 1 : Nat) : Int))]) _ (by omega) (.cons (.refl _) (.cons (.refl _) (.cons (.refl _) (.cons (Vle.eq ?_) (.nil _))))) (List.Sublist.refl _) ⟨i + 1, rfl, by omega, rfl, rfl⟩)
    refine cI64 ?_
    rw [w_i64]; omega
  have hie : i = is.length := by have := of_decide_eq_false h; simp at this; omega
  subst hie
  rw [List.drop_length]
  refine wp_leaf (loop_exit ?_)
  refine wp_loop (fun m fr R => ∃ (i : Nat), m = ts.length - i ∧ i ≤ ts.length ∧ R = WRes w t L ++ RRes r (bT i (ts.drop i)) none ++ [] ∧ fr = frL [(2, slT ts), (11, .loc r 0), (14, i64V (i : Int))])
    ts.length _ _ (.cons (.refl _) (.cons (.refl _) (.cons (.refl _) (.nil _)))) (List.Sublist.refl _) ⟨0, rfl, Nat.zero_le _, rfl, rfl⟩ ?_
  clear hile h
  rintro m fr R ⟨i, rfl, hile, rfl, rfl⟩
  refine wp_ite (fun h => ?_) (fun h => ?_)
  · have hlt : i < ts.length := by have := of_decide_eq_true h; simp at this; exact this
    refine wp_cut (frL [(2, slT ts), (11, .loc r 0), (14, i64V (i : Int))]) (.cons (.refl _) (.cons (.refl _) (.cons (.refl _) (.nil _)))) ?_
    refine wp_elem i (str (ts.getD i [])) rfl (get_map str [] hlt) (Vle.refl _) ?_
    have hx := hts _ (mem_getD [] hlt)
    have hb : (bT i (ts.drop i)).length < 2 ^ 60 := by
      have := bT_length (ts.drop i) i (fun s hs => hts s (List.mem_of_mem_drop hs))
      simp at this; omega
    have d : SCall Try.prog 23 [.loc r 0, i64V 300] (RRes r (bT i (ts.drop i)) none) fun v R' => v = str (ts.getD i []) ∧ R' = RRes r (UInt8.ofNat i :: encT (ts.getD i []) ++ bT (i + 1) (ts.drop (i + 1))) none := by
      have := rdT_call r (bT i (ts.drop i)) none 300 (by omega) hb
      rw [show Int.toNat 300 = 300 from rfl, bT_drop hlt, rdT_fit (by omega) (by omega), ← bT_drop hlt] at this
      exact this
    refine wp_callF (WRes w t L) (RRes r (bT i (ts.drop i)) none) [] rfl d ?_
    rintro v R' ⟨rfl, rfl⟩
    refine wp_ite (fun h => by simp at h) (fun _ => ?_)
    refine wp_elem i (str (ts.getD i [])) rfl (get_map str [] hlt) (Vle.refl _) ?_
    have d2 : SCall Try.prog 24 [.loc r 0, byteV (UInt8.ofNat i)] (RRes r (UInt8.ofNat i :: encT (ts.getD i []) ++ bT (i + 1) (ts.drop (i + 1))) none) fun v R' => v = str (ts.getD i []) ∧ R' = RRes r (bT (i + 1) (ts.drop (i + 1))) none := by
      have hb2 : (UInt8.ofNat i :: encT (ts.getD i []) ++ bT (i + 1) (ts.drop (i + 1))).length < 2 ^ 60 := by
        rw [bT_drop hlt, List.length_append] at hb; omega
      have := rdP_call r (UInt8.ofNat i :: encT (ts.getD i []) ++ bT (i + 1) (ts.drop (i + 1))) none (UInt8.ofNat i) hb2
      rw [rdP_fit _ (by omega)] at this
      exact this
    refine wp_callF (WRes w t L) (RRes r (UInt8.ofNat i :: encT (ts.getD i []) ++ bT (i + 1) (ts.drop (i + 1))) none) [] rfl (d2.vle (.cons (.refl _) (.cons (Vle.eq ?_) .nil))) ?_
    · refine cByte ?_
      rw [w_u8, UInt8.toNat_ofNat']; omega
    rintro v R' ⟨rfl, rfl⟩
    refine wp_ite (fun h => by simp at h) (fun _ => ?_)
    refine wp_leaf (loop_next (ts.length - (i + 1)) (frL [(2, slT ts), (11, .loc r 0), (14, i64V ((i + 1 : Nat) : Int))]) _ (by omega) (.cons (.refl _) (.cons (.refl _) (.cons (Vle.eq ?_) (.nil _)))) (List.Sublist.refl _) ⟨i + 1, rfl, by omega, rfl, rfl⟩)
    refine cI64 ?_
    rw [w_i64]; omega
  have hie : i = ts.length := by have := of_decide_eq_false h; simp at this; omega
  subst hie
  rw [List.drop_length]
  refine wp_leaf (loop_exit ?_)
  refine wp_callF (WRes w t L) (RRes r [] none) [] rfl (left_call r [] none) ?_
  rintro v R' ⟨rfl, rfl⟩
  refine wp_ite (fun _ => ?_) (fun h => absurd h (by decide))
  refine wp_callF (WRes w t L) (RRes r [] none) [] rfl (err_call r [] none) ?_
  rintro v R' ⟨rfl, rfl⟩
  exact wp_leaf (ends_ret (v := bV true) (resV_tmp resV_nil) (Vle.refl _) (List.nil_sublist _) rfl)
end Go.Sv
