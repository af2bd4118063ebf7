/- The law BytesCanon: the plain part, and the walk. -/
import Derived.Test.YtgkfpgkpdkmjbaaBytes4
import Derived.Test.YtgkfpgkpdkmjbaaKnown24
import Derived.Test.YtgkfpgkpdkmjbaaMost
import Derived.Test.YtgkfpgkpdkmjbaaSumLaw
namespace Go.Sv
open Go Go.Proofs

theorem encF_parts : ∀ (f n : Nat), n < 128 ^ (f + 1) → ∃ (p : List UInt8) (x : UInt8), encF f n = p ++ [x] ∧ x.toNat < 128 ∧ ∀ b ∈ p, 128 ≤ b.toNat
  | 0, n, h => ⟨[], UInt8.ofNat n, rfl, by simp at h ⊢; omega, by simp⟩
  | f + 1, n, h => by
    rw [encF]
    split
    · exact ⟨[], UInt8.ofNat n, rfl, by simp; omega, by simp⟩
    · obtain ⟨p, x, h1, h2, h3⟩ := encF_parts f (n / 128) (by
        rw [Nat.pow_succ] at h
        exact Nat.div_lt_of_lt_mul (by rw [Nat.mul_comm]; exact h))
      refine ⟨UInt8.ofNat (n % 128 + 128) :: p, x, by rw [h1]; rfl, h2, ?_⟩
      intro b hb
      rcases List.mem_cons.1 hb with rfl | hb
      · simp; omega
      · exact h3 b hb
theorem enc_parts {n : Nat} (h : n < 18446744073709551616) : ∃ (p : List UInt8) (x : UInt8), enc n = p ++ [x] ∧ x.toNat < 128 ∧ ∀ b ∈ p, 128 ≤ b.toNat := encF_parts 9 n (by omega)

/-- More bytes than need be. -/
theorem dec_more : ∀ (cs : List UInt8) (sh acc : Nat), (∀ b ∈ cs, 128 ≤ b.toNat) → (cs ≠ [] ∨ 0 < sh) → dec sh acc (cs ++ [0]) = .error 10
  | [], sh, acc, _, h => by
    have : 0 < sh := h.resolve_left (by simp)
    simp [dec, this]
  | c :: cs, sh, acc, hc, _ => by
    have h1 := hc c (by simp)
    simp only [List.cons_append, dec]
    split
    · rfl
    · rw [if_neg (by omega)]
      exact dec_more cs _ _ (fun b hb => hc b (by simp [hb])) (.inr (by omega))
theorem rdN_more {cs : List UInt8} (most : Nat) (h : ∀ b ∈ cs, 128 ≤ b.toNat) (hn : cs ≠ []) : rdN most (cs ++ [0]) none = (0, cs ++ [0], some 10) := by
  simp [rdN, step, decN, dec_more cs 0 0 h (.inl hn)]

theorem or_u8 (a b : UInt8) : IntKind.u8.wrap ((BitVec.ofInt IntKind.u8.bits (a.toNat : Int) ||| BitVec.ofInt IntKind.u8.bits (b.toNat : Int)).toNat : Int) = ((a ||| b).toNat : Int) := by
  have h1 : ∀ c : UInt8, BitVec.ofInt IntKind.u8.bits (c.toNat : Int) = c.toBitVec := by
    intro c
    apply BitVec.eq_of_toNat_eq
    rw [BitVec.toNat_ofInt]
    have := c.toNat_lt
    show (((c.toNat : Nat) : Int) % ((2 ^ 8 : Nat) : Int)).toNat = c.toNat
    omega
  rw [h1, h1, w_u8]
  have := (a ||| b).toNat_lt
  show (((a ||| b).toNat : Nat) : Int) % 256 = _
  omega
theorem or_128 (a : UInt8) : 128 ≤ (a ||| 128).toNat := by
  rw [UInt8.toNat_or]
  exact Nat.right_le_or

set_option maxRecDepth 100000 in
theorem canon_call (n k : Nat) (hn : n < 18446744073709551616) (hk : k < 256) : PCall Try.prog 6 [u64V n, .c (.int .u8 k)] (bV true) := by
  refine scall_of (live := [19, 78, 81]) (ords := [(6, []), (12, []), (17, [])]) Try.func6 rfl (by kernel_rfl) (by kernel_rfl) (Nat.le_of_ble_eq_true rfl) ?_
  refine wp_pcall known24_call ?_
  refine wp_ite (fun h => by cases h) (fun _ => ?_)
  refine wp_call new_call ?_
  rintro v R' ⟨w, rfl, rfl⟩
  have c1 : SCall Try.prog 15 [.loc w 0, u64V n] (WRes w none []) fun _ R' => ∃ t', R' = WRes w (some t') (enc n) := wnum_call w none [] n (by simp) (by omega) (by simp)
  refine wp_call c1 ?_
  rintro v R' ⟨t1, rfl⟩
  refine wp_call (wstring_call w (some t1) _) ?_
  rintro v R' ⟨rfl, rfl⟩
  refine wp_eff fun b cap sp hsp => ?_
  obtain ⟨p, x, he, hx, hp⟩ := enc_parts hn
  have hel := enc_length n
  have hpl : p.length ≤ 9 := by rw [he] at hel; simp at hel; omega
  have hel2 : (S (enc n)).size = p.length + 1 := by rw [S_size, he]; simp
  rw [hel2] at hsp
  refine wp_cutR (frL [(0, u64V n), (1, .c (.int .u8 k)), (6, .lsl none b 0 (p.length + 1) cap)]) [.obj b ((p ++ [x]).map byteV ++ sp)] (.cons (.refl _) (.cons (.refl _) (.cons (Vle.eq (by show V.lsl none b 0 (S (enc n)).size cap = _; rw [hel2])) (.nil _)))) (by
    rw [S_list, he]
    exact List.sublist_append_right _ _) ?_
  have hlen : ((p ++ [x]).map byteV).length = p.length + 1 := by simp
  have ew : IntKind.i64.wrap (((p.length + 1 : Nat) : Int) - 1) = (p.length : Int) := by rw [w_i64]; omega
  have hin : 0 ≤ IntKind.i64.wrap (((p.length + 1 : Nat) : Int) - 1) ∧ IntKind.i64.wrap (((p.length + 1 : Nat) : Int) - 1) < ((p.length + 1 : Nat) : Int) := by rw [ew]; omega
  have eo : 0 + (IntKind.i64.wrap (((p.length + 1 : Nat) : Int) - 1)).toNat * width none = p.length := by rw [ew, Int.toNat_natCast]; simp [width]
  have hlast : partOf none (((p ++ [x]).map byteV) ++ sp) (0 + (IntKind.i64.wrap (((p.length + 1 : Nat) : Int) - 1)).toNat * width none) = some (byteV x) := by
    rw [eo]; simp [partOf]
  refine wp_ite (fun h => ?_) (fun _ => ?_)
  · simp at h; omega
  refine wp_ite (fun h => ?_) (fun _ => ?_)
  · have := of_decide_eq_true h; omega
  refine wp_need hin ?_
  refine wp_load 0 rfl hlast ?_
  refine wp_ite (fun h => ?_) (fun _ => ?_)
  · have := of_decide_eq_true h; omega
  refine wp_ite (fun h => ?_) (fun h => ?_)
  · refine wp_eff ⟨0, _, enc n, rfl, VleL.eq ?_, by rw [he]; simp, ?_⟩
    · rw [List.drop_zero, List.take_left' hlen, he]; rfl
    refine wp_callF [.obj b ((p ++ [x]).map byteV ++ sp)] [] [] rfl (of_call (enc n)) ?_
    rintro v R' ⟨r, rfl, rfl⟩
    have d1 : SCall Try.prog 21 [.loc r 0, u64V 18446744073709551615] (RRes r (enc n) none) fun v R' => v = u64V n ∧ R' = RRes r [] none := by
      have := rdN_call r (enc n) none 18446744073709551615 (by omega)
      have h2 := rdN_fit (b := 18446744073709551615) hn (by omega) []
      rw [List.append_nil] at h2
      rw [h2] at this
      exact this
    refine wp_callF [.obj b ((p ++ [x]).map byteV ++ sp)] (RRes r (enc n) none) [] rfl d1 ?_
    rintro v R' ⟨rfl, rfl⟩
    refine wp_ite (fun _ => ?_) (fun h => by simp at h)
    refine wp_callF [.obj b ((p ++ [x]).map byteV ++ sp)] (RRes r [] none) [] rfl (err_call r _ _) ?_
    rintro v R' ⟨rfl, rfl⟩
    refine wp_ite (fun _ => ?_) (fun h => absurd h (by decide))
    refine wp_callF [.obj b ((p ++ [x]).map byteV ++ sp)] (RRes r [] none) [] rfl (left_call r _ _) ?_
    rintro v R' ⟨rfl, rfl⟩
    exact wp_leaf (ends_ret (v := bV true) (resV_tmp resV_nil) (Vle.refl _) (List.nil_sublist _) rfl)
  · have e3 : IntKind.i64.wrap ((k : Int).tmod 3) = ((k % 3 : Nat) : Int) := by rw [Int.tmod_eq_emod_of_nonneg (by omega), w_i64]; omega
    rw [e3] at h
    have hk3 : 1 ≤ k % 3 ∧ k % 3 ≤ 2 := by
      have h2 : ¬ (((k % 3 : Nat) : Int) = 0) := by simpa using h
      omega
    obtain ⟨kk, hkk⟩ : ∃ kk, kk = k % 3 := ⟨_, rfl⟩
    rw [← hkk] at hk3 e3
    clear h
    refine wp_cut (frL [(6, .lsl none b 0 (p.length + 1) cap), (7, i64V kk)]) (.cons (.refl _) (.cons (Vle.eq (cI64 e3)) (.nil _))) ?_
    refine wp_need hin ?_
    refine wp_load 0 rfl hlast ?_
    refine wp_need hin ?_
    refine wp_store 0 (us := [byteV (x ||| 128)]) rfl (.cons (Vle.eq (cByte (or_u8 x 128))) .nil) (by rw [eo]; simp) rfl ?_
    have hsp2 : splice ((p ++ [x]).map byteV ++ sp) (0 + (IntKind.i64.wrap (((p.length + 1 : Nat) : Int) - 1)).toNat * width none) [byteV (x ||| 128)] = (p ++ [x ||| 128]).map byteV ++ sp := by
      rw [eo, splice_one (by simp)]
      simp
    rw [hsp2]
    have hall : ∀ c ∈ p ++ [x ||| 128], 128 ≤ c.toNat := by
      intro c hc
      rcases List.mem_append.1 hc with hc | hc
      · exact hp c hc
      · rw [List.mem_singleton.1 hc]; exact or_128 x
    refine wp_loop (fun m fr R => ∃ (i b c : Nat) (sp : List V), m = kk - i ∧ 1 ≤ i ∧ i ≤ kk ∧ p.length + i + sp.length = c ∧ R = [.obj b ((p ++ [x ||| 128] ++ List.replicate (i - 1) 128).map byteV ++ sp)] ∧ fr = frL [(6, .lsl none b 0 (p.length + i) c), (7, i64V kk), (9, i64V (i : Nat))])
      (kk - 1) _ _ (.cons (.refl _) (.cons (.refl _) (.cons (.refl _) (.nil _)))) (List.Sublist.refl _) ⟨1, b, cap, sp, rfl, Nat.le_refl _, hk3.1, hsp, by simp, rfl⟩ ?_
    rintro m fr R ⟨i, b, c, sp, rfl, h1, h2, h3, rfl, rfl⟩
    have hlen2 : ((p ++ [x ||| 128] ++ List.replicate (i - 1) (128 : UInt8)).map byteV).length = p.length + i := by simp; omega
    refine wp_ite (fun h => ?_) (fun h => ?_)
    · have hlt : i < kk := by have := of_decide_eq_true h; omega
      refine wp_eff ⟨[byteV 128], VleL.refl _, okE_bytes (l := [128]), .inr (.inr ⟨0, b, p.length + i, c, _, rfl, rfl, by simp [width]; omega, (show (p.length + i + 1) * 1 ≤ 140737488355328 by omega), fun b' c' sp' e1 e2 => ?_⟩)⟩
      refine wp_leaf (loop_next (kk - (i + 1)) (frL [(6, .lsl none b' 0 (p.length + (i + 1)) c'), (7, i64V kk), (9, i64V ((i + 1 : Nat) : Int))]) _ (by omega) (.cons (.refl _) (.cons (.refl _) (.cons (Vle.eq ?_) (.nil _)))) (List.Sublist.refl _) ⟨i + 1, b', c', sp', rfl, by omega, by omega, ?_, ?_, rfl⟩)
      · refine cI64 ?_
        rw [w_i64]; omega
      · simp [width] at e1; omega
      · have e4 : (List.replicate i (128 : UInt8)) = List.replicate (i - 1) 128 ++ [128] := by
          conv => lhs; rw [show i = (i - 1) + 1 by omega, List.replicate_succ']
        simp only [width, Nat.mul_one, List.set_cons_zero, Nat.add_sub_cancel]
        rw [List.take_left' hlen2, e4]
        simp
    have hik : i = kk := by have := of_decide_eq_false h; omega
    subst hik
    refine wp_leaf (loop_exit ?_)
    refine wp_cut (frL [(6, .lsl none b 0 (p.length + i) c)]) (.cons (.refl _) (.nil _)) ?_
    refine wp_eff ⟨[byteV 0], VleL.refl _, okE_bytes (l := [0]), .inr (.inr ⟨0, b, p.length + i, c, _, rfl, rfl, by simp [width]; omega, (show (p.length + i + 1) * 1 ≤ 140737488355328 by omega), fun b' c' sp' e1 e2 => ?_⟩)⟩
    have hfin : List.take ((p.length + i) * width none) (List.map byteV (p ++ [x ||| 128] ++ List.replicate (i - 1) 128) ++ sp) ++ [byteV 0] ++ sp' = (p ++ [x ||| 128] ++ List.replicate (i - 1) 128 ++ [0]).map byteV ++ sp' := by
      simp only [width, Nat.mul_one]
      rw [List.take_left' hlen2]; simp
    obtain ⟨cs, hcs⟩ : ∃ cs, cs = p ++ [x ||| 128] ++ List.replicate (i - 1) 128 := ⟨_, rfl⟩
    have hcl : cs.length = p.length + i := by rw [hcs]; simp; omega
    have hca : ∀ c ∈ cs, 128 ≤ c.toNat := by
      intro c hc
      rw [hcs] at hc
      rcases List.mem_append.1 hc with hc | hc
      · exact hall c hc
      · rw [List.eq_of_mem_replicate hc]; decide
    rw [hfin, ← hcs]
    refine wp_eff ⟨0, _, cs ++ [0], rfl, VleL.eq ?_, by simp; omega, ?_⟩
    · rw [List.drop_zero, List.take_left' (by simp; omega)]; rfl
    refine wp_callF [.obj b' ((cs ++ [0]).map byteV ++ sp')] [] [] rfl (of_call (cs ++ [0])) ?_
    rintro v R' ⟨r, rfl, rfl⟩
    have d1 : SCall Try.prog 21 [.loc r 0, u64V 18446744073709551615] (RRes r (cs ++ [0]) none) fun v R' => v = u64V 0 ∧ R' = RRes r (cs ++ [0]) (some 10) := by
      have := rdN_call r (cs ++ [0]) none 18446744073709551615 (by simp; omega)
      rw [rdN_more _ hca (by rintro rfl; simp at hcl; omega)] at this
      exact this
    refine wp_callF [.obj b' ((cs ++ [0]).map byteV ++ sp')] (RRes r (cs ++ [0]) none) [] rfl d1 ?_
    rintro v R' ⟨rfl, rfl⟩
    refine wp_ite (fun _ => ?_) (fun h => absurd h (by decide))
    refine wp_callF [.obj b' ((cs ++ [0]).map byteV ++ sp')] (RRes r (cs ++ [0]) (some 10)) [] rfl (err_call r _ _) ?_
    rintro v R' ⟨rfl, rfl⟩
    refine wp_pcall (is_call (some 10) 10) ?_
    exact wp_leaf (ends_ret (v := bV true) (resV_tmp resV_nil) (Vle.refl _) (List.nil_sublist _) rfl)
end Go.Sv
