/- What saves and crashes do to a disk, in plain functions. -/
import Derived.Test.YtgkfpgkpdkmjbaaDiskFns2
namespace Go.Sv

theorem isHd_hdB {t s l b : Nat} (h1 : 1 ≤ t) (ht : t ≤ 1099511627776) (hs : s ≤ 1) (hl : l ≤ 12672) (hb : t % 2 = b) : isHd (pad (hdB t s l)) b = ((t, s, l), true) := by
  have e : (pad (hdB t s l)).drop 1 = enc t ++ (enc s ++ (enc l ++ List.replicate (64 - (hdB t s l).length) 0)) := by simp [pad, hdB]
  generalize List.replicate (64 - (hdB t s l).length) (0 : UInt8) = z at e
  have eA : rdA (pad (hdB t s l)) = (t, enc s ++ (enc l ++ z), none) := by
    unfold rdA rdN step; rw [e]; simp only; rw [decN_enc (by omega) ht]
  have eB : rdB (pad (hdB t s l)) = (s, enc l ++ z, none) := by
    unfold rdB rdN step; rw [eA]; simp only; rw [decN_enc (by omega) hs]
  have eC : rdC (pad (hdB t s l)) = (l, z, none) := by
    unfold rdC rdN step; rw [eB]; simp only; rw [decN_enc (by omega) hl]
  have e0 : (pad (hdB t s l)).headD 0 = 7 := by simp [pad, hdB]
  unfold isHd
  rw [eA, eB, eC, e0, if_neg (by
    rintro (h | h | h | h)
    · exact h rfl
    · exact h rfl
    · simp only at h; omega
    · simp only at h; omega)]
  simp

theorem dRead_now (D : Dk) {i : Nat} (h : i < 400) : dRead D (i : Int) = (dNow D).getD i [] := by
  unfold dRead
  rw [if_neg (by omega), Int.toNat_natCast]

theorem rdK_congr {D E : Dk} {base : Nat} : ∀ {n : Nat}, base + n ≤ 400 → (∀ j, base ≤ j → j < base + n → (dNow D).getD j [] = (dNow E).getD j []) → rdK D base n = rdK E base n
  | 0, _, _ => rfl
  | n + 1, hb, h => by
    rw [rdK, rdK, rdK_congr (by omega) fun j h1 h2 => h j h1 (by omega), dRead_now D (by omega), dRead_now E (by omega), h (base + n) (by omega) (by omega)]

theorem cntF_congr {D E : Dk} (h0 : (dNow D).getD 0 [] = (dNow E).getD 0 []) (h1 : (dNow D).getD 1 [] = (dNow E).getD 1 []) : cntF D 2 = cntF E 2 := by
  have e0 : dRead D ((0 : Nat) : Int) = dRead E ((0 : Nat) : Int) := by rw [dRead_now D (by omega), dRead_now E (by omega), h0]
  have e1 : dRead D ((1 : Nat) : Int) = dRead E ((1 : Nat) : Int) := by rw [dRead_now D (by omega), dRead_now E (by omega), h1]
  have a1 : cntF D 1 = cntF E 1 := by rw [cntF, e0, show cntF D 0 = cntF E 0 from rfl]; rfl
  rw [cntF, e1, a1]; rfl

theorem laidW_other {j : Nat} : ∀ {ws : List (Nat × List UInt8)} {l : List (List UInt8)}, (∀ w ∈ ws, w.1 ≠ j) → (laidW l ws).getD j [] = l.getD j []
  | [], _, _ => rfl
  | w :: ws, l, h => by
    have h1 := h w (by simp)
    show (laidW (l.set w.1 w.2) ws).getD j [] = _
    rw [laidW_other fun v hv => h v (by simp [hv])]
    simp only [List.getD_eq_getElem?_getD]
    rw [List.getElem?_set_ne h1]

/-- Writes of a free slot change nothing that is seen. -/
theorem old_view {D E : Dk} {ws : List (Nat × List UInt8)} (h : dNow E = laidW (dNow D) ws) (hw : ∀ w ∈ ws, 2 + slotOf (cntF D 2) * 198 ≤ w.1 ∧ w.1 < 2 + slotOf (cntF D 2) * 198 + 198) : cntF E 2 = cntF D 2 ∧ dLoad E = dLoad D := by
  have hc : cntF E 2 = cntF D 2 := cntF_congr (by rw [h]; exact laidW_other fun w hv => by have := hw w hv; omega) (by rw [h]; exact laidW_other fun w hv => by have := hw w hv; omega)
  refine ⟨hc, ?_⟩
  have hle := cntF_le D 2
  unfold dLoad
  rw [hc]
  split
  · rename_i hT
    rw [slotOf, if_pos hT] at hw
    rw [rdK_congr (D := E) (E := D) (by omega) fun j h1 h2 => by
      rw [h]
      exact laidW_other fun w hv => by have := hw w hv; omega]
  · rfl

def wr (base : Nat) : List (List UInt8) → List (Nat × List UInt8)
  | [] => []
  | c :: cs => (base, pad c) :: wr (base + 1) cs
theorem wr_mem : ∀ {cs : List (List UInt8)} {base : Nat}, ∀ w ∈ wr base cs, base ≤ w.1 ∧ w.1 < base + cs.length
  | [], _, w, h => by cases h
  | c :: cs, base, w, h => by
    rcases List.mem_cons.1 h with rfl | h
    · simp
    · have := wr_mem w h
      simp; omega
theorem wr_pad : ∀ {cs : List (List UInt8)} {base : Nat}, ∀ w ∈ wr base cs, ∃ c ∈ cs, w.2 = pad c
  | [], _, w, h => by cases h
  | c :: cs, base, w, h => by
    rcases List.mem_cons.1 h with rfl | h
    · exact ⟨c, by simp, rfl⟩
    · obtain ⟨d, h1, h2⟩ := wr_pad w h
      exact ⟨d, by simp [h1], h2⟩
theorem laidW_wr : ∀ {cs : List (List UInt8)} {base : Nat} {l : List (List UInt8)} {i : Nat} {c : List UInt8}, cs[i]? = some c → base + cs.length ≤ l.length → (laidW l (wr base cs)).getD (base + i) [] = pad c
  | [], _, _, i, c, h, _ => by simp at h
  | c' :: cs, base, l, 0, c, h, hb => by
    have h : c' = c := by simpa using h
    subst h
    show (laidW (l.set base (pad c')) (wr (base + 1) cs)).getD base [] = _
    rw [laidW_other fun w hw => by have := wr_mem w hw; omega]
    simp only [List.length_cons] at hb
    rw [List.getD_eq_getElem?_getD, List.getElem?_set_self (by omega)]; rfl
  | c' :: cs, base, l, i + 1, c, h, hb => by
    have h : cs[i]? = some c := by simpa using h
    show (laidW (l.set base (pad c')) (wr (base + 1) cs)).getD (base + (i + 1)) [] = _
    rw [show base + (i + 1) = base + 1 + i by omega]
    exact laidW_wr h (by simp at hb ⊢; omega)

theorem chunk_cons {s : List UInt8} (h : s ≠ []) : chunk s = s.take 64 :: chunk (s.drop 64) := by
  have hp : 0 < s.length := List.length_pos_iff.2 h
  have e : (s.length + 63) / 64 = ((s.drop 64).length + 63) / 64 + 1 := by rw [List.length_drop]; omega
  unfold chunk
  rw [e, List.range_succ_eq_map, List.map_cons, List.map_map]
  simp only [Nat.mul_zero, List.drop_zero]
  congr 1
  refine List.map_congr_left fun i _ => ?_
  simp only [Function.comp_apply, List.drop_drop]
  congr 2
  omega
theorem pad_full {s : List UInt8} (h : s.length = 64) : pad s = s := by simp [pad, h]
theorem chunk_flat : ∀ (n : Nat) (s : List UInt8), s.length ≤ n → (((chunk s).map pad).flatten).take s.length = s
  | 0, s, h => by
    have : s = [] := List.eq_nil_of_length_eq_zero (by omega)
    subst this; rfl
  | n + 1, s, h => by
    by_cases h0 : s = []
    · subst h0; rfl
    have hp : 0 < s.length := List.length_pos_iff.2 h0
    rw [chunk_cons h0, List.map_cons, List.flatten_cons]
    by_cases h1 : 64 < s.length
    · have h2 : (s.take 64).length = 64 := by simp; omega
      rw [pad_full h2, List.take_append, h2, List.take_of_length_le (by omega)]
      have := chunk_flat n (s.drop 64) (by simp; omega)
      rw [List.length_drop] at this
      rw [this, List.take_append_drop]
    · have h2 : s.drop 64 = [] := List.drop_eq_nil_of_le (by omega)
      rw [h2, List.take_of_length_le (show s.length ≤ 64 by omega)]
      show ((pad s ++ [])).take s.length = s
      rw [List.append_nil, pad, List.take_left]
theorem rdK_flat {D : Dk} {base : Nat} {cs : List (List UInt8)} : ∀ (n : Nat), n ≤ cs.length → base + n ≤ 400 → (∀ i c, cs[i]? = some c → (dNow D).getD (base + i) [] = pad c) → rdK D base n = ((cs.take n).map pad).flatten
  | 0, _, _, _ => rfl
  | n + 1, hn, hb, h => by
    have hg : cs[n]? = some cs[n] := List.getElem?_eq_getElem (by omega)
    rw [rdK, rdK_flat n (by omega) (by omega) h, dRead_now D (by omega), h n _ hg, List.take_add_one, hg]
    show _ = ((cs.take n ++ [cs[n]]).map pad).flatten
    rw [List.map_append, List.flatten_append]
    simp only [List.map_cons, List.map_nil, List.flatten_cons, List.flatten_nil, List.append_nil]

theorem cnt_max {D : Dk} : ∀ n j, j < n → (isHd (dRead D (j : Nat)) j).2 = true → (isHd (dRead D (j : Nat)) j).1.1 ≤ (cntF D n).1
  | 0, j, h, _ => by omega
  | n + 1, j, h, h2 => by
    rw [cntF]
    by_cases hj : j = n
    · subst hj
      split
      · exact Nat.le_refl _
      · rename_i hn
        refine Nat.le_of_not_lt fun h3 => hn ⟨h2, h3⟩
    · have := cnt_max n j (by omega) h2
      split
      · rename_i h3; omega
      · exact this

/-- The new state of a save is seen as soon as its head lies. -/
theorem new_view {D E : Dk} {s : List UInt8} (hn : (dNow D).length = 400) (hs : s.length ≤ 12672) (hT : (cntF D 2).1 < 1099511627776)
    (h : dNow E = (laidW (dNow D) (wr (2 + slotOf (cntF D 2) * 198) (chunk s))).set (((cntF D 2).1 + 1) % 2) (pad (hdB ((cntF D 2).1 + 1) (slotOf (cntF D 2)) s.length))) :
    cntF E 2 = ((cntF D 2).1 + 1, slotOf (cntF D 2), s.length) ∧ dLoad E = .ok s := by
  have hle := cntF_le D 2
  have hq : slotOf (cntF D 2) ≤ 1 := by unfold slotOf; split <;> omega
  have m0 := cnt_max (D := D) 2 0 (by omega)
  have m1 := cnt_max (D := D) 2 1 (by omega)
  generalize hc : cntF D 2 = c at *
  obtain ⟨T, sl, ln⟩ := c
  simp only at *
  generalize hqe : slotOf (T, sl, ln) = q at *
  have hcl := chunk_length s
  have hlen : (laidW (dNow D) (wr (2 + q * 198) (chunk s))).length = 400 := by rw [laidW_length, hn]
  have hoth : ∀ j, j < 2 → j ≠ (T + 1) % 2 → (dNow E).getD j [] = (dNow D).getD j [] := by
    intro j hj hne
    rw [h, List.getD_eq_getElem?_getD, List.getElem?_set_ne (Ne.symm hne), ← List.getD_eq_getElem?_getD]
    exact laidW_other fun w hw => by have := wr_mem w hw; omega
  have hnew : dRead E (((T + 1) % 2 : Nat) : Int) = pad (hdB (T + 1) q s.length) := by
    rw [dRead_now E (by omega), h, List.getD_eq_getElem?_getD, List.getElem?_set_self (by omega)]; rfl
  have hhd : isHd (dRead E (((T + 1) % 2 : Nat) : Int)) ((T + 1) % 2) = ((T + 1, q, s.length), true) := by
    rw [hnew]; exact isHd_hdB (by omega) (by omega) hq hs rfl
  have hcE : cntF E 2 = (T + 1, q, s.length) := by
    have hb : (T + 1) % 2 = 0 ∨ (T + 1) % 2 = 1 := by omega
    rcases hb with hb | hb
    · rw [hb] at hhd
      have e1 : dRead E ((1 : Nat) : Int) = dRead D ((1 : Nat) : Int) := by rw [dRead_now E (by omega), dRead_now D (by omega)]; exact hoth 1 (by omega) (by omega)
      have c1 : cntF E 1 = (T + 1, q, s.length) := by
        rw [cntF, hhd]; simp [cntF]
      rw [cntF, c1, e1, if_neg]
      rintro ⟨g1, g2⟩
      have := m1 g1
      simp only at g2
      omega
    · rw [hb] at hhd
      have e0 : dRead E ((0 : Nat) : Int) = dRead D ((0 : Nat) : Int) := by rw [dRead_now E (by omega), dRead_now D (by omega)]; exact hoth 0 (by omega) (by omega)
      have c1 : (cntF E 1).1 ≤ T := by
        rw [cntF, e0]
        split
        · rename_i g; exact m0 g.1
        · exact Nat.zero_le _
      rw [cntF, hhd, if_pos ⟨rfl, by simp only; omega⟩]
  refine ⟨hcE, ?_⟩
  unfold dLoad
  rw [hcE, if_pos (by simp)]
  simp only
  rw [rdK_flat (cs := chunk s) ((s.length + 63) / 64) (by omega) (by omega) fun i c hi => by
    have hi2 := (List.getElem?_eq_some_iff.1 hi).1
    rw [h, List.getD_eq_getElem?_getD, List.getElem?_set_ne (by omega), ← List.getD_eq_getElem?_getD]
    exact laidW_wr hi (by omega)]
  rw [← hcl, List.take_length, chunk_flat s.length s (Nat.le_refl _)]

/-- Writes one behind the other. -/
theorem dWrites_run : ∀ (cs : List (List UInt8)) (D : Dk) (base : Nat), D.gone = false → (∀ c ∈ cs, c.length ≤ 64) → base + cs.length ≤ 400 →
    (D.left = 0 ∨ cs.length < D.left → dWrites D base cs = (none, ⟨D.sure, D.loose ++ wr base cs, D.left - cs.length, false⟩)) ∧
    (0 < D.left → D.left ≤ cs.length → ∃ e D', dWrites D base cs = (e, D') ∧ D'.sure = D.sure ∧ D'.loose = D.loose ++ wr base (cs.take D.left) ∧ D'.gone = true ∧ (e = none ∨ e = some 23))
  | [], D, base, hg, _, _ => by
    obtain ⟨su, lo, le, go⟩ := D
    simp only at hg
    subst hg
    exact ⟨fun _ => by simp [dWrites, wr], fun h1 h2 => by simp at h1 h2; omega⟩
  | c :: cs, D, base, hg, hc, hb => by
    have hw : dWrite D (base : Int) c = .ok (dWritten D base c) := by
      have := hc c (by simp)
      simp only [List.length_cons] at hb
      rw [dWrite, if_neg (by simp [hg]), if_neg (by omega), if_neg (by omega)]; rfl
    simp only [List.length_cons] at hb ⊢
    have ih := dWrites_run cs (dWritten D base c) (base + 1)
    obtain ⟨su, lo, le, go⟩ := D
    simp only at hg
    subst hg
    rw [dWrites, hw]
    simp only
    constructor
    · intro h
      have hgo : (dWritten ⟨su, lo, le, false⟩ base c).gone = false := by
        simp only [dWritten]
        split
        · have : le ≠ 1 := by omega
          simpa using this
        · rfl
      rw [(ih hgo (fun x hx => hc x (by simp [hx])) (by omega)).1 (by simp only [dWritten]; omega)]
      simp only [dWritten, wr, List.append_assoc, List.singleton_append]
      congr 2
      omega
    · intro h1 h2
      by_cases hl1 : le = 1
      · subst hl1
        have hgo : (dWritten ⟨su, lo, 1, false⟩ base c).gone = true := by simp [dWritten]
        cases cs with
        | nil => exact ⟨none, _, rfl, rfl, by simp [dWritten, wr], hgo, .inl rfl⟩
        | cons c' cs =>
          refine ⟨some 23, _, by rw [dWrites, dWrite, if_pos hgo], rfl, by simp [dWritten, wr], hgo, .inr rfl⟩
      · have hgo : (dWritten ⟨su, lo, le, false⟩ base c).gone = false := by
          simp only [dWritten]
          split
          · simpa using hl1
          · rename_i h3; exact absurd h1 h3
        obtain ⟨e, D', g1, g2, g3, g4, g5⟩ := (ih hgo (fun x hx => hc x (by simp [hx])) (by omega)).2 (by simp only [dWritten]; omega) (by simp only [dWritten]; omega)
        refine ⟨e, D', g1, g2, ?_, g4, g5⟩
        rw [g3]
        obtain ⟨k, rfl⟩ : ∃ k, le = k + 1 := ⟨le - 1, by omega⟩
        simp [dWritten, wr]
end Go.Sv
