/- What stays of a disk whatever is saved; a save as the laws use it. -/
import Derived.Test.YtgkfpgkpdkmjbaaKnown27
namespace Go.Sv
open Go Go.Proofs

theorem dWrites_keep : ∀ (cs : List (List UInt8)) (D : Dk) (i : Nat), DOk D → DOk (dWrites D i cs).2 ∧ (dWrites D i cs).2.loose.length ≤ D.loose.length + cs.length
  | [], D, _, h => ⟨h, Nat.le_refl _⟩
  | c :: cs, D, i, h => by
    rw [dWrites]
    cases hw : dWrite D i c with
    | error e => exact ⟨h, by simp⟩
    | ok D' =>
      have h1 := dWrites_keep cs D' (i + 1) (dWrite_ok h hw)
      have h2 := dWrite_size hw
      exact ⟨h1.1, by simp only [List.length_cons]; omega⟩
theorem dSave4_keep {D : Dk} (h : DOk D) : DOk (dSave4 D).2 ∧ (dSave4 D).2.loose.length ≤ D.loose.length := by
  rw [dSave4]
  cases hw : dSync D with
  | error e => exact ⟨h, Nat.le_refl _⟩
  | ok D' => exact ⟨dSync_ok h hw, by rw [(dSync_size hw).1]; exact Nat.zero_le _⟩
theorem dSave3_keep {D : Dk} {hd : Hd} {n : Nat} (h : DOk D) : DOk (dSave3 hd n D).2 ∧ (dSave3 hd n D).2.loose.length ≤ D.loose.length + 1 := by
  rw [dSave3]
  cases hw : dWrite D (((hd.1 + 1) % 2 : Nat) : Int) (hdB (hd.1 + 1) (slotOf hd) n) with
  | error e => exact ⟨h, by simp⟩
  | ok D' =>
    have h1 := dSave4_keep (dWrite_ok h hw)
    have h2 := dWrite_size hw
    exact ⟨h1.1, by simp only; omega⟩
theorem dSave2_keep {D : Dk} {hd : Hd} {n : Nat} (h : DOk D) : DOk (dSave2 hd n D).2 ∧ (dSave2 hd n D).2.loose.length ≤ D.loose.length + 1 := by
  rw [dSave2]
  cases hw : dSync D with
  | error e => exact ⟨h, by simp⟩
  | ok D' =>
    have h1 := dSave3_keep (hd := hd) (n := n) (dSync_ok h hw)
    have h2 := (dSync_size hw).1
    rw [h2] at h1
    exact ⟨h1.1, by have := h1.2; simp only [List.length_nil] at this; simp only; omega⟩
theorem dSave_keep {D : Dk} (h : DOk D) (s : List UInt8) : DOk (dSave D s).2 ∧ (dSave D s).2.loose.length ≤ D.loose.length + s.length + 2 := by
  rw [dSave]
  split
  · exact ⟨h, by simp only; omega⟩
  · have h1 := dWrites_keep (chunk s) D (2 + slotOf (cntF D 2) * 198) h
    have h2 := chunk_length s
    rw [dSave1.eq_def]
    split
    · rename_i e D' he
      rw [he] at h1
      exact ⟨h1.1, by have := h1.2; simp only at this ⊢; omega⟩
    · rename_i D' he
      rw [he] at h1
      have h3 := dSave2_keep (hd := cntF D 2) (n := s.length) h1.1
      exact ⟨h3.1, by have := h3.2; have := h1.2; simp only at *; omega⟩

/-- A disk with n saves behind it, with power. -/
structure Calm (D : Dk) (n : Nat) : Prop where
  ok : DOk D
  loose : D.loose = []
  gone : D.gone = false
  left : D.left = 0
  turn : (cntF D 2).1 = n
theorem calm_new : Calm dNew 0 := ⟨dNew_ok, rfl, rfl, rfl, by rw [dNew_cnt]⟩

theorem calm_save (d : Nat) (t : Option Nat) {D : Dk} {n : Nat} (h : Calm D n) (hn : n < 1099511627776) {s : List UInt8} (hs : s.length ≤ 12672) :
    SCall Try.prog 31 [.loc d 0, str s] (DRes d t D) fun v R' => v = .c .nilIface ∧ ∃ t' D', R' = DRes d t' D' ∧ Calm D' (n + 1) ∧ (cntF D' 2).2.1 = slotOf (cntF D 2) ∧ dLoad D' = .ok s := by
  obtain ⟨D', e1, e2, e3, e4, e5, e6, e7⟩ := save_ok h.ok h.loose h.gone h.left hs (by rw [h.turn]; exact hn)
  refine (save_call d t D s (fun _ => h.loose) (by rw [h.loose]; decide) (by rw [h.left]; decide) h.ok (by omega)).mono fun v R' hv => ?_
  rw [e1] at hv
  obtain ⟨h1, t', h2, _⟩ := hv
  exact ⟨h1, t', D', h2, ⟨e2, e3, e4, e5, by rw [e6, h.turn]⟩, by rw [e6], e7⟩
theorem calm_load (d : Nat) (t : Option Nat) {D : Dk} (h1 : DOk D) (h2 : D.loose = []) {s : List UInt8} (h : dLoad D = .ok s) :
    SCall Try.prog 34 [.loc d 0] (DRes d t D) fun v R' => v = .tup [str s, .c .nilIface] ∧ R' = DRes d t D :=
  (load_call d t D (fun _ => h2) (by rw [h2]; decide) h1).mono fun v R' hv => by rw [h] at hv; exact ⟨hv.2, hv.1⟩
end Go.Sv
