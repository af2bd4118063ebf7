/- One byte changed changes the sum. -/
import Derived.Test.YtgkfpgkpdkmjbaaSum
namespace Go.Sv
open Go

theorem crc1_inj {c d : BitVec 32} (h : crc1 c = crc1 d) : c = d := by
  have lo : ∀ x : BitVec 32, (x &&& 1 = 1) ↔ x.getLsbD 0 = true := by
    intro x
    constructor
    · intro hx
      have := congrArg (·.getLsbD 0) hx
      simpa using this
    · intro hx
      apply BitVec.eq_of_getLsbD_eq
      intro i hi
      by_cases h0 : i = 0
      · subst h0; simp [hx]
      · simp [h0]
  have top : ∀ x : BitVec 32, (x >>> 1).getLsbD 31 = false := fun x => by simp
  have all : ∀ {x y : BitVec 32}, x >>> 1 = y >>> 1 → x.getLsbD 0 = y.getLsbD 0 → x = y := by
    intro x y h1 h0
    apply BitVec.eq_of_getLsbD_eq
    intro i hi
    cases i with
    | zero => exact h0
    | succ i =>
      have := congrArg (·.getLsbD i) h1
      simp only [BitVec.getLsbD_ushiftRight] at this
      rwa [Nat.add_comm] at this
  have pt : (0xedb88320 : BitVec 32).getLsbD 31 = true := by decide
  unfold crc1 at h
  by_cases hc : c &&& 1 = 1 <;> by_cases hd : d &&& 1 = 1
  · rw [if_pos hc, if_pos hd] at h
    refine all (BitVec.xor_left_inj _ |>.1 h) ?_
    rw [(lo c).1 hc, (lo d).1 hd]
  · rw [if_pos hc, if_neg hd] at h
    have := congrArg (·.getLsbD 31) h
    simp only [BitVec.getLsbD_xor, top, pt] at this
    simp at this
  · rw [if_neg hc, if_pos hd] at h
    have := congrArg (·.getLsbD 31) h
    simp only [BitVec.getLsbD_xor, top, pt] at this
    simp at this
  · rw [if_neg hc, if_neg hd] at h
    refine all h ?_
    have h1 : c.getLsbD 0 = false := by
      cases e : c.getLsbD 0 with
      | false => rfl
      | true => exact absurd ((lo c).2 e) hc
    have h2 : d.getLsbD 0 = false := by
      cases e : d.getLsbD 0 with
      | false => rfl
      | true => exact absurd ((lo d).2 e) hd
    rw [h1, h2]

theorem crcN_inj : ∀ (n : Nat) {c d : BitVec 32}, crcN n c = crcN n d → c = d
  | 0, _, _, h => h
  | n + 1, _, _, h => crcN_inj n (crc1_inj h)

theorem crcB_inj {c d : BitVec 32} {b : UInt8} (h : crcB c b = crcB d b) : c = d := BitVec.xor_left_inj _ |>.1 (crcN_inj 8 h)
theorem crcB_byte {c : BitVec 32} {a b : UInt8} (h : crcB c a = crcB c b) : a = b := by
  have h1 := BitVec.xor_right_inj _ |>.1 (crcN_inj 8 h)
  have h2 := congrArg BitVec.toNat h1
  have ha := UInt8.toNat_lt a
  have hb := UInt8.toNat_lt b
  simp only [BitVec.toNat_ofNat] at h2
  exact UInt8.toNat_inj.1 (by omega)

theorem crcF_inj : ∀ (l : List UInt8) {c d : BitVec 32}, l.foldl crcB c = l.foldl crcB d → c = d
  | [], _, _, h => h
  | _ :: l, _, _, h => crcB_inj (crcF_inj l h)

theorem crcF_set : ∀ (l : List UInt8) (i : Nat) (b : UInt8) (c : BitVec 32), i < l.length → (l.set i b).foldl crcB c = l.foldl crcB c → b = l.getD i 0
  | [], i, _, _, h, _ => by simp at h
  | a :: l, 0, b, c, _, h => by
    simp only [List.set_cons_zero, List.foldl_cons] at h
    simpa using crcB_byte (crcF_inj l h)
  | a :: l, i + 1, b, c, h, he => by
    simp only [List.set_cons_succ, List.foldl_cons] at he
    simpa using crcF_set l i b _ (by simpa using h) he

theorem crcL_set {l : List UInt8} {i : Nat} {x : UInt8} (h : i < l.length) : (~~~ (crcL (l.set i (l.getD i 0 ^^^ x))) = ~~~ (crcL l)) ↔ x = 0 := by
  constructor
  · intro he
    have h1 := crcF_set l i _ _ h (BitVec.not_inj.1 he)
    have h2 : l.getD i 0 ^^^ x = l.getD i 0 ^^^ 0 := by simpa using h1
    exact UInt8.xor_right_inj _ |>.1 h2
  · rintro rfl
    have : l.set i (l.getD i 0 ^^^ 0) = l := by
      apply List.ext_getElem?
      intro j
      rw [List.getElem?_set]
      split
      · rename_i e; subst e
        simp [h]
      · rfl
    rw [this]
end Go.Sv
