/- The sum: CRC-32, bit by bit. -/
import Derived.Test.YtgkfpgkpdkmjbaaSvNum
import Derived.Test.YtgkfpgkpdkmjbaaProg
namespace Go.Sv
open Go.Proofs

def crc1 (c : BitVec 32) : BitVec 32 := if c &&& 1 = 1 then (c >>> 1) ^^^ 0xedb88320 else c >>> 1
def crcN : Nat → BitVec 32 → BitVec 32
  | 0, c => c
  | n + 1, c => crc1 (crcN n c)
def crcB (c : BitVec 32) (b : UInt8) : BitVec 32 := crcN 8 (c ^^^ BitVec.ofNat 32 b.toNat)
def crcL (l : List UInt8) : BitVec 32 := l.foldl crcB 0xffffffff
def u32 (c : BitVec 32) : V := .c (.int .u32 c.toNat)

theorem crc_and (c : BitVec 32) : (IntKind.u32.wrap ((BitVec.ofInt IntKind.u32.bits (c.toNat : Int) &&& BitVec.ofInt IntKind.u32.bits 1).toNat : Int) == 1) = decide (c &&& 1 = 1) := by
  rw [ofInt32]
  show (IntKind.u32.wrap ((c &&& (1 : BitVec 32)).toNat : Int) == 1) = _
  rw [w_u32_toNat, Bool.eq_iff_iff]
  simp only [beq_iff_eq, decide_eq_true_eq]
  constructor
  · intro h; apply BitVec.eq_of_toNat_eq; have : (c &&& 1).toNat = 1 := by exact_mod_cast h
    rw [this]; rfl
  · intro h; rw [h]; rfl
theorem crc_shr (c : BitVec 32) : ((c.toNat : Int).fdiv (2 ^ min (1 : Int).toNat IntKind.u32.bits)) = ((c >>> 1).toNat : Int) := by
  simp only [BitVec.toNat_ushiftRight, Nat.shiftRight_eq_div_pow]
  have : min (1 : Int).toNat IntKind.u32.bits = 1 := rfl
  rw [this, Int.fdiv_eq_ediv_of_nonneg _ (by omega)]
  omega
theorem crc_xor (c d : BitVec 32) : IntKind.u32.wrap ((BitVec.ofInt IntKind.u32.bits (c.toNat : Int) ^^^ BitVec.ofInt IntKind.u32.bits (d.toNat : Int)).toNat : Int) = ((c ^^^ d).toNat : Int) := by
  rw [ofInt32, ofInt32]
  exact w_u32_toNat (c ^^^ d)

set_option maxRecDepth 100000 in
theorem sum_call (s : List UInt8) (hs : s.length < 2 ^ 60) : PCall Try.prog 28 [str s] (u32 (~~~ (crcL s))) := by
  refine scall_of (live := []) (ords := []) Try.func28 rfl (by kernel_rfl) (by kernel_rfl) (Nat.le_of_ble_eq_true rfl) ?_
  refine wp_loop (fun n fr R => ∃ i : Nat, i ≤ s.length ∧ n = s.length - i ∧ R = [] ∧ fr = frL [(0, str s), (3, u32 (crcL (s.take i))), (6, .c (.int .i64 s.length)), (7, .c (.int .i64 i))])
    s.length _ [] (.cons (.refl _) (.cons (.refl _) (.cons (.refl _) (.cons (.refl _) (.nil _))))) (List.Sublist.refl _) ⟨0, Nat.zero_le _, rfl, rfl, rfl⟩ ?_
  rintro n fr R ⟨i, hi, rfl, rfl, rfl⟩
  refine wp_ite (fun h => ?_) (fun h => ?_)
  · simp at h
    refine wp_need ⟨by omega, by simpa using h⟩ ?_
    refine wp_loop (fun m fr R => ∃ j : Nat, j ≤ 8 ∧ m = 8 - j ∧ R = [] ∧ fr = frL [(0, str s), (3, u32 (crcN j (crcL (s.take i) ^^^ BitVec.ofNat 32 (s.getD i 0).toNat))), (6, .c (.int .i64 s.length)), (7, .c (.int .i64 i)), (16, .c (.int .i64 j))])
      8 _ [] (.cons (.refl _) (.cons (Vle.eq ?_) (.cons (.refl _) (.cons (.refl _) (.cons (.refl _) (.nil _)))))) (List.Sublist.refl _) ⟨0, Nat.zero_le _, rfl, rfl, rfl⟩ ?_
    · refine congrArg (fun z => V.c (.int .u32 z)) (a₁ := ?_) ?_
      rotate_left
      simp only [crcN]
      rw [← crc_xor]
      have h2 := u8_lt (s.getD i 0)
      have h3 : ((BitVec.ofNat 32 (s.getD i 0).toNat).toNat : Int) = IntKind.u32.wrap ((byteAt (S s) (i : Int).toNat).toNat : Int) := by
        rw [w_u32]; simp only [S_byteAt, BitVec.toNat_ofNat, Int.toNat_natCast]; omega
      rw [h3]
    · rintro m fr R ⟨j, hj, rfl, rfl, rfl⟩
      refine wp_ite (fun h2 => ?_) (fun h2 => ?_)
      · have h4 : j < 8 := by simp at h2; omega
        refine wp_ite (fun h3 => ?_) (fun h3 => ?_) <;> rw [crc_and] at h3
        · refine wp_leaf ?_
          refine loop_next (8 - (j+1)) _ [] (by omega) (.cons (.refl _) (.cons (Vle.eq ?_) (.cons (.refl _) (.cons (.refl _) (.cons (Vle.eq ?_) (.nil _)))))) (List.Sublist.refl _) ⟨j+1, by omega, rfl, rfl, rfl⟩
          · refine congrArg (fun z => V.c (.int .u32 z)) (a₁ := ?_) ?_
            rotate_left
            rw [crc_shr]
            simp only [crcN, crc1, if_pos (of_decide_eq_true h3)]
            exact crc_xor _ 0xedb88320
          · refine congrArg (fun z => V.c (.int .i64 z)) (a₁ := ?_) ?_
            rotate_left
            rw [w_i64]; omega
        · refine wp_leaf ?_
          refine loop_next (8 - (j+1)) _ [] (by omega) (.cons (.refl _) (.cons (Vle.eq ?_) (.cons (.refl _) (.cons (.refl _) (.cons (Vle.eq ?_) (.nil _)))))) (List.Sublist.refl _) ⟨j+1, by omega, rfl, rfl, rfl⟩
          · refine congrArg (fun z => V.c (.int .u32 z)) (a₁ := ?_) ?_
            rotate_left
            simp only [crcN, crc1, if_neg (of_decide_eq_false h3)]
            exact crc_shr _
          · refine congrArg (fun z => V.c (.int .i64 z)) (a₁ := ?_) ?_
            rotate_left
            rw [w_i64]; omega
      · have h4 : j = 8 := by simp at h2; omega
        subst h4
        refine wp_leaf (loop_exit ?_)
        refine wp_leaf ?_
        refine loop_next (s.length - (i+1)) _ [] (by omega) (.cons (.refl _) (.cons (Vle.eq ?_) (.cons (.refl _) (.cons (Vle.eq ?_) (.nil _))))) (List.Sublist.refl _) ⟨i+1, by omega, rfl, rfl, rfl⟩
        · refine congrArg (fun z => V.c (.int .u32 z)) (a₁ := ?_) ?_
          rotate_left
          have : crcL (s.take (i+1)) = crcB (crcL (s.take i)) (s.getD i 0) := by
            simp only [crcL, List.take_add_one]
            rw [List.foldl_append, List.getElem?_eq_getElem h]
            simp [List.getElem?_eq_getElem h]
          rw [this]; rfl
        · refine congrArg (fun z => V.c (.int .i64 z)) (a₁ := ?_) ?_
          rotate_left
          rw [w_i64]; omega
  · have h4 : i = s.length := by simp at h; omega
    subst h4
    refine wp_leaf (loop_exit ?_)
    refine wp_leaf ?_
    refine ends_ret (v := u32 (~~~ (crcL s))) (resV_tmp resV_nil) (Vle.eq ?_) (List.Sublist.refl _) rfl
    refine congrArg (fun z => V.c (.int .u32 z)) (a₁ := ?_) ?_
    rotate_left
    rw [List.take_length]
    have := crc_xor (BitVec.allOnes 32) (crcL s)
    rw [BitVec.allOnes_xor] at this
    exact this
end Go.Sv
