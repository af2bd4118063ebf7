/- The law BytesSum, walked. -/
import Derived.Test.YtgkfpgkpdkmjbaaByteSum
import Derived.Test.YtgkfpgkpdkmjbaaKnown24
import Derived.Test.YtgkfpgkpdkmjbaaSvFrz
namespace Go.Sv
open Go Go.Proofs

theorem VleL.eq {a b : List V} (h : a = b) : VleL a b := by subst h; exact VleL.refl _
theorem cByte {x : Int} {b : UInt8} (h : x = b.toNat) : V.c (.int .u8 x) = byteV b := by subst h; rfl
theorem xor_u8 (a b : UInt8) : IntKind.u8.wrap ((BitVec.ofInt IntKind.u8.bits (a.toNat : Int) ^^^ BitVec.ofInt IntKind.u8.bits (b.toNat : Int)).toNat : Int) = ((a ^^^ b).toNat : Int) := by
  have h1 : ∀ c : UInt8, BitVec.ofInt IntKind.u8.bits (c.toNat : Int) = c.toBitVec := by
    intro c
    apply BitVec.eq_of_toNat_eq
    rw [BitVec.toNat_ofInt]
    have := c.toNat_lt
    show (((c.toNat : Nat) : Int) % ((2 ^ 8 : Nat) : Int)).toNat = c.toNat
    omega
  rw [h1, h1, w_u8]
  have := (a ^^^ b).toNat_lt
  show (((a ^^^ b).toNat : Nat) : Int) % 256 = _
  omega

set_option maxRecDepth 100000 in
theorem sumLaw_call (s : List UInt8) (k : Nat) (x : UInt8) (hk : k < 256) :
    PCall Try.prog 5 [str s, .c (.int .u8 k), byteV x] (bV true) := by
  refine scall_of (live := [19, 33]) (ords := []) Try.func5 rfl (by kernel_rfl) (by kernel_rfl) (Nat.le_of_ble_eq_true rfl) ?_
  refine wp_pcall known24_call ?_
  refine wp_ite (fun h => by cases h) (fun _ => ?_)
  refine wp_ite (fun _ => ?_) (fun h0 => ?_)
  · refine wp_ite (fun _ => ?_) (fun h => by cases h)
    exact wp_leaf (ends_ret (v := bV true) (resV_tmp resV_nil) (Vle.refl _) (List.nil_sublist _) rfl)
  refine wp_ite (fun _ => ?_) (fun h1 => ?_)
  · exact wp_leaf (ends_ret (v := bV true) (resV_tmp resV_nil) (Vle.refl _) (List.nil_sublist _) rfl)
  have hl0 : 0 < s.length := by
    have h2 : ¬ ((s.length : Int) = 0) := by simpa using h0
    omega
  have hl1 : s.length ≤ 300 := by have := of_decide_eq_false h1; simp only [S_size] at this; omega
  clear h0 h1
  refine wp_eff fun b cap sp hsp => ?_
  have hm : k % s.length < s.length := Nat.mod_lt _ hl0
  have em : (IntKind.i64.wrap (k : Int)).tmod ((S s).size : Int) = ((k % s.length : Nat) : Int) := by
    have e1 : IntKind.i64.wrap (k : Int) = (k : Int) := by rw [w_i64]; omega
    rw [e1, Int.tmod_eq_emod_of_nonneg (by omega)]
    rfl
  have hi : 0 ≤ (IntKind.i64.wrap (k : Int)).tmod ((S s).size : Int) ∧ (IntKind.i64.wrap (k : Int)).tmod ((S s).size : Int) < ((S s).size : Int) := by rw [em]; simp only [S_size]; omega
  have hz : ((S s).size : Int) ≠ 0 := by simp only [S_size]; omega
  refine wp_need hz ?_
  refine wp_need hz ?_
  refine wp_need hi ?_
  have eo : 0 + ((IntKind.i64.wrap (k : Int)).tmod ((S s).size : Int)).toNat * width none = k % s.length := by rw [em, Int.toNat_natCast]; simp [width]
  refine wp_load 0 rfl (v := byteV (s.getD (k % s.length) 0)) ?_ ?_
  · rw [eo]
    simp only [partOf, S_list]
    rw [List.getElem?_append_left (by simpa using hm), List.getElem?_map, List.getElem?_eq_getElem hm]
    simp [byteV, hm]
  refine wp_need hi ?_
  refine wp_store 0 (us := [byteV (s.getD (k % s.length) 0 ^^^ x)]) rfl (.cons (Vle.eq (cByte ?_)) .nil) ?_ rfl ?_
  · exact xor_u8 _ _
  · rw [eo]; simp only [S_list]; simp; omega
  refine wp_eff ⟨0, _, s.set (k % s.length) (s.getD (k % s.length) 0 ^^^ x), rfl, ?_, by simp, ?_⟩
  · rw [eo]
    refine VleL.eq ?_
    simp only [S_list, S_size]
    have hr : ∀ l : List UInt8, (l.map fun b => V.c (.int .u8 b.toNat)) = l.map byteV := fun _ => rfl
    rw [hr, hr, List.drop_zero, splice_one (by simpa using hm), List.map_set, List.take_left' (by simp)]
  refine wp_pcall (sum_call _ (by simp; omega)) ?_
  refine wp_pcall (sum_call s (by omega)) ?_
  refine wp_leaf (ends_ret (v := bV true) (resV_tmp resV_nil) (Vle.eq ?_) (List.nil_sublist _) rfl)
  refine cBool ?_
  have h5 := crcL_set (x := x) hm
  have h6 : ((((~~~crcL (s.set (k % s.length) (s.getD (k % s.length) 0 ^^^ x))).toNat : Nat) : Int) == ((~~~crcL s).toNat : Nat)) = decide (x = 0) := by
    rw [Bool.eq_iff_iff]
    simp only [beq_iff_eq, decide_eq_true_eq, ← h5]
    constructor
    · intro h; exact BitVec.eq_of_toNat_eq (by exact_mod_cast h)
    · intro h; rw [h]
  have h7 : (((x.toNat : Nat) : Int) == 0) = decide (x = 0) := by
    rw [Bool.eq_iff_iff]
    simp only [beq_iff_eq, decide_eq_true_eq]
    constructor
    · intro h; exact UInt8.toNat_inj.1 (by simpa using h)
    · rintro rfl; rfl
  rw [h6, h7]; simp
end Go.Sv
namespace Go.Sv
open Go Go.Proofs
theorem sumLaw (s : List UInt8) (k x : Nat) (hk : k < 256) (hx : x < 256) : PCall Try.prog 5 [str s, .c (.int .u8 k), .c (.int .u8 x)] (bV true) := by
  have h := sumLaw_call s k (UInt8.ofNat x) hk
  have e : (UInt8.ofNat x).toNat = x := by simp; omega
  unfold byteV at h
  rw [e] at h
  exact h
end Go.Sv
