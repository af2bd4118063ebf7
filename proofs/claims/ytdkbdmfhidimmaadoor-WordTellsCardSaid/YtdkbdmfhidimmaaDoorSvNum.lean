/- Numbers: what the machine's operations are. -/
import Derived.Test.YtdkbdmfhidimmaaDoorSvUse
namespace Go.Sv
open Go

theorem w_u8 (n : Int) : IntKind.u8.wrap n = n % 256 := by simp [IntKind.wrap, IntKind.bits, IntKind.signed]
theorem w_u16 (n : Int) : IntKind.u16.wrap n = n % 65536 := by simp [IntKind.wrap, IntKind.bits, IntKind.signed]
theorem w_u32 (n : Int) : IntKind.u32.wrap n = n % 4294967296 := by simp [IntKind.wrap, IntKind.bits, IntKind.signed]
theorem w_u64 (n : Int) : IntKind.u64.wrap n = n % 18446744073709551616 := by simp [IntKind.wrap, IntKind.bits, IntKind.signed]
theorem w_i64 (n : Int) : IntKind.i64.wrap n = (n + 9223372036854775808) % 18446744073709551616 - 9223372036854775808 := by
  simp [IntKind.wrap, IntKind.bits, IntKind.signed]; omega
theorem w_i64_small {n : Int} (h : -9223372036854775808 ≤ n) (h' : n < 9223372036854775808) : IntKind.i64.wrap n = n := by rw [w_i64]; omega
theorem w_u64_small {n : Int} (h : 0 ≤ n) (h' : n < 18446744073709551616) : IntKind.u64.wrap n = n := by rw [w_u64]; omega

theorem ofInt32 (c : BitVec 32) : BitVec.ofInt IntKind.u32.bits (c.toNat : Int) = c := by
  apply BitVec.eq_of_toNat_eq
  have := c.isLt
  show (BitVec.ofInt 32 (c.toNat : Int)).toNat = c.toNat
  simp
theorem w_u32_toNat (c : BitVec 32) : IntKind.u32.wrap (c.toNat : Int) = c.toNat := by
  have := c.isLt
  rw [w_u32]; omega
theorem ofInt64 (c : BitVec 64) : BitVec.ofInt IntKind.u64.bits (c.toNat : Int) = c := by
  apply BitVec.eq_of_toNat_eq
  have := c.isLt
  show (BitVec.ofInt 64 (c.toNat : Int)).toNat = c.toNat
  simp
theorem w_u64_toNat (c : BitVec 64) : IntKind.u64.wrap (c.toNat : Int) = c.toNat := by
  have := c.isLt
  rw [w_u64]; omega
theorem u8_lt (b : UInt8) : b.toNat < 256 := b.toNat_lt
end Go.Sv
namespace Go.Sv
open Go
def u64V (n : Nat) : V := .c (.int .u64 n)
def i64V (n : Int) : V := .c (.int .i64 n)
def u8V (n : Nat) : V := .c (.int .u8 n)
def bV (b : Bool) : V := .c (.bool b)

theorem or_u64 {a b : Nat} (ha : a < 18446744073709551616) (hb : b < 18446744073709551616) : IntKind.u64.wrap ((BitVec.ofInt IntKind.u64.bits (a : Int) ||| BitVec.ofInt IntKind.u64.bits (b : Int)).toNat : Int) = ((a ||| b : Nat) : Int) := by
  have e1 : BitVec.ofInt IntKind.u64.bits (a : Int) = BitVec.ofNat 64 a := by
    show BitVec.ofInt 64 (a : Int) = _; simp
  have e2 : BitVec.ofInt IntKind.u64.bits (b : Int) = BitVec.ofNat 64 b := by
    show BitVec.ofInt 64 (b : Int) = _; simp
  rw [e1, e2]
  refine (w_u64_toNat (BitVec.ofNat 64 a ||| BitVec.ofNat 64 b)).trans ?_
  rw [BitVec.toNat_or]
  simp only [BitVec.toNat_ofNat]
  rw [Nat.mod_eq_of_lt (by omega), Nat.mod_eq_of_lt (by omega)]
theorem and_u64 {a b : Nat} (ha : a < 18446744073709551616) (hb : b < 18446744073709551616) : IntKind.u64.wrap ((BitVec.ofInt IntKind.u64.bits (a : Int) &&& BitVec.ofInt IntKind.u64.bits (b : Int)).toNat : Int) = ((a &&& b : Nat) : Int) := by
  have e1 : BitVec.ofInt IntKind.u64.bits (a : Int) = BitVec.ofNat 64 a := by
    show BitVec.ofInt 64 (a : Int) = _; simp
  have e2 : BitVec.ofInt IntKind.u64.bits (b : Int) = BitVec.ofNat 64 b := by
    show BitVec.ofInt 64 (b : Int) = _; simp
  rw [e1, e2]
  refine (w_u64_toNat (BitVec.ofNat 64 a &&& BitVec.ofNat 64 b)).trans ?_
  rw [BitVec.toNat_and]
  simp only [BitVec.toNat_ofNat]
  rw [Nat.mod_eq_of_lt (by omega), Nat.mod_eq_of_lt (by omega)]
end Go.Sv
namespace Go.Sv
open Go
theorem cU64 {x : Int} {n : Nat} (h : x = n) : V.c (.int .u64 x) = u64V n := by subst h; rfl
theorem cI64 {x n : Int} (h : x = n) : V.c (.int .i64 x) = V.c (.int .i64 n) := by subst h; rfl
theorem cU8 {x : Int} {n : Nat} (h : x = n) : V.c (.int .u8 x) = u8V n := by subst h; rfl
theorem cStr {s : ByteArray} {l : List UInt8} (h : s = S l) : V.c (.string s) = str l := by subst h; rfl
theorem cBool {a b : Bool} (h : a = b) : V.c (.bool a) = V.c (.bool b) := by subst h; rfl
end Go.Sv
namespace Go.Sv
open Go
theorem S_toList (l : List UInt8) : (S l).toList = l := ByteArray.toList_mk l
theorem emp_toList : (⟨#[]⟩ : ByteArray).toList = [] := ByteArray.toList_mk []
end Go.Sv
