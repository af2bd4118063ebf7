/- Functions of Go's library that the package word calls. -/
import Derived.Test.YtdkbdmfhidimmaaDoorBase
import Derived.Test.YtdkbdmfhidimmaaDoorShelf
namespace Go.Sv
open Go Go.Proofs Go.RowKit

theorem below_bytesWorld (w : World) (e : TypeId) (s : ByteArray) : Below w.heap.size w (Lib.bytesWorld w e s) where
  os := rfl
  tape := rfl
  output := rfl
  size := by rw [Lib.bytesWorld_size]; omega
  block b hb := Lib.bytesWorld_at_old w e s b hb

theorem parseint_fn : isFn Tryd.prog 112 := ⟨_, _, Tryd.func112, rfl, by kernel_rfl⟩
theorem parse_ok (l : List UInt8) (v : Int) (hl : l.length < 2 ^ 40) (h : Lib.parseIntB 64 l = .ok v) : PCall Tryd.prog 112 [str l, i64V 10, i64V 64] (.tup [i64V v, .c .nilIface]) :=
  pcall_of_below parseint_fn fun g w xs hw hx => by
    simp only [RelL, RelV, str, i64V] at hx
    obtain ⟨_, _, rfl, rfl, _, _, rfl, rfl, _, _, rfl, rfl, rfl⟩ := hx
    refine (Tryd.strconv_ParseInt_10_at64_ok (S l) (by rw [S_size]; omega) v h w).mono ?_
    rintro e w' ⟨rfl, hw'⟩
    refine ⟨_, rfl, ?_, by simp only [RelV, RelL, i64V]; exact ⟨_, rfl, _, _, rfl, rfl, _, _, rfl, rfl, rfl⟩⟩
    rcases hw' with rfl | ⟨t, rfl⟩
    · exact Below.refl _ _
    · exact below_bytesWorld _ _ _
theorem parse_range (l : List UInt8) (hl : l.length < 2 ^ 40) (h : Lib.parseIntB 64 l = .range) : PCall Tryd.prog 112 [str l, i64V 10, i64V 64] (.tup [i64V (Lib.intSat 64 l), .ifc 182 .undef]) :=
  pcall_of_below parseint_fn fun g w xs hw hx => by
    simp only [RelL, RelV, str, i64V] at hx
    obtain ⟨_, _, rfl, rfl, _, _, rfl, rfl, _, _, rfl, rfl, rfl⟩ := hx
    obtain ⟨ev, h1, h2, _⟩ := hw.st (8, fun v => v = .nilIface ∨ ∃ te pe, v = .iface te pe) (by simp [statics])
    refine (Tryd.strconv_ParseInt_10_at64_range (S l) (by rw [S_size]; omega) h ev w h1 h2).mono ?_
    rintro e w' ⟨N, rfl, _, _, hb⟩
    exact ⟨_, rfl, hb, by simp only [RelV, RelL, i64V]; exact ⟨_, rfl, _, _, rfl, rfl, _, _, rfl, ⟨_, rfl, trivial⟩, rfl⟩⟩

theorem hasprefix_fn : isFn Tryd.prog 113 := ⟨_, _, Tryd.func113, rfl, by kernel_rfl⟩
theorem hasprefix_call (l p : List UInt8) : PCall Tryd.prog 113 [str l, str p] (bV (p.isPrefixOf l)) :=
  pcall_of_calls hasprefix_fn fun g w xs hw hx => by
    simp only [RelL, RelV, str] at hx
    obtain ⟨_, _, rfl, rfl, _, _, rfl, rfl, rfl⟩ := hx
    refine (Tryd.strings_HasPrefix (S l) (S p) w).mono ?_
    rintro e w' ⟨rfl, rfl⟩
    exact ⟨_, rfl, rfl, by simp only [RelV, bV]; rfl⟩
theorem indexbyte_fn : isFn Tryd.prog 114 := ⟨_, _, Tryd.func114, rfl, by kernel_rfl⟩
theorem indexbyte_call (l : List UInt8) (c : UInt8) : PCall Tryd.prog 114 [str l, byteV c] (i64V (Lib.indexByte l c)) :=
  pcall_of_calls indexbyte_fn fun g w xs hw hx => by
    simp only [RelL, RelV, str, byteV] at hx
    obtain ⟨_, _, rfl, rfl, _, _, rfl, rfl, rfl⟩ := hx
    refine (Tryd.strings_IndexByte (S l) c.toNat w).mono ?_
    rintro e w' ⟨rfl, rfl⟩
    refine ⟨_, rfl, rfl, ?_⟩
    simp only [RelV, i64V, S_list, Int.toNat_natCast]
    congr 2
    exact (UInt8.ofNat_toNat (x := c))
end Go.Sv
