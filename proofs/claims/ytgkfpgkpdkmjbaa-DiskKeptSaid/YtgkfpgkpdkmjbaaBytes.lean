/- The package bytes. -/
import Derived.Test.YtgkfpgkpdkmjbaaByteFns
import Derived.Test.YtgkfpgkpdkmjbaaSum
namespace Go.Sv
open Go Go.Proofs

/-- A writer that has written bs. -/
def WRes (b : Nat) (t : Option Nat) (bs : List UInt8) : List Res := [.obj b [.sl none (bs.map byteV) (tkOf t)]] ++ tokR none t
def errV : Option Nat → Value
  | none => .nilIface
  | some n => .iface 47 (.int .i64 n)
/-- A reader of what is left. -/
def RRes (b : Nat) (l : List UInt8) (e : Option Nat) : List Res := [.obj b [str l, .c (errV e)]]

theorem okE_bytes {l : List UInt8} : ∀ y ∈ l.map byteV, okE none y := by
  intro y hy
  obtain ⟨b, _, rfl⟩ := List.mem_map.1 hy
  rfl

theorem slApp {bs : List UInt8} {tk : Tk} {x : Int} {b : UInt8} (h : x = (b.toNat : Int)) : V.sl none (bs.map byteV ++ [.c (.int .u8 x)]) tk = .sl none ((bs ++ [b]).map byteV) tk := by subst h; simp [byteV]

set_option maxRecDepth 100000 in
theorem new_call : SCall Try.prog 14 [] [] fun v R' => ∃ b, v = .loc b 0 ∧ R' = WRes b none [] := by
  refine scall_of (live := [2]) (ords := []) Try.func14 rfl (by kernel_rfl) (by kernel_rfl) (Nat.le_of_ble_eq_true rfl) ?_
  refine wp_alloc fun b => ?_
  refine wp_leaf (ends_ret (v := .loc b 0) (resV_tmp resV_nil) (Vle.refl _) (List.Sublist.refl _) ⟨b, rfl, rfl⟩)

set_option maxRecDepth 100000 in
theorem wnum_call (b : Nat) (t : Option Nat) (bs : List UInt8) (n : Nat) (ht : t = none → bs = []) (hn : n < 18446744073709551616) (hb : bs.length < 2 ^ 46) :
    SCall Try.prog 15 [.loc b 0, u64V n] (WRes b t bs) fun _ R' => ∃ t', R' = WRes b (some t') (bs ++ enc n) := by
  refine scall_of (live := []) (ords := []) Try.func15 rfl (by kernel_rfl) (by kernel_rfl) (Nat.le_of_ble_eq_true rfl) ?_
  refine wp_loop (fun m fr R => ∃ (n' : Nat) (t' : Option Nat) (bs' : List UInt8), n' = m ∧ n' < 18446744073709551616 ∧ (t' = none → bs' = []) ∧ bs'.length + (enc n').length = bs.length + (enc n).length ∧ bs' ++ enc n' = bs ++ enc n ∧ R = WRes b t' bs' ∧ fr = frL [(0, .loc b 0), (1, u64V n')])
    n _ _ (.cons (.refl _) (.cons (.refl _) (.nil _))) (List.Sublist.refl _) ⟨n, t, bs, rfl, hn, ht, rfl, rfl, rfl, rfl⟩ ?_
  rintro m fr R ⟨n', t', bs', rfl, hn', ht', hlen, he, rfl, rfl⟩
  have hel := enc_length n
  refine wp_ite (fun h => ?_) (fun h => ?_)
  · have h : 128 ≤ n' := by simp at h; omega
    refine wp_load 0 rfl rfl ?_
    refine wp_append_w (by_ := 1) (A := [.obj b [.sl none (bs'.map byteV) (tkOf t')]]) (by simpa using ht') (fun _ => rfl) (fun y hy => ?_) ?_ (fun t2 => ?_)
    · rw [List.mem_singleton.1 hy]; rfl
    · simp only [List.length_map, List.length_cons, List.length_nil]; omega
    · refine wp_store 0 (us := [.sl none ((bs' ++ [UInt8.ofNat (n' % 128 + 128)]).map byteV) (.t t2)]) rfl (.cons (Vle.eq (slApp ?_)) .nil) (Nat.le_refl _) rfl ?_
      · rw [Int.tmod_eq_emod_of_nonneg (by omega)]
        simp only [w_u8, w_u64, UInt8.toNat_ofNat']
        omega
      · refine wp_leaf (loop_next (n' / 128) _ _ (by omega) (.cons (.refl _) (.cons (Vle.eq ?_) (.nil _))) (List.Sublist.refl _) ⟨n' / 128, some t2, bs' ++ [UInt8.ofNat (n' % 128 + 128)], rfl, by omega, by simp, ?_, ?_, rfl, rfl⟩)
        · have : ∀ v, v = u64V (n' / 128) → v = u64V (n' / 128) := fun v h => h
          refine this (V.c (Value.int IntKind.u64 (IntKind.u64.wrap (Int.tdiv (n' : Int) 128)))) ?_
          refine cU64 ?_
          rw [Int.tdiv_eq_ediv_of_nonneg (by omega)]
          simp only [w_u64]
          omega
        · rw [← hlen, enc_big h hn']; simp; omega
        · rw [← he, enc_big h hn']; simp
  · have h : n' < 128 := by simp at h; omega
    refine wp_leaf (loop_exit ?_)
    refine wp_load 0 rfl rfl ?_
    refine wp_append_w (by_ := 1) (A := [.obj b [.sl none (bs'.map byteV) (tkOf t')]]) (by simpa using ht') (fun _ => rfl) (fun y hy => ?_) ?_ (fun t2 => ?_)
    · rw [List.mem_singleton.1 hy]; rfl
    · simp only [List.length_map, List.length_cons, List.length_nil]; omega
    · refine wp_store 0 (us := [.sl none ((bs' ++ [UInt8.ofNat n']).map byteV) (.t t2)]) rfl (.cons (Vle.eq (slApp ?_)) .nil) (Nat.le_refl _) rfl ?_
      · simp only [w_u8, UInt8.toNat_ofNat']
        omega
      · refine wp_leaf (ends_norm (v := .tup []) resV_nil (Vle.refl _) (List.Sublist.refl _) ⟨t2, ?_⟩)
        rw [← he, enc_small h]; rfl
theorem slApp2 {bs cs : List UInt8} {tk : Tk} : V.sl none (bs.map byteV ++ cs.map byteV) tk = .sl none ((bs ++ cs).map byteV) tk := by simp
theorem byteV_map (l : List UInt8) : (S l).data.toList.map (fun b : UInt8 => V.c (.int .u8 b.toNat)) = l.map byteV := rfl

set_option maxRecDepth 100000 in
theorem wint_call (b : Nat) (t : Option Nat) (bs : List UInt8) (i : Int) (ht : t = none → bs = []) (h1 : -9223372036854775808 ≤ i) (h2 : i < 9223372036854775808) (hb : bs.length < 2 ^ 46) :
    SCall Try.prog 16 [.loc b 0, i64V i] (WRes b t bs) fun _ R' => ∃ t', R' = WRes b (some t') (bs ++ enc (zig i)) := by
  refine scall_of (live := []) (ords := []) Try.func16 rfl (by kernel_rfl) (by kernel_rfl) (Nat.le_of_ble_eq_true rfl) ?_
  have hz := zig_lt h1 h2
  refine wp_ite (fun h => ?_) (fun h => ?_)
  · have h : i < 0 := by simpa using h
    refine wp_call ((wnum_call b t bs (zig i) ht hz hb).vle (.cons (.refl _) (.cons (Vle.eq (cU64 ?_)) .nil))) ?_
    · have e1 : IntKind.u64.wrap (IntKind.u64.wrap (IntKind.i64.wrap (-1 - i)) * 2 ^ min (Int.toNat 1) IntKind.u64.bits) = ((2 ^ 1 * (-1 - i).toNat : Nat) : Int) := by
        have : min (Int.toNat 1) IntKind.u64.bits = 1 := rfl
        rw [this, w_i64_small (by omega) (by omega)]
        simp only [w_u64]; omega
      have e2 := or_u64 (a := 2 ^ 1 * (-1 - i).toNat) (b := 1) (by omega) (by omega)
      rw [← Nat.two_pow_add_eq_or_of_lt (i := 1) (by omega)] at e2
      have e3 : ((zig i : Nat) : Int) = ((2 ^ 1 * (-1 - i).toNat + 1 : Nat) : Int) := by
        unfold zig; rw [if_pos h]
      rw [e1, e3]
      exact e2
    · rintro v R' ⟨t', rfl⟩
      exact wp_leaf (ends_ret (v := .tup []) resV_nil (Vle.refl _) (List.Sublist.refl _) ⟨t', rfl⟩)
  · have h : 0 ≤ i := by simpa using h
    refine wp_call ((wnum_call b t bs (zig i) ht hz hb).vle (.cons (.refl _) (.cons (Vle.eq (cU64 ?_)) .nil))) ?_
    · have : min (Int.toNat 1) IntKind.u64.bits = 1 := rfl
      rw [this]
      simp only [w_u64, zig, if_neg (Int.not_lt.2 h)]
      omega
    · rintro v R' ⟨t', rfl⟩
      exact wp_leaf (ends_norm (v := .tup []) resV_nil (Vle.refl _) (List.Sublist.refl _) ⟨t', rfl⟩)

set_option maxRecDepth 100000 in
theorem wtext_call (b : Nat) (t : Option Nat) (bs s : List UInt8) (ht : t = none → bs = []) (hs : s.length < 2 ^ 44) (hb : bs.length < 2 ^ 45) :
    SCall Try.prog 17 [.loc b 0, str s] (WRes b t bs) fun _ R' => ∃ t', R' = WRes b (some t') (bs ++ encT s) := by
  refine scall_of (live := []) (ords := []) Try.func17 rfl (by kernel_rfl) (by kernel_rfl) (Nat.le_of_ble_eq_true rfl) ?_
  refine wp_call ((wnum_call b t bs s.length ht (by omega) (by omega)).vle (.cons (.refl _) (.cons (Vle.eq (cU64 ?_)) .nil))) ?_
  · simp only [w_u64, S_size]; omega
  · rintro v R' ⟨t', rfl⟩
    have hel := enc_length s.length
    refine wp_load 0 rfl rfl ?_
    refine wp_append_w (by_ := 1) (t := some t') (A := [.obj b [.sl none ((bs ++ enc s.length).map byteV) (tkOf (some t'))]]) (by simp) (fun _ => rfl) (fun y hy => ?_) ?_ (fun t2 => ?_)
    · exact okE_bytes y hy
    · simp only [List.length_map, List.length_append, S_list]; omega
    · refine wp_store 0 (us := [.sl none ((bs ++ encT s).map byteV) (.t t2)]) rfl (.cons (Vle.eq ?_) .nil) (Nat.le_refl _) rfl ?_
      · have : V.sl none ((bs ++ enc s.length).map byteV ++ s.map byteV) (.t t2) = .sl none ((bs ++ encT s).map byteV) (.t t2) := by simp [encT]
        exact this
      · exact wp_leaf (ends_norm (v := .tup []) resV_nil (Vle.refl _) (List.Sublist.refl _) ⟨t2, rfl⟩)

set_option maxRecDepth 100000 in
theorem wpart_call (b : Nat) (t : Option Nat) (bs s : List UInt8) (tag : UInt8) (ht : t = none → bs = []) (hs : s.length < 2 ^ 44) (hb : bs.length < 2 ^ 44) :
    SCall Try.prog 18 [.loc b 0, byteV tag, str s] (WRes b t bs) fun _ R' => ∃ t', R' = WRes b (some t') (bs ++ tag :: encT s) := by
  refine scall_of (live := []) (ords := []) Try.func18 rfl (by kernel_rfl) (by kernel_rfl) (Nat.le_of_ble_eq_true rfl) ?_
  refine wp_load 0 rfl rfl ?_
  refine wp_append_w (by_ := 1) (A := [.obj b [.sl none (bs.map byteV) (tkOf t)]]) (by simpa using ht) (fun _ => rfl) (fun y hy => ?_) ?_ (fun t2 => ?_)
  · rw [List.mem_singleton.1 hy]; rfl
  · simp only [List.length_map, List.length_cons, List.length_nil]; omega
  · refine wp_store 0 (us := [.sl none ((bs ++ [tag]).map byteV) (.t t2)]) rfl (.cons (Vle.eq (slApp rfl)) .nil) (Nat.le_refl _) rfl ?_
    refine wp_call (wtext_call b (some t2) (bs ++ [tag]) s (by simp) hs (by simp; omega)) ?_
    rintro v R' ⟨t', rfl⟩
    exact wp_leaf (ends_norm (v := .tup []) resV_nil (Vle.refl _) (List.Sublist.refl _) ⟨t', by simp⟩)

set_option maxRecDepth 100000 in
theorem wstring_call (b : Nat) (t : Option Nat) (bs : List UInt8) :
    SCall Try.prog 20 [.loc b 0] (WRes b t bs) fun v R' => v = str bs ∧ R' = WRes b t bs := by
  refine scall_of (live := []) (ords := []) Try.func20 rfl (by kernel_rfl) (by kernel_rfl) (Nat.le_of_ble_eq_true rfl) ?_
  refine wp_load 0 rfl rfl ?_
  refine wp_need (fun v hv => ?_) ?_
  · obtain ⟨b, _, rfl⟩ := List.mem_map.1 hv
    exact ⟨b, rfl⟩
  · refine wp_leaf (ends_ret (v := str bs) (resV_tmp resV_nil) (Vle.eq (cStr ?_)) (List.Sublist.refl _) ⟨rfl, rfl⟩)
    have : (bs.map byteV).map byteOf = bs := by
      rw [List.map_map]
      refine (List.map_congr_left fun b _ => ?_).trans (List.map_id _)
      show UInt8.ofNat b.toNat = b
      simp
    show (⟨((bs.map byteV).map byteOf).toArray⟩ : ByteArray) = S bs
    rw [this]; rfl

set_option maxRecDepth 100000 in
theorem of_call (l : List UInt8) : SCall Try.prog 19 [str l] [] fun v R' => ∃ b, v = .loc b 0 ∧ R' = RRes b l none := by
  refine scall_of (live := [5]) (ords := []) Try.func19 rfl (by kernel_rfl) (by kernel_rfl) (Nat.le_of_ble_eq_true rfl) ?_
  refine wp_alloc fun b => ?_
  exact wp_leaf (ends_ret (v := .loc b 0) (resV_tmp resV_nil) (Vle.refl _) (List.Sublist.refl _) ⟨b, rfl, rfl⟩)

set_option maxRecDepth 100000 in
theorem left_call (b : Nat) (l : List UInt8) (e : Option Nat) : SCall Try.prog 25 [.loc b 0] (RRes b l e) fun v R' => v = i64V l.length ∧ R' = RRes b l e := by
  refine scall_of (live := []) (ords := []) Try.func25 rfl (by kernel_rfl) (by kernel_rfl) (Nat.le_of_ble_eq_true rfl) ?_
  refine wp_load 0 rfl rfl ?_
  exact wp_leaf (ends_ret (v := i64V l.length) (resV_tmp resV_nil) (Vle.refl _) (List.Sublist.refl _) ⟨rfl, rfl⟩)

set_option maxRecDepth 100000 in
theorem err_call (b : Nat) (l : List UInt8) (e : Option Nat) : SCall Try.prog 26 [.loc b 0] (RRes b l e) fun v R' => v = .c (errV e) ∧ R' = RRes b l e := by
  refine scall_of (live := []) (ords := []) Try.func26 rfl (by kernel_rfl) (by kernel_rfl) (Nat.le_of_ble_eq_true rfl) ?_
  refine wp_load 0 rfl rfl ?_
  exact wp_leaf (ends_ret (v := .c (errV e)) (resV_tmp resV_nil) (Vle.refl _) (List.Sublist.refl _) ⟨rfl, rfl⟩)
end Go.Sv
