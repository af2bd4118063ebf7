/- The law BytesBack. -/
import Derived.Test.YtgkfpgkpdkmjbaaShort
namespace Go.Sv
open Go Go.Proofs

def bN (l : List Nat) : List UInt8 := l.flatMap enc
def bI (l : List Int) : List UInt8 := l.flatMap fun i => enc (zig i)
def bT : Nat → List (List UInt8) → List UInt8
  | _, [] => []
  | k, s :: l => encT s ++ UInt8.ofNat k :: encT s ++ bT (k + 1) l

theorem getD_at {α : Type} {l : List α} {i : Nat} (d : α) (h : i < l.length) : l.getD i d = l[i] := by
  rw [List.getD_eq_getElem?_getD, List.getElem?_eq_getElem h, Option.getD_some]
theorem take_one {α : Type} {l : List α} {i : Nat} (d : α) (h : i < l.length) : l.take (i + 1) = l.take i ++ [l.getD i d] := by
  rw [List.take_add_one, List.getElem?_eq_getElem h, getD_at d h]; rfl
theorem bN_succ {l : List Nat} {i : Nat} (h : i < l.length) : bN (l.take (i + 1)) = bN (l.take i) ++ enc (l.getD i 0) := by
  rw [take_one 0 h, bN, bN, List.flatMap_append]; simp
theorem bI_succ {l : List Int} {i : Nat} (h : i < l.length) : bI (l.take (i + 1)) = bI (l.take i) ++ enc (zig (l.getD i 0)) := by
  rw [take_one 0 h, bI, bI, List.flatMap_append]; simp
theorem bT_app : ∀ (l m : List (List UInt8)) (k : Nat), bT k (l ++ m) = bT k l ++ bT (k + l.length) m
  | [], m, k => by simp [bT]
  | s :: l, m, k => by simp [bT, bT_app l m (k + 1), Nat.add_assoc, Nat.add_comm 1]
theorem bT_succ {l : List (List UInt8)} {i : Nat} (h : i < l.length) : bT 0 (l.take (i + 1)) = bT 0 (l.take i) ++ (encT (l.getD i []) ++ UInt8.ofNat i :: encT (l.getD i [])) := by
  rw [List.take_add_one, bT_app]
  simp [List.getElem?_eq_getElem h, bT, Nat.min_eq_left (Nat.le_of_lt h)]
theorem bN_length : ∀ l : List Nat, (bN l).length ≤ 10 * l.length
  | [] => by simp [bN]
  | n :: l => by have := bN_length l; have := enc_length n; simp [bN] at *; omega
theorem bI_length : ∀ l : List Int, (bI l).length ≤ 10 * l.length
  | [] => by simp [bI]
  | n :: l => by have := bI_length l; have := enc_length (zig n); simp [bI] at *; omega
theorem bN_drop {l : List Nat} {i : Nat} (h : i < l.length) : bN (l.drop i) = enc (l.getD i 0) ++ bN (l.drop (i + 1)) := by
  rw [getD_at 0 h, bN, List.drop_eq_getElem_cons h, List.flatMap_cons]; rfl
theorem bI_drop {l : List Int} {i : Nat} (h : i < l.length) : bI (l.drop i) = enc (zig (l.getD i 0)) ++ bI (l.drop (i + 1)) := by
  rw [getD_at 0 h, bI, List.drop_eq_getElem_cons h, List.flatMap_cons]; rfl
theorem bT_drop {l : List (List UInt8)} {i : Nat} (h : i < l.length) : bT i (l.drop i) = encT (l.getD i []) ++ (UInt8.ofNat i :: encT (l.getD i []) ++ bT (i + 1) (l.drop (i + 1))) := by
  rw [List.drop_eq_getElem_cons h]; simp [bT, List.getElem?_eq_getElem h]
theorem bT_length : ∀ (l : List (List UInt8)) (k : Nat), (∀ s ∈ l, s.length ≤ 300) → (bT k l).length ≤ 621 * l.length
  | [], _, _ => by simp [bT]
  | s :: l, k, h => by
    have := bT_length l (k + 1) (fun t ht => h t (by simp [ht]))
    have h1 := h s (by simp)
    have h2 := enc_length s.length
    simp [bT, encT] at *; omega

theorem cByte {x : Int} {b : UInt8} (h : x = b.toNat) : V.c (.int .u8 x) = byteV b := by subst h; rfl
theorem get_map {α : Type} (f : α → V) {l : List α} {i : Nat} (d : α) (h : i < l.length) : (l.map f)[i]? = some (f (l.getD i d)) := by
  simp [List.getElem?_eq_getElem h]
theorem mem_getD {α : Type} {l : List α} {i : Nat} (d : α) (h : i < l.length) : l.getD i d ∈ l := by
  simp [List.getElem?_eq_getElem h]
theorem rdP_fit {s : List UInt8} (tag : UInt8) (hs : s.length ≤ 1000000) (l : List UInt8) : rdP tag (tag :: encT s ++ l) none = (s, l, none) := by
  simp only [rdP, step, decP_encT tag hs]
theorem rdI_fit {i : Int} (h1 : -9223372036854775808 ≤ i) (h2 : i < 9223372036854775808) (l : List UInt8) : rdI (enc (zig i) ++ l) none = (i, l, none) := by
  have hz := zig_lt h1 h2
  have := rdN_fit (a := zig i) (b := 18446744073709551615) hz (by omega) l
  simp only [rdI, this, zag_zig]
end Go.Sv
