/- Small laws that every walk uses. -/
import Derived.Test.YtdkbdmfhidimmaaDoorSvLib
import Derived.Test.YtdkbdmfhidimmaaDoorSvEffU
import Derived.Test.YtdkbdmfhidimmaaDoorSvNum
namespace Go.Sv
open Go

theorem Vle.i64 {v : V} {y : Int} (x : Int) (h : v = .c (.int .i64 x)) (e : x = y) : Vle v (i64V y) := Vle.eq (h.trans (cI64 e))
theorem Vle.inc {v : V} (n : Nat) (h : v = .c (.int .i64 (IntKind.i64.wrap ((n : Int) + 1)))) (hn : n < 2 ^ 62) : Vle v (i64V ((n + 1 : Nat) : Int)) :=
  Vle.eq (h.trans (cI64 (by rw [w_i64]; omega)))
theorem Vle.of {v y : V} (x : V) (h : v = x) (e : x = y) : Vle v y := Vle.eq (h.trans e)
theorem VleL_eq {a b : List V} (h : a = b) : VleL a b := by subst h; exact VleL.refl _
/-- Sums that don't wrap. -/
theorem wadd {a b c : Int} (h : a + b = c) (h1 : -9223372036854775808 ≤ c) (h2 : c < 9223372036854775808) : IntKind.i64.wrap (a + b) = c := by rw [h, w_i64_small h1 h2]
theorem wsub {a b c : Int} (h : a - b = c) (h1 : -9223372036854775808 ≤ c) (h2 : c < 9223372036854775808) : IntKind.i64.wrap (a - b) = c := by rw [h, w_i64_small h1 h2]
theorem tmod_nat (a b : Nat) : ((a : Int).tmod (b : Int)) = ((a % b : Nat) : Int) := by rw [Int.tmod_eq_emod_of_nonneg (by omega)]; exact (Int.natCast_emod a b).symm

/-- Results of which the first lies in a cell: what comes back is told by values alone. -/
theorem w_ret3c {P : Program} {R : List Res} {fn : Func} {fr : Fr} {x t u : Tmp} {ty : TypeId} {cs : List V} {v0 a b c : V} {sh : Option Nat} (bl off i : Nat) (h : fn.results.toList = [.cell x ty, .tmp t, .tmp u]) (hx : fr x = .loc bl off) (hsh : shapeOf P ty = some sh)
    (hR : R[i]? = some (.obj bl cs)) (hp : partOf sh cs off = some v0) (ha : Vle v0 a) (hb : Vle (fr t) b) (hc : Vle (fr u) c) : (Tree.leaf .ret fr).wp P R (Ends P fn fun u _ => u = .tup [a, b, c]) :=
  ⟨.inr rfl, [v0, fr t, fr u], .tup [a, b, c], [], by rw [h]; exact ⟨bl, off, sh, i, cs, v0, _, hx, hsh, hR, hp, rfl, _, rfl, _, rfl, rfl⟩, UpdV.vle (Vle.tup (.cons ha (.cons hb (.cons hc .nil)))) (List.nil_sublist _), rfl⟩
theorem w_ret3cE {P : Program} {R : List Res} {fn : Func} {fr : Fr} {x t u : Tmp} {ty : TypeId} {cs : List V} {v0 a b c v : V} {sh : Option Nat} (bl off i : Nat) (h : fn.results.toList = [.cell x ty, .tmp t, .tmp u]) (hx : fr x = .loc bl off) (hsh : shapeOf P ty = some sh)
    (hR : R[i]? = some (.obj bl cs)) (hp : partOf sh cs off = some v0) (ha : Vle v0 a) (hb : Vle (fr t) b) (hc : Vle (fr u) c) (he : .tup [a, b, c] = v) : (Tree.leaf .ret fr).wp P R (Ends P fn fun u _ => u = v) := by
  subst he; exact w_ret3c bl off i h hx hsh hR hp ha hb hc
/-- Two results, both in cells. -/
theorem w_ret2cc {P : Program} {R : List Res} {fn : Func} {fr : Fr} {x y : Tmp} {tx ty : TypeId} {cs ds : List V} {v0 u0 a b : V} {sh sh' : Option Nat} (bl off i bl' off' j : Nat) (h : fn.results.toList = [.cell x tx, .cell y ty]) (hx : fr x = .loc bl off) (hy : fr y = .loc bl' off') (hsh : shapeOf P tx = some sh) (hsh' : shapeOf P ty = some sh')
    (hR : R[i]? = some (.obj bl cs)) (hR' : R[j]? = some (.obj bl' ds)) (hp : partOf sh cs off = some v0) (hp' : partOf sh' ds off' = some u0) (ha : Vle v0 a) (hb : Vle u0 b) : (Tree.leaf .ret fr).wp P R (Ends P fn fun u _ => u = .tup [a, b]) :=
  ⟨.inr rfl, [v0, u0], .tup [a, b], [], by rw [h]; exact ⟨bl, off, sh, i, cs, v0, _, hx, hsh, hR, hp, rfl, bl', off', sh', j, ds, u0, _, hy, hsh', hR', hp', rfl, rfl⟩, UpdV.vle (Vle.tup (.cons ha (.cons hb .nil))) (List.nil_sublist _), rfl⟩

/-- At a cut: of a truth value it is not told which. -/
theorem wp_cutB {P : Program} {R : List Res} {Q : Exit → Fr → List Res → Prop} {fr : Fr} {k : Fr → Tree} (s : Nat) (l : List (Nat × V)) (R1 : List Res) {b : Bool} (h : fr s = bV b) (h1 : Weak fr (frL l)) (h2 : R1.Sublist R) (h3 : ∀ b, (k (frL ((s, bV b) :: l))).wp P R1 Q) : (Tree.cut fr k).wp P R Q :=
  wp_cutR _ R1 (.cons (Vle.eq h) h1) h2 (h3 b)

theorem byte_at {s : List UInt8} {i : Nat} {c : UInt8} (h : s[i]? = some c) : byteAt (S s) i = c := by rw [S_byteAt, List.getD_eq_getElem?_getD, h]; rfl
theorem drop_at {α : Type} {s : List α} {i : Nat} {c : α} (h : s[i]? = some c) : s.drop i = c :: s.drop (i + 1) := by
  have hi := (List.getElem?_eq_some_iff.1 h).1
  rw [List.drop_eq_getElem_cons hi]
  congr 1
  exact (List.getElem?_eq_some_iff.1 h).2
theorem cByte {n m : Nat} (h : n = m) : V.c (.int .u8 (n : Int)) = V.c (.int .u8 (m : Int)) := by rw [h]
theorem strEq (l m : List UInt8) : ((S l).toList == (S m).toList) = decide (l = m) := by
  rw [S_toList, S_toList, Bool.eq_iff_iff]; simp
theorem dec_str (l m : List UInt8) : ((S l).toList == (S m).toList) = true ↔ l = m := by rw [strEq]; simp
theorem eqT {l m : List UInt8} (h : ((S l).toList == (S m).toList) = false) (e : l = m) : False := by
  rw [strEq, e] at h; simp at h
theorem flat_one {n : Nat} {v : V} : (List.replicate n [v]).flatten = List.replicate n v := by
  induction n with
  | zero => rfl
  | succ n ih => simp [List.replicate_succ]
theorem wp_ite_join {P : Program} {R : List Res} {Q : Exit → Fr → List Res → Prop} {b : Bool} {t f : Tree} {T : Prop} (h1 : T → b = true → t.wp P R Q) (h2 : T → b = false → f.wp P R Q) (rest : T) : (Tree.ite b t f).wp P R Q := ⟨h1 rest, h2 rest⟩
/-- What follows in every case, once. -/
theorem wp_joinT {A T : Prop} (h1 : T → A) (rest : T) : A := h1 rest
theorem map_byteOf (c : List UInt8) : (c.map byteV).map byteOf = c := by
  induction c with
  | nil => rfl
  | cons b c ih =>
    simp only [List.map_cons, ih]
    congr 1
    simp [byteOf, byteV]
theorem bytesStr (c : List UInt8) : V.c (.string ⟨((c.map byteV).map byteOf).toArray⟩) = str c := by rw [map_byteOf]; rfl
/-- One byte as a string. -/
theorem byteStr {v : V} {c : UInt8} (h : v = V.c (.string ⟨([byteV c].map byteOf).toArray⟩)) : Vle v (str [c]) := Vle.eq (h.trans (bytesStr [c]))
theorem addStr {v : V} (a b : List UInt8) (h : v = V.c (.string (S a ++ S b))) : Vle v (str (a ++ b)) := by rw [S_append] at h; exact Vle.eq h
theorem byteStrI {v : V} {x : Int} (c : UInt8) (hx : x = c.toNat) (h : v = V.c (.string ⟨([V.c (.int .u8 x)].map byteOf).toArray⟩)) : Vle v (str [c]) := by subst hx; exact byteStr h
theorem byteNeedI {x : Int} (c : UInt8) (hx : x = c.toNat) : ∀ v ∈ [V.c (.int .u8 x)], ∃ n : UInt8, v = V.c (.int .u8 n.toNat) := by subst hx; exact fun v hv => ⟨c, List.mem_singleton.1 hv⟩
theorem byteNeed (c : UInt8) : ∀ v ∈ [byteV c], ∃ n : UInt8, v = V.c (.int .u8 n.toNat) := fun v hv => ⟨c, List.mem_singleton.1 hv⟩
theorem c_int_eq (c k : UInt8) (m : Int) (hm : (k.toNat : Int) = m) : ((c.toNat : Int) == m) = decide (c = k) := by
  subst hm
  rw [Bool.eq_iff_iff]
  simp only [beq_iff_eq, decide_eq_true_eq, Int.natCast_inj]
  exact UInt8.toNat_inj
theorem c_int_ne (c k : UInt8) (m : Int) (hm : (k.toNat : Int) = m) : ((c.toNat : Int) != m) = !decide (c = k) := by rw [bne, c_int_eq c k m hm]
/-- What a nil row's elements look like is not told. -/
def shOf (sh : Option Nat) (t : Option Nat) : Option Nat := match t with | none => none | some _ => sh
theorem shOf_eq {sh : Option Nat} {t : Option Nat} (h : t ≠ none) : shOf sh t = sh := by cases t with | none => exact absurd rfl h | some _ => rfl
/-- Appending where other things are owned beside the token. -/
theorem wp_append_x {P : Program} {Q : Exit → Fr → List Res → Prop} {A B : List Res} {sh : Option Nat} {by_ : Nat} {t : Option Nat} {xs ys : List V} {k : V → Tree} (hx : t = none → xs = []) (hok : ∀ y ∈ ys, okE sh y) (hle : (xs.length + ys.length) * by_ ≤ 140737488355328)
    (h : ∀ t' S, [Res.tok t' sh].Sublist S → (k (.sl sh (xs ++ ys) (.t t'))).wp P (A ++ S) Q) : (Tree.append sh by_ (.sl (shOf sh t) xs (tkOf t)) ys k).wp P (A ++ (tokR sh t ++ B)) Q := by
  cases t with
  | none =>
    have := hx rfl; subst this
    refine wp_append_nil hok (by simpa using hle) fun t' => ?_
    rw [List.append_assoc]
    exact h t' _ (List.sublist_append_right _ _)
  | some t =>
    refine wp_append_tok A.length (t := t) (by simp [tokR]) hok hle fun t' => ?_
    have : (A ++ (tokR sh (some t) ++ B)).set A.length (.tok t' sh) = A ++ ([.tok t' sh] ++ B) := by simp [tokR]
    rw [this]; exact h t' _ (List.sublist_append_left _ _)
end Go.Sv
