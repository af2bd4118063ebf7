/- Parts of the proof, one behind the other. -/
import Derived.Test.YtdkbdmfhidimmaaDoorMgRowShowUnlike4
import Derived.Test.YtdkbdmfhidimmaaDoorMgRowShowUnlike5
import Derived.Test.YtdkbdmfhidimmaaDoorShelf
import Derived.Lib.Replace
import Derived.Lib.LaidTab
import Derived.Test.YtdkbdmfhidimmaaDoorProg
import Derived.Test.YtdkbdmfhidimmaaDoorRows
import Derived.ChangeArms
import Derived.Test.YtdkbdmfhidimmaaDoorChecked
/- Functions of Go's library that the package show calls. -/
namespace Go.Sv
open Go Go.Proofs Go.RowKit

theorem decDigits_natD (n : Nat) : Lib.decDigits n = natD n := by
  induction n using Nat.strongRecOn with
  | _ n ih =>
    rw [Lib.decDigits, natD]
    split
    · rfl
    · rw [ih (n / 10) (by omega)]
theorem itoa_decD (n : Int) : Lib.itoa n = decD n := by
  rw [Lib.itoa, decD, decDigits_natD, decDigits_natD]
  split
  · rfl
  · rw [show n.toNat = n.natAbs by omega]

theorem index_ne {b c : UInt8} (l : List UInt8) (h : b ≠ c) : Lib.index (b :: l) [c] = if Lib.index l [c] == -1 then -1 else Lib.index l [c] + 1 := by
  rw [Lib.index, if_neg]
  simp [List.isPrefixOf]
  exact fun e => h e.symm
theorem index_eq (c : UInt8) (l : List UInt8) : Lib.index (c :: l) [c] = ((0 : Nat) : Int) := by rw [Lib.index]; simp [List.isPrefixOf]
theorem replaceK_ne {b c : UInt8} (new : List UInt8) (h : b ≠ c) : ∀ (k : Nat) (l : List UInt8), Lib.replaceK [c] new k (b :: l) = b :: Lib.replaceK [c] new k l
  | 0, _ => rfl
  | k + 1, l => by
    have hge := Lib.index_ge l [c]
    by_cases hm : Lib.index l [c] = -1
    · have h1 : Lib.index (b :: l) [c] = -1 := by rw [index_ne l h, hm]; rfl
      rw [Lib.replaceK, Lib.replaceK, h1, hm]; rfl
    · obtain ⟨i, hi⟩ : ∃ i : Nat, Lib.index l [c] = i := ⟨(Lib.index l [c]).toNat, by omega⟩
      have h1 : Lib.index (b :: l) [c] = ((i + 1 : Nat) : Int) := by
        rw [index_ne l h, if_neg (by simpa using hm), hi]; omega
      rw [Lib.replaceK_hit _ _ _ _ _ h1, Lib.replaceK_hit _ _ _ _ _ hi]
      simp only [List.take_succ_cons, List.cons_append, List.length_singleton, List.drop_succ_cons]
theorem replaceK_all (c : UInt8) (new : List UInt8) : ∀ (s : List UInt8) (k : Nat), s.count c ≤ k → Lib.replaceK [c] new k s = s.flatMap fun b => if b = c then new else [b]
  | [], 0, _ => rfl
  | [], k + 1, _ => by rw [Lib.replaceK]; rfl
  | b :: l, k, hk => by
    by_cases h : b = c
    · subst h
      rw [List.count_cons_self] at hk
      obtain ⟨m, rfl⟩ : ∃ m, k = m + 1 := ⟨k - 1, by omega⟩
      rw [Lib.replaceK_hit _ _ _ _ _ (index_eq b l)]
      simp only [List.take_zero, List.nil_append, List.length_singleton, Nat.zero_add, List.drop_succ_cons, List.drop_zero, List.flatMap_cons, if_true]
      rw [replaceK_all b new l m (by omega)]
    · rw [List.count_cons_of_ne (by simpa using h)] at hk
      rw [replaceK_ne new h, replaceK_all c new l k hk, List.flatMap_cons, if_neg h]; rfl
theorem replaceAll_one (s new : List UInt8) (c : UInt8) (h : [c] ≠ new) : Lib.replaceAll s [c] new = s.flatMap fun b => if b = c then new else [b] := by
  rw [Lib.replaceAll, Lib.replace, if_neg (by simpa using h)]
  refine replaceK_all c new s _ ?_
  rw [Lib.replaceNum, if_pos (.inl (by omega)), Lib.count_one]
  exact Nat.le_refl _
theorem replace_esc (s : List UInt8) : (s.flatMap fun b => if b = 92 then [92, 92] else [b]).flatMap (fun b => if b = 34 then [92, 34] else [b]) = esc s := by
  rw [esc, List.flatMap_assoc]
  congr 1
  funext b
  by_cases h : b = 92
  · subst h; rfl
  · rw [if_neg h]
    by_cases h2 : b = 34
    · subst h2; rfl
    · simp [escB, h, h2]

theorem replaceall_fn : isFn Tryd.prog 38 := ⟨_, _, Tryd.func38, rfl, by kernel_rfl⟩
theorem replaceall_call (s new : List UInt8) (c : UInt8) (h : [c] ≠ new) (hs : s.length < 2 ^ 30) (hn : new.length ≤ 2) : PCall Tryd.prog 38 [str s, str [c], str new] (str (s.flatMap fun b => if b = c then new else [b])) :=
  pcall_of_below replaceall_fn fun g w xs hw hx => by
    simp only [RelL, RelV, str] at hx
    obtain ⟨_, _, rfl, rfl, _, _, rfl, rfl, _, _, rfl, rfl, rfl⟩ := hx
    obtain ⟨_, h1, ⟨m, rfl⟩, _⟩ := hw.st.1 (2, 0, fun v => ∃ m : Int, v = .int .i64 m) (by simp [statics])
    have hc := Lib.countB_le (S [c]) (by rw [S_size]; simp) (S s).size (S s) (Nat.le_refl _)
    have hmul : Lib.countB (S s) (S [c]) * (S new).size ≤ s.length * 2 := Nat.mul_le_mul (by rw [← S_size s]; exact hc) (by rw [S_size]; exact hn)
    refine (Tryd.strings_ReplaceAll (S s) (S [c]) (S new) m w (by rw [S_size]; omega) h1 (by rw [S_size]; simp) (by rw [S_size]; omega)).mono ?_
    rintro e w' ⟨rfl, hw'⟩
    refine ⟨_, rfl, hw', ?_⟩
    simp only [S_list]
    rw [replaceAll_one s new c h]; rfl

theorem gPow : Tryd.prog.globalNamed "internal/strconv.uint64pow10" = some 1 := by kernel_rfl
theorem tab_is {g : Gh} {w : World} (hw : Wf g w) : Lib.TabIs Tryd.prog w "internal/strconv.uint64pow10" .u64 Lib.pow10Tab := by
  have hz := (hw.st.2 (1, 20) (by simp [sized])).2
  have hc : ∀ i, i < 20 → cell w 1 i = some (.int .u64 ((10 ^ i : Nat) : Int)) := fun i hi => by
    obtain ⟨v, h1, h2, _⟩ := hw.st.1 (1, i, fun v => v = .int .u64 ((10 ^ i : Nat) : Int)) (List.mem_append_right _ (List.mem_map.2 ⟨i, List.mem_range.2 hi, rfl⟩))
    rw [h1, h2]
  unfold Lib.TabIs World.var?
  rw [gPow]
  simp only [Option.bind_some]
  have h0 := hc 0 (by omega)
  unfold cell World.cell? at h0 hc hz
  cases hh : w.heap[1]? with
  | none => simp [hh] at h0
  | some ob =>
    cases ob <;> simp [hh] at h0
    rename_i cs e f
    simp only [hh] at hc hz
    have hz' : cs.size ≤ 20 := by simpa using hz
    have hs : cs.size = 20 := by
      have := (Array.getElem?_eq_some_iff.1 (hc 19 (by omega))).1
      omega
    simp only [Option.some.injEq]
    apply Array.ext
    · simp [hs, Lib.pow10Tab]
    · intro i h1 h2
      have h3 := hc i (by omega)
      rw [Array.getElem?_eq_getElem h1] at h3
      rw [Option.some.inj h3]
      simp [Lib.pow10Tab]

theorem below_grow' (w : World) (k : Nat) (os : Array Obj) : Below w.heap.size w (Sort.grow (w.drewN k) os) :=
  ⟨rfl, rfl, rfl, by simp [Sort.grow], fun i hi => by
    show ((w.drewN k).heap ++ os)[i]? = _
    rw [Array.getElem?_append_left (by show i < w.heap.size; omega)]
    rfl⟩
theorem formatint_fn : isFn Tryd.prog 37 := ⟨_, _, Tryd.func37, rfl, by kernel_rfl⟩
theorem formatint_call (n : Int) (h1 : -9223372036854775808 ≤ n) (h2 : n < 9223372036854775808) : PCall Tryd.prog 37 [i64V n, i64V 10] (str (decD n)) :=
  pcall_of_below formatint_fn fun g w xs hw hx => by
    simp only [RelL, RelV, i64V] at hx
    obtain ⟨_, _, rfl, rfl, _, _, rfl, rfl, rfl⟩ := hx
    refine (Tryd.strconv_FormatInt_10 n h1 (by omega) w (tab_is hw)).mono ?_
    rintro e w' ⟨rfl, k, os, rfl⟩
    refine ⟨_, rfl, below_grow' w k os, ?_⟩
    rw [itoa_decD]; rfl
theorem itoa_fn : isFn Tryd.prog 47 := ⟨_, _, Tryd.func47, rfl, by kernel_rfl⟩
theorem itoa_call (n : Int) (h1 : -9223372036854775808 ≤ n) (h2 : n < 9223372036854775808) : PCall Tryd.prog 47 [i64V n] (str (decD n)) :=
  pcall_of_below itoa_fn fun g w xs hw hx => by
    simp only [RelL, RelV, i64V] at hx
    obtain ⟨_, _, rfl, rfl, rfl⟩ := hx
    refine (Tryd.strconv_Itoa n h1 (by omega) w (tab_is hw)).mono ?_
    rintro e w' ⟨rfl, k, os, rfl⟩
    refine ⟨_, rfl, below_grow' w k os, ?_⟩
    rw [itoa_decD]; rfl

theorem join_fn : isFn Tryd.prog 46 := ⟨_, _, Tryd.func46, rfl, by kernel_rfl⟩
theorem map_S (l : List (List UInt8)) : (l.map S).map (·.data.toList) = l := by
  rw [List.map_map]
  exact List.map_id'' (fun x => by simp [S]) l
theorem join_call (l : List (List UInt8)) (t : Tk) (sep : List UInt8) (hl : l.length ≤ 2 ^ 40) (hj : (Lib.join l sep).length ≤ 2 ^ 40) : PCall Tryd.prog 46 [.sl none (l.map str) t, str sep] (str (Lib.join l sep)) :=
  pcall_of_below join_fn fun g w xs hw hx => by
    simp only [RelL] at hx
    obtain ⟨x, _, rfl, hx, _, _, rfl, hy, rfl⟩ := hx
    simp only [RelV, str] at hx hy
    subst hy
    obtain ⟨a, n, cap, rfl, hn, hc, _, h⟩ := hx
    rw [List.length_map] at hn
    by_cases h0 : l = []
    · subst h0
      simp only [List.length_nil] at hn
      subst hn
      refine (Tryd.strings_Join_none a cap (S sep) w).mono ?_
      rintro e w' ⟨rfl, rfl⟩
      refine ⟨_, rfl, Below.refl _ _, ?_⟩
      simp only [RelV, str]; rfl
    · rcases h with h | ⟨b, o, rfl, hle, hr⟩
      · exact absurd (by simpa using h) h0
      · have hpos : 0 < g.cm b := by
          have : 0 < l.length := List.length_pos_iff.2 h0
          simp [width] at hle
          omega
        have hcells : ∀ (j : Nat) x, (l.map S)[j]? = some x → w.cell? ⟨b, o + j, none⟩ = some (.string x) := fun j x hj => by
          have h1 : (l.map str)[j]? = some (V.c (.string x)) := by
            rw [List.getElem?_map, Option.map_eq_some_iff] at hj
            obtain ⟨y, hy, rfl⟩ := hj
            rw [List.getElem?_map, hy]; rfl
          have h2 := relXs_get hr h1
          simp only [RelE, width] at h2
          obtain ⟨y, hy, hv⟩ := h2
          simp only [RelV] at hv
          subst hv
          have hy' : cell w b (o + j) = some (.string x) := by simpa using hy
          exact hy'
        subst hn
        have := Tryd.strings_Join b o cap (l.map S) (S sep) w hcells (hw.lt hpos) (by rw [List.length_map]; omega) (by rw [List.length_map]; exact hc) (by rw [map_S, S_list]; omega)
        rw [List.length_map] at this
        refine this.mono ?_
        rintro e w' ⟨rfl, hw'⟩
        refine ⟨_, rfl, hw', ?_⟩
        simp only [RelV, str]
        rw [map_S, S_list]; rfl
end Go.Sv
/- Numbers written, as the reference has it. -/
namespace Go.Sv
open Go Go.Proofs

theorem natD_le (m : Nat) : (natD m).length ≤ m + 1 := by
  induction m using Nat.strongRecOn with
  | _ m ih =>
    rw [natD]
    split
    · simp
    · have := ih (m / 10) (by omega)
      rw [List.length_append, List.length_singleton]; omega
theorem natD_20 (m : Nat) (h : m < 10 ^ 20) : (natD m).length ≤ 20 := by
  have key : ∀ (k m : Nat), m < 10 ^ (k + 1) → (natD m).length ≤ k + 1 := by
    intro k
    induction k with
    | zero => intro m hm; rw [natD, dif_pos (by simpa using hm)]; simp
    | succ k ih =>
      intro m hm
      rw [natD]
      split
      · simp
      · have h3 := ih (m / 10) (by rw [Nat.pow_succ] at hm; omega)
        rw [List.length_append, List.length_singleton]; omega
  exact key 19 m h
theorem addByte {v : V} {out : List UInt8} {c : UInt8} (h : v = V.c (.string (S out ++ ⟨([byteV c].map byteOf).toArray⟩))) : Vle v (str (out ++ [c])) := by
  rw [show ([byteV c].map byteOf) = [c] from map_byteOf [c], show (⟨[c].toArray⟩ : ByteArray) = S [c] from rfl, S_append] at h
  exact Vle.eq h
theorem addByteI {v : V} {out : List UInt8} {x : Int} (c : UInt8) (hx : x = c.toNat) (h : v = V.c (.string (S out ++ ⟨([V.c (.int .u8 x)].map byteOf).toArray⟩))) : Vle v (str (out ++ [c])) := by subst hx; exact addByte h
theorem sliceOne {s : List UInt8} {i : Nat} {c : UInt8} (h : s[i]? = some c) {x y : Int} (hx : x = i) (hy : y = (i + 1 : Nat)) : (S s).extract x.toNat y.toNat = S [c] := by
  subst hx; subst hy
  rw [S_extract, Int.toNat_natCast, Int.toNat_natCast, List.take_add_one, h]
  have hi := (List.getElem?_eq_some_iff.1 h).1
  rw [List.drop_append_of_le_length (by rw [List.length_take]; omega), List.drop_eq_nil_of_le (by rw [List.length_take]; omega)]; rfl
theorem addOne {v : V} {s out : List UInt8} {i : Nat} {c : UInt8} (h : s[i]? = some c) {x y : Int} (hx : x = i) (hy : y = (i + 1 : Nat)) (hv : v = V.c (.string (S out ++ (S s).extract x.toNat y.toNat))) : Vle v (str (out ++ [c])) := by
  rw [sliceOne h hx hy, S_append] at hv
  exact Vle.eq hv

set_option maxRecDepth 100000 in
theorem nat_call (n : Nat) (hn : n < 2 ^ 64) : PCall Tryd.prog 32 [u64V n] (str (natD n)) := by
  induction n using Nat.strongRecOn with
  | _ n ih =>
  refine scall_of (live := []) (ords := []) Tryd.func32 rfl (by kernel_rfl) (by kernel_rfl) (Nat.le_of_ble_eq_true rfl) ?_
  rw [natD]
  (conv => arg 2; whnf); refine wp_ite (fun h => ?_) (fun h => ?_)
  · have h : n < 10 := by have := of_decide_eq_true h; omega
    have e1 : IntKind.u8.wrap (IntKind.u64.wrap (48 + (n : Int))) = ((UInt8.ofNat (48 + n)).toNat : Int) := by
      rw [w_u64_small (by omega) (by omega), digB n h, w_u8]; omega
    rw [dif_pos h]
    (conv => arg 2; whnf); refine wp_need (byteNeedI _ e1) ?_
    (conv => arg 2; whnf); refine w_retp rfl (byteStrI _ e1 rfl)
  · have h : ¬ n < 10 := by have := of_decide_eq_false h; omega
    rw [dif_neg h]
    have e0 : IntKind.u64.wrap ((n : Int).tdiv 10) = ((n / 10 : Nat) : Int) := by
      rw [Int.tdiv_eq_ediv_of_nonneg (by omega), w_u64_small (by omega) (by omega)]; omega
    have e1 : IntKind.u8.wrap (IntKind.u64.wrap (48 + (n : Int).tmod 10)) = ((UInt8.ofNat (48 + n % 10)).toNat : Int) := by
      rw [show (10 : Int) = ((10 : Nat) : Int) from rfl, tmod_nat, w_u64_small (by omega) (by omega), digB (n % 10) (by omega), w_u8]; omega
    have hlen := natD_le (n / 10)
    (conv => arg 2; whnf); refine wp_pcV (.cons (Vle.of _ rfl (cU64 e0)) .nil) (ih (n / 10) (by omega) (by omega)) ?_
    (conv => arg 2; whnf); refine wp_need (byteNeedI _ e1) ?_
    (conv => arg 2; whnf); refine wp_need (by rw [S_size]; show _ + 1 ≤ _; omega) ?_
    (conv => arg 2; whnf); refine w_retp rfl (addByteI _ e1 rfl)

set_option maxRecDepth 100000 in
theorem dec_call (n : Int) (h1 : -9223372036854775808 ≤ n) (h2 : n < 9223372036854775808) : PCall Tryd.prog 13 [i64V n] (str (decD n)) := by
  refine scall_of (live := []) (ords := []) Tryd.func13 rfl (by kernel_rfl) (by kernel_rfl) (Nat.le_of_ble_eq_true rfl) ?_
  have f := nat_call n.natAbs (by omega)
  rw [decD]
  (conv => arg 2; whnf); refine wp_ite (fun h => ?_) (fun h => ?_)
  · have h : n < 0 := of_decide_eq_true h
    rw [if_pos h]
    have a1 : IntKind.i64.wrap (n + 1) = n + 1 := w_i64_small (by omega) (by omega)
    have a2 : IntKind.i64.wrap (0 - (n + 1)) = 0 - (n + 1) := w_i64_small (by omega) (by omega)
    have a3 : IntKind.u64.wrap (0 - (n + 1)) = 0 - (n + 1) := w_u64_small (by omega) (by omega)
    have e1 : IntKind.u64.wrap (IntKind.u64.wrap (IntKind.i64.wrap (0 - (IntKind.i64.wrap (n + 1)))) + 1) = (n.natAbs : Int) := by
      rw [a1, a2, a3, w_u64_small (by omega) (by omega)]; omega
    (conv => arg 2; whnf); refine wp_pcallV (.cons (Vle.of _ rfl (cU64 e1)) .nil) f ?_
    have hl := natD_20 n.natAbs (by omega)
    (conv => arg 2; whnf); refine wp_need (by rw [S_size]; show 1 + _ ≤ _; omega) ?_
    (conv => arg 2; whnf); refine w_retp rfl (addStr [45] _ rfl)
  · have h : ¬ n < 0 := of_decide_eq_false h
    rw [if_neg h]
    have e1 : IntKind.u64.wrap n = (n.natAbs : Int) := by rw [w_u64_small (by omega) (by omega)]; omega
    (conv => arg 2; whnf); refine wp_pcallV (.cons (Vle.of _ rfl (cU64 e1)) .nil) f ?_
    (conv => arg 2; whnf); refine w_retp rfl (.refl _)
end Go.Sv
/- The texts of values. -/
namespace Go.Sv
open Go Go.Proofs

theorem valIs_kind {v : Val} (h : valIs v = true) (h1 : v.kind ≠ 1) (h2 : v.kind ≠ 2) : v.kind = 3 := by
  rw [valIs, if_neg h1, if_neg h2] at h
  refine Classical.byContradiction fun h3 => ?_
  rw [if_neg h3] at h; cases h
theorem quoted_cat (s : List UInt8) : [34] ++ esc s ++ [34] = quoted s := by simp [quoted]

set_option maxRecDepth 100000 in
theorem showvalue_call (v : Val) (hv : ValSm v) : PCall Tryd.prog 19 [valV v] (str (showV v)) := by
  obtain ⟨hs, h1, h2⟩ := hv
  have fi := valueis_call v (by omega)
  have ff := formatint_call v.n h1 h2
  refine scall_of (live := []) (ords := []) Tryd.func19 rfl (by kernel_rfl) (by kernel_rfl) (Nat.le_of_ble_eq_true rfl) ?_
  (conv => arg 2; whnf); refine wp_pcall fi ?_
  (conv => arg 2; whnf); refine wp_ite (fun h3 => ?_) (fun h3 => ?_)
  · have h3 : valIs v = false := by simpa using h3
    (conv => arg 2; whnf); refine w_retp rfl (Vle.eq (congrArg str (showV_no h3).symm))
  have h3 : valIs v = true := by simpa using h3
  (conv => arg 2; whnf); refine wp_ite (fun h4 => ?_) (fun h4 => ?_)
  · have h4 : v.kind = 1 := by simpa using h4
    (conv => arg 2; whnf); refine wp_pcall ff ?_
    (conv => arg 2; whnf); refine w_retp rfl (Vle.eq (congrArg str (showV_1 h3 h4).symm))
  have h4 : v.kind ≠ 1 := by simpa using h4
  (conv => arg 2; whnf); refine wp_ite (fun h5 => ?_) (fun h5 => ?_)
  · have h5 : v.kind = 2 := by simpa using h5
    have hl : v.s.length ≤ 16 := by
      rw [valIs, if_neg h4, if_pos h5, Bool.and_eq_true, isTextB, Bool.and_eq_true] at h3
      exact of_decide_eq_true h3.2.2
    have r1 := replaceall_call v.s [92, 92] 92 (by decide) (by omega) (by decide)
    have le : (esc v.s).length ≤ 32 := by have := esc_len v.s; omega
    have l1 : (v.s.flatMap fun b => if b = 92 then [92, 92] else [b]).length ≤ 32 := by
      have : ∀ s : List UInt8, (s.flatMap fun b => if b = 92 then [92, 92] else [b]).length ≤ 2 * s.length := by
        intro s
        induction s with
        | nil => simp
        | cons b s ih =>
          rw [List.flatMap_cons, List.length_append, List.length_cons]
          split
          · simp only [List.length_cons, List.length_nil]; omega
          · simp only [List.length_cons, List.length_nil]; omega
      have := this v.s
      omega
    have r2 := replaceall_call (v.s.flatMap fun b => if b = 92 then [92, 92] else [b]) [92, 34] 34 (by decide) (by omega) (by decide)
    rw [replace_esc] at r2
    (conv => arg 2; whnf); refine wp_pcall r1 ?_
    (conv => arg 2; whnf); refine wp_pcall r2 ?_
    (conv => arg 2; whnf); refine wp_need (need2 (a := [34]) (b := esc v.s) (by simp only [List.length_cons, List.length_nil]; omega)) ?_
    (conv => arg 2; whnf); refine wp_need (need3 (a := [34]) (b := esc v.s) (c := [34]) (by simp only [List.length_cons, List.length_nil]; omega)) ?_
    (conv => arg 2; whnf); refine w_retp rfl (Vle.eq ((cat3 [34] _ [34]).trans (congrArg str ((quoted_cat v.s).trans (showV_2 h3 h5).symm))))
  have h5 : v.kind ≠ 2 := by simpa using h5
  (conv => arg 2; whnf); refine wp_ite (fun h6 => ?_) (fun h6 => ?_)
  · have h6 : v.n = 1 := by simpa using h6
    (conv => arg 2; whnf); refine w_retp rfl (Vle.eq (congrArg str (showV_t h3 h4 h5 h6).symm))
  · have h6 : v.n ≠ 1 := by simpa using h6
    (conv => arg 2; whnf); refine w_retp rfl (Vle.eq (congrArg str (showV_f h3 h4 h5 h6).symm))

theorem esc_next {s : List UInt8} {n : Nat} {c : UInt8} (h : s[n]? = some c) : esc (s.take (n + 1)) = esc (s.take n) ++ escB c := by
  rw [List.take_add_one, h]; exact esc_app _ _
theorem addOneQ {v : V} {s out : List UInt8} {i : Nat} {c : UInt8} (h : s[i]? = some c) {x y : Int} (hx : x = i) (hy : y = (i + 1 : Nat)) {t : List UInt8} (ht : t = out ++ [92] ++ [c]) (hv : v = V.c (.string (S out ++ S [92] ++ (S s).extract x.toNat y.toNat))) : Vle v (str t) := by
  rw [sliceOne h hx hy, S_append, S_append] at hv
  rw [ht]
  exact Vle.eq hv
theorem addOneE {v : V} {s out : List UInt8} {i : Nat} {c : UInt8} (h : s[i]? = some c) {x y : Int} (hx : x = i) (hy : y = (i + 1 : Nat)) {t : List UInt8} (ht : t = out ++ [c]) (hv : v = V.c (.string (S out ++ (S s).extract x.toNat y.toNat))) : Vle v (str t) := by
  rw [ht]; exact addOne h hx hy hv
theorem slice_one {s : List UInt8} {n : Nat} {c : UInt8} (h : s[n]? = some c) : (s.drop n).take (n + 1 - n) = [c] := by
  rw [drop_at h, show n + 1 - n = 1 by omega]; rfl
theorem c_eq (c k : UInt8) : (((c.toNat : Nat) : Int) == ((k.toNat : Nat) : Int)) = decide (c = k) := c_int_eq c k _ rfl

set_option maxRecDepth 100000 in
theorem refshowvalue_call (v : Val) (hv : ValSm v) : PCall Tryd.prog 20 [valV v] (str (showV v)) := by
  obtain ⟨hs, h1, h2⟩ := hv
  have fi := refvalue_call v (by omega)
  have ff := dec_call v.n h1 h2
  refine scall_of (live := []) (ords := []) Tryd.func20 rfl (by kernel_rfl) (by kernel_rfl) (Nat.le_of_ble_eq_true rfl) ?_
  (conv => arg 2; whnf); refine wp_pcall fi ?_
  (conv => arg 2; whnf); refine wp_ite (fun h3 => ?_) (fun h3 => ?_)
  · have h3 : valIs v = false := by simpa using h3
    (conv => arg 2; whnf); refine w_retp rfl (Vle.eq (congrArg str (showV_no h3).symm))
  have h3 : valIs v = true := by simpa using h3
  (conv => arg 2; whnf); refine wp_ite (fun h4 => ?_) (fun h4 => ?_)
  · have h4 : v.kind = 1 := by simpa using h4
    (conv => arg 2; whnf); refine wp_pcall ff ?_
    (conv => arg 2; whnf); refine w_retp rfl (Vle.eq (congrArg str (showV_1 h3 h4).symm))
  have h4 : v.kind ≠ 1 := by simpa using h4
  (conv => arg 2; whnf); refine wp_ite (fun h5 => ?_) (fun h5 => ?_)
  · have h5 : v.kind = 3 := by simpa using h5
    have h5' : v.kind ≠ 2 := by omega
    (conv => arg 2; whnf); refine wp_ite (fun h6 => ?_) (fun h6 => ?_)
    · have h6 : v.n = 1 := by simpa using h6
      (repeat ((conv => arg 2; whnf); first | refine wp_ite (fun _ => ?_) (fun h => Bool.noConfusion h) | refine wp_ite (fun h => Bool.noConfusion h) (fun _ => ?_)))
      (conv => arg 2; whnf); refine w_retp rfl (Vle.eq (congrArg str (showV_t h3 h4 h5' h6).symm))
    · have h6 : v.n ≠ 1 := by simpa using h6
      (repeat ((conv => arg 2; whnf); first | refine wp_ite (fun _ => ?_) (fun h => Bool.noConfusion h) | refine wp_ite (fun h => Bool.noConfusion h) (fun _ => ?_)))
      (conv => arg 2; whnf); refine wp_ite (fun _ => ?_) (fun h => ?no)
      case no => have h : v.kind ≠ 3 := by simpa using h
                 exact (h h5).elim
      (conv => arg 2; whnf); refine w_retp rfl (Vle.eq (congrArg str (showV_f h3 h4 h5' h6).symm))
  have h5 : v.kind ≠ 3 := by simpa using h5
  have h5' : v.kind = 2 := Classical.byContradiction fun h => h5 (valIs_kind h3 h4 h)
  have hl : v.s.length ≤ 16 := by
    rw [valIs, if_neg h4, if_pos h5', Bool.and_eq_true, isTextB, Bool.and_eq_true] at h3
    exact of_decide_eq_true h3.2.2
  have el : ∀ n, (esc (v.s.take n)).length ≤ 32 := fun n => by
    have := esc_len (v.s.take n)
    rw [List.length_take] at this; omega
  (repeat ((conv => arg 2; whnf); first | refine wp_ite (fun _ => ?_) (fun h => Bool.noConfusion h) | refine wp_ite (fun h => Bool.noConfusion h) (fun _ => ?_)))
  (conv => arg 2; whnf); refine wp_ite (fun h => ?no) (fun _ => ?_)
  case no => have h : v.kind = 3 := by simpa using h
             exact (h5 h).elim
  (conv => arg 2; whnf); refine wp_loop (fun m fr R => ∃ n : Nat, m = v.s.length - n ∧ n ≤ v.s.length ∧ R = [] ∧ fr = frL [(1, .pt (some 3) (valV v) 0), (3, str (esc (v.s.take n))), (4, i64V n)])
    v.s.length _ _ (.cons (.refl _) (.cons (.refl _) (.cons (.refl _) (.nil _)))) (List.Sublist.refl _) ⟨0, rfl, Nat.zero_le _, rfl, rfl⟩ ?_
  rintro m fr R ⟨n, rfl, hn, rfl, rfl⟩
  (conv => arg 2; whnf); refine wp_ite (fun h => ?_) (fun h => ?_)
  · have h : n < v.s.length := by have := of_decide_eq_true h; rw [S_size] at this; omega
    obtain ⟨c, hc⟩ : ∃ c, v.s[n]? = some c := ⟨_, List.getElem?_eq_getElem h⟩
    have hb : byteAt (S v.s) (Int.toNat (n : Int)) = c := byte_at hc
    have hw : IntKind.i64.wrap ((n : Int) + 1) = ((n + 1 : Nat) : Int) := wadd (by omega) (by omega) (by omega)
    have en := esc_next hc
    have l0 := el n
    have l1 := el (n + 1)
    have w1 : IntKind.i64.wrap ((n : Int) + 1) = ((n + 1 : Nat) : Int) := wadd (by omega) (by omega) (by omega)
    (conv => arg 2; whnf); refine wp_need (by rw [S_size]; omega) ?_
    rw [hb]
    (conv => arg 2; whnf); refine wp_ite (fun h6 => ?_) (fun h6 => ?_)
    · have h6 : c = 34 := of_decide_eq_true ((c_int_eq c 34 34 rfl).symm.trans h6)
      have eb : esc (v.s.take (n + 1)) = esc (v.s.take n) ++ [92] ++ [c] := by rw [en, escB, if_pos (.inl h6), List.append_assoc]; rfl
      (repeat ((conv => arg 2; whnf); first | refine wp_ite (fun _ => ?_) (fun h => Bool.noConfusion h) | refine wp_ite (fun h => Bool.noConfusion h) (fun _ => ?_)))
      (conv => arg 2; whnf); refine wp_need (need2 (a := esc (v.s.take n)) (b := [92]) (by simp only [List.length_cons, List.length_nil]; omega)) ?_
      (conv => arg 2; whnf); refine wp_need (by rw [w1, S_size]; omega) ?_
      (conv => arg 2; whnf); refine wp_need (by rw [sliceOne hc rfl w1]; exact need3 (a := esc (v.s.take n)) (b := [92]) (c := [c]) (by simp only [List.length_cons, List.length_nil]; omega)) ?_
      (conv => arg 2; whnf)
      refine wp_leaf (loop_next (v.s.length - (n + 1)) _ _ (by omega) (.cons (.refl _) (.cons (addOneQ hc rfl w1 eb rfl) (.cons (Vle.inc n rfl (by omega)) (.nil _)))) (List.Sublist.refl _) ⟨n + 1, rfl, h, rfl, rfl⟩)
    · have h6 : c ≠ 34 := fun e => by
        have := (c_int_eq c 34 34 rfl).symm.trans h6
        simp [e] at this
      (conv => arg 2; whnf); refine wp_need (by rw [S_size]; omega) ?_
      rw [hb]
      (conv => arg 2; whnf); refine wp_ite (fun h7 => ?_) (fun h7 => ?_)
      · have h7 : c = 92 := of_decide_eq_true ((c_int_eq c 92 92 rfl).symm.trans h7)
        have eb : esc (v.s.take (n + 1)) = esc (v.s.take n) ++ [92] ++ [c] := by rw [en, escB, if_pos (.inr h7), List.append_assoc]; rfl
        (conv => arg 2; whnf); refine wp_need (need2 (a := esc (v.s.take n)) (b := [92]) (by simp only [List.length_cons, List.length_nil]; omega)) ?_
        (conv => arg 2; whnf); refine wp_need (by rw [w1, S_size]; omega) ?_
        (conv => arg 2; whnf); refine wp_need (by rw [sliceOne hc rfl w1]; exact need3 (a := esc (v.s.take n)) (b := [92]) (c := [c]) (by simp only [List.length_cons, List.length_nil]; omega)) ?_
        (conv => arg 2; whnf)
        refine wp_leaf (loop_next (v.s.length - (n + 1)) _ _ (by omega) (.cons (.refl _) (.cons (addOneQ hc rfl w1 eb rfl) (.cons (Vle.inc n rfl (by omega)) (.nil _)))) (List.Sublist.refl _) ⟨n + 1, rfl, h, rfl, rfl⟩)
      · have h7 : c ≠ 92 := fun e => by
          have := (c_int_eq c 92 92 rfl).symm.trans h7
          simp [e] at this
        have eb : esc (v.s.take (n + 1)) = esc (v.s.take n) ++ [c] := by rw [en, escB, if_neg (fun e => e.elim h6 h7)]
        (conv => arg 2; whnf); refine wp_need (by rw [w1, S_size]; omega) ?_
        (conv => arg 2; whnf); refine wp_need (by rw [sliceOne hc rfl w1]; exact need2 (a := esc (v.s.take n)) (b := [c]) (by simp only [List.length_cons, List.length_nil]; omega)) ?_
        (conv => arg 2; whnf)
        refine wp_leaf (loop_next (v.s.length - (n + 1)) _ _ (by omega) (.cons (.refl _) (.cons (addOneE hc rfl w1 eb rfl) (.cons (Vle.inc n rfl (by omega)) (.nil _)))) (List.Sublist.refl _) ⟨n + 1, rfl, h, rfl, rfl⟩)
  · have h : n = v.s.length := by have := of_decide_eq_false h; rw [S_size] at this; omega
    subst h
    have le := el v.s.length
    rw [List.take_length] at le ⊢
    (conv => arg 2; whnf)
    refine wp_leaf (loop_exit ?_)
    (conv => arg 2; whnf); refine wp_need (need2 (a := [34]) (b := esc v.s) (by simp only [List.length_cons, List.length_nil]; omega)) ?_
    (conv => arg 2; whnf); refine wp_need (need3 (a := [34]) (b := esc v.s) (c := [34]) (by simp only [List.length_cons, List.length_nil]; omega)) ?_
    (conv => arg 2; whnf); refine w_retp rfl (Vle.eq ((cat3 [34] _ [34]).trans (congrArg str ((quoted_cat v.s).trans (showV_2 h3 h5').symm))))
end Go.Sv
/- The same conditions, all levels. -/
namespace Go.Sv
open Go Go.Proofs

def sameB : Nat → Ex → Ex → Bool
  | 0, x, y => headB x y
  | k + 1, x, y => headB x y && (List.range x.kids.length).all fun i => sameB k (x.kids.getD i ex0) (y.kids.getD i ex0)

theorem getDx {α : Type} {l : List α} {i : Nat} {a d : α} (h : l[i]? = some a) : l.getD i d = a := by rw [List.getD_eq_getElem?_getD, h]; rfl
theorem headB_len {x y : Ex} (h : headB x y = true) : x.kids.length = y.kids.length := by
  simp only [headB, Bool.and_eq_true] at h
  exact of_decide_eq_true h.2.2.2.2
theorem head_ite {x y : Ex} {a b : Bool} (h : headB x y = true → a = b) : (headB x y && a) = (headB x y && b) := by
  cases hh : headB x y with
  | false => rfl
  | true => rw [h hh]

/-- The kids of a condition of so many levels. -/
theorem shape_kids {k : Nat} {x y : Ex} (h : shapedN (k + 1) x = true) (hy : y ∈ x.kids) : shapedN k y = true := by
  obtain ⟨o, v, a, f, l⟩ := x
  have hy : y ∈ l := hy
  by_cases hb : o < 1 ∨ 12 < o ∨ l.length ≠ kidsN o
  · rw [shapedN_bad (x := .mk o v a f l) hb] at h; cases h
  have hl : l.length = kidsN o := by omega
  rcases shape_cases h with rfl | rfl | ⟨rfl, z, rfl, hz⟩ | ⟨h3, h11, z, z', rfl, hz, hz'⟩
  · rw [kidsN_0 (by omega) (by omega)] at hl
    rw [List.length_eq_zero_iff.1 hl] at hy; cases hy
  · rw [kidsN_0 (by omega) (by omega)] at hl
    rw [List.length_eq_zero_iff.1 hl] at hy; cases hy
  · rw [List.mem_singleton.1 hy]; exact hz
  · rcases List.mem_cons.1 hy with rfl | hy
    · exact hz
    · rw [List.mem_singleton.1 hy]; exact hz'

theorem refsame_call : ∀ (k : Nat) (x y : Ex), ExOk k x → shapedN k x = true → PCall Tryd.prog 26 [.agg (exC x), .agg (exC y)] (bV (sameB k x y))
  | 0, _, _, _, h => by cases h
  | k + 1, x, y, hok, h => by
    have := refsame_step x y (fun i => sameB k (x.kids.getD i ex0) (y.kids.getD i ex0)) hok.2.2.2.1 (fun n a b ha hb => by
      rw [getDx ha, getDx hb]
      exact refsame_call k a b (hok.2.2.2.2 a (List.mem_of_getElem? ha)) (shape_kids h (List.mem_of_getElem? ha)))
    rw [sameB]; exact this
theorem refsame0_call (x : Ex) (hl : x.kids.length < 2 ^ 60) : PCall Tryd.prog 26 [.agg (exC x), .agg (exC ex0)] (bV (zeroB x)) := by
  have := refsame_step x ex0 (fun _ => false) hl (fun n a b ha hb => by simp [ex0, Ex.kids] at hb)
  rw [head_ite (b := true) (fun h => by rw [headB_len h]; rfl), Bool.and_true] at this
  exact this
theorem same0_call (x : Ex) (hl : x.kids.length < 2 ^ 60) : PCall Tryd.prog 106 [.agg (exC x), .agg (exC ex0)] (bV (zeroB x)) := by
  have := same_step x ex0 (fun _ => false) hl (fun n a b ha hb => by simp [ex0, Ex.kids] at hb)
  rw [head_ite (b := true) (fun h => by rw [headB_len h]; rfl), Bool.and_true] at this
  exact this

/-- It tells whether they are the same. -/
theorem sameB_iff : ∀ (k : Nat) (x y : Ex), shapedN k x = true → (sameB k x y = true ↔ x = y)
  | 0, _, _, h => by cases h
  | k + 1, x, y, h => by
    constructor
    · intro hs
      rw [sameB, Bool.and_eq_true] at hs
      obtain ⟨hh, hk⟩ := hs
      have hlen := headB_len hh
      have hkids : x.kids = y.kids := by
        apply List.ext_getElem hlen
        intro i h1 h2
        have h3 := List.all_eq_true.1 hk i (List.mem_range.2 h1)
        have e1 : x.kids[i]? = some x.kids[i] := List.getElem?_eq_getElem h1
        have e2 : y.kids[i]? = some y.kids[i] := List.getElem?_eq_getElem h2
        rw [getDx e1, getDx e2] at h3
        exact (sameB_iff k _ _ (shape_kids h (List.getElem_mem h1))).1 h3
      simp only [headB, Bool.and_eq_true] at hh
      have a1 := of_decide_eq_true hh.1
      have a2 := of_decide_eq_true hh.2.1
      have a3 := of_decide_eq_true hh.2.2.1
      have a4 := of_decide_eq_true hh.2.2.2.1
      obtain ⟨o, v, a, f, l⟩ := x
      obtain ⟨o', v', a', f', l'⟩ := y
      simp only [Ex.op, Ex.val, Ex.al, Ex.fd, Ex.kids] at a1 a2 a3 a4 hkids
      subst a1 a2 a3 a4 hkids
      rfl
    · rintro rfl
      rw [sameB, Bool.and_eq_true]
      refine ⟨headB_true rfl rfl rfl rfl rfl, List.all_eq_true.2 fun i hi => ?_⟩
      have h1 := List.mem_range.1 hi
      have e1 : x.kids[i]? = some x.kids[i] := List.getElem?_eq_getElem h1
      rw [getDx e1]
      exact (sameB_iff k _ _ (shape_kids h (List.getElem_mem h1))).2 rfl
theorem sameB_zero {k : Nat} {y : Ex} : sameB k ex0 y = zeroB y := by
  have e : headB ex0 y = headB y ex0 := by
    rw [headB, headB, decide_eq_decide.2 (show ex0.op = y.op ↔ y.op = ex0.op from eq_comm), decide_eq_decide.2 (show ex0.val = y.val ↔ y.val = ex0.val from eq_comm), decide_eq_decide.2 (show ex0.al = y.al ↔ y.al = ex0.al from eq_comm), decide_eq_decide.2 (show ex0.fd = y.fd ↔ y.fd = ex0.fd from eq_comm), decide_eq_decide.2 (show ex0.kids.length = y.kids.length ↔ y.kids.length = ex0.kids.length from eq_comm)]
  cases k with
  | zero => rw [sameB, zeroB, e]
  | succ k => rw [sameB, zeroB, e]; simp [ex0, Ex.kids]
end Go.Sv
/- What an element may be; what a pattern is: the program's. -/
namespace Go.Sv
open Go Go.Proofs

/-- What is bounded. -/
def ExBd (x : Ex) : Prop := ExOk 20 x ∧ ExOk 6 x ∧ ExSm 5 x ∧ (nodesN 20 x).length ≤ 2 ^ 40
def ElBd (e : El) : Prop := e.al.length < 2 ^ 40 ∧ e.ty.length < 2 ^ 40 ∧ (∀ t ∈ e.ty, t.length < 2 ^ 40) ∧ ExBd e.cond
def PaBd (p : Pa) : Prop := p.els.length < 2 ^ 40 ∧ (∀ e ∈ p.els, ElBd e) ∧ p.by_.length < 2 ^ 40 ∧ (-9223372036854775808 ≤ p.within ∧ p.within < 9223372036854775808)
theorem ExBd.kids {x : Ex} (h : ExBd x) : x.kids.length < 2 ^ 60 := h.1.2.2.2.1

theorem zero_vle : Vle (.agg [i64V 0, i64V 0, i64V 0, str [], str [], str [], .sl none [] .zero]) (.agg (exC ex0)) :=
  Vle.agg (.cons (.refl _) (.cons (.refl _) (.cons (.refl _) (.cons (.refl _) (.cons (.refl _) (.cons (.refl _) (.cons (Vle.nil _ _ _) .nil)))))))

theorem isEl_name {e : El} (h : isNm e.al = false) : isElB e = false := by rw [isElB, h]; rfl
theorem isEl_few {e : El} (h : e.ty.length < 1) : isElB e = false := by rw [isElB, decide_eq_false (by omega : ¬ 1 ≤ e.ty.length)]; simp
theorem isEl_many {e : El} (h : 3 < e.ty.length) : isElB e = false := by rw [isElB, decide_eq_false (by omega : ¬ e.ty.length ≤ 3)]; simp
theorem isEl_rise {e : El} (h : riseB e.ty = false) : isElB e = false := by rw [isElB, h]; simp
theorem isEl_both {e : El} (h : e.plus = true) (h' : e.nt = true) : isElB e = false := by rw [isElB, h, h']; simp
theorem isEl_ty {e : El} {t : List UInt8} (h : t ∈ e.ty) (h' : isNm t = false) : isElB e = false := by
  have : e.ty.all isNm = false := List.all_eq_false.2 ⟨t, h, by simp [h']⟩
  rw [isElB, this]; simp
theorem isEl_end {e : El} (h1 : isNm e.al = true) (h2 : 1 ≤ e.ty.length) (h3 : e.ty.length ≤ 3) (h4 : riseB e.ty = true) (h5 : (e.plus && e.nt) = false) (h6 : e.ty.all isNm = true) : isElB e = (zeroB e.cond || isExB e.cond) := by
  rw [isElB, h1, decide_eq_true h2, decide_eq_true h3, h4, h5, h6]; rfl

set_option maxRecDepth 100000 in
theorem iselem_call (e : El) (h : ElBd e) : PCall Tryd.prog 70 [.agg (elC e)] (bV (isElB e)) := by
  obtain ⟨ha, hl, ht, hx⟩ := h
  have fn := name_call e.al (by omega)
  have fr := rise_call e.ty (by omega)
  have fs := same0_call e.cond hx.kids
  have fi := isexpr_call e.cond hx.1
  refine scall_of (live := []) (ords := []) Tryd.func70 rfl (by kernel_rfl) (by kernel_rfl) (Nat.le_of_ble_eq_true rfl) ?_
  (conv => arg 2; whnf); refine wp_pcall fn ?_
  (conv => arg 2; whnf); refine wp_ite (fun h1 => ?_) (fun h1 => ?_)
  · have h1 : isNm e.al = false := by simpa using h1
    (repeat ((conv => arg 2; whnf); first | refine wp_ite (fun _ => ?_) (fun h => Bool.noConfusion h) | refine wp_ite (fun h => Bool.noConfusion h) (fun _ => ?_)))
    (conv => arg 2; whnf); refine w_retp rfl (Vle.eq (cBool (isEl_name h1).symm))
  have h1 : isNm e.al = true := by simpa using h1
  (conv => arg 2; whnf); refine wp_ite (fun h2 => ?_) (fun h2 => ?_)
  · have h2 : e.ty.length < 1 := by have := of_decide_eq_true h2; rw [List.length_map] at this; omega
    (repeat ((conv => arg 2; whnf); first | refine wp_ite (fun _ => ?_) (fun h => Bool.noConfusion h) | refine wp_ite (fun h => Bool.noConfusion h) (fun _ => ?_)))
    (conv => arg 2; whnf); refine w_retp rfl (Vle.eq (cBool (isEl_few h2).symm))
  have h2 : 1 ≤ e.ty.length := by have := of_decide_eq_false h2; rw [List.length_map] at this; omega
  (conv => arg 2; whnf); refine wp_ite (fun h3 => ?_) (fun h3 => ?_)
  · have h3 : 3 < e.ty.length := by have := of_decide_eq_true h3; rw [List.length_map] at this; omega
    (repeat ((conv => arg 2; whnf); first | refine wp_ite (fun _ => ?_) (fun h => Bool.noConfusion h) | refine wp_ite (fun h => Bool.noConfusion h) (fun _ => ?_)))
    (conv => arg 2; whnf); refine w_retp rfl (Vle.eq (cBool (isEl_many h3).symm))
  have h3 : e.ty.length ≤ 3 := by have := of_decide_eq_false h3; rw [List.length_map] at this; omega
  (conv => arg 2; whnf); refine wp_pcall fr ?_
  (conv => arg 2; whnf); refine wp_ite (fun h4 => ?_) (fun h4 => ?_)
  · have h4 : riseB e.ty = false := by simpa using h4
    (repeat ((conv => arg 2; whnf); first | refine wp_ite (fun _ => ?_) (fun h => Bool.noConfusion h) | refine wp_ite (fun h => Bool.noConfusion h) (fun _ => ?_)))
    (conv => arg 2; whnf); refine w_retp rfl (Vle.eq (cBool (isEl_rise h4).symm))
  have h4 : riseB e.ty = true := by simpa using h4
  (conv => arg 2; whnf); refine wp_ite (fun hp => ?_) (fun hp => ?_)
  · have hp : e.plus = true := hp
    (conv => arg 2; whnf); refine wp_ite (fun hq => ?_) (fun hq => ?_)
    · have hq : e.nt = true := hq
      (repeat ((conv => arg 2; whnf); first | refine wp_ite (fun _ => ?_) (fun h => Bool.noConfusion h) | refine wp_ite (fun h => Bool.noConfusion h) (fun _ => ?_)))
      (conv => arg 2; whnf); refine w_retp rfl (Vle.eq (cBool (isEl_both hp hq).symm))
    · have hq : e.nt = false := hq
      have h5 : (e.plus && e.nt) = false := by rw [hq, Bool.and_false]
      (repeat ((conv => arg 2; whnf); first | refine wp_ite (fun _ => ?_) (fun h => Bool.noConfusion h) | refine wp_ite (fun h => Bool.noConfusion h) (fun _ => ?_)))
      (conv => arg 2; whnf); refine wp_loop (fun m fr R => ∃ n : Nat, m = e.ty.length - n ∧ n ≤ e.ty.length ∧ R = [] ∧ (e.ty.take n).all isNm = true ∧ fr = frL [(1, .pt (some 11) (.agg (elC e)) 0), (36, .sl none (e.ty.map str) .no), (37, i64V e.ty.length), (38, i64V n)])
        e.ty.length _ _ (.cons (.refl _) (.cons (.refl _) (.cons (Vle.eq ?_) (.cons (.refl _) (.nil _))))) (List.Sublist.refl _) ⟨0, rfl, Nat.zero_le _, rfl, rfl, rfl⟩ ?_
      · show V.c (.int .i64 (e.ty.map str).length) = _
        rw [List.length_map]; rfl
      rintro m fr R ⟨n, rfl, hn, rfl, hall, rfl⟩
      (conv => arg 2; whnf); refine wp_ite (fun h => ?_) (fun h => ?_)
      · have h : n < e.ty.length := by have := of_decide_eq_true h; omega
        obtain ⟨t, htn⟩ : ∃ t, e.ty[n]? = some t := ⟨_, List.getElem?_eq_getElem h⟩
        have hm := List.mem_of_getElem? htn
        have fn := name_call t (by have := ht t hm; omega)
        (conv => arg 2; whnf); refine wp_elem n (str t) rfl (by rw [List.getElem?_map, htn]; rfl) (Vle.refl _) ?_
        (conv => arg 2; whnf); refine wp_pcall fn ?_
        (conv => arg 2; whnf); refine wp_ite (fun h6 => ?_) (fun h6 => ?_)
        · have h6 : isNm t = false := by simpa using h6
          (conv => arg 2; whnf)
          refine wp_leaf (loop_ret ?_)
          (conv => arg 2; whnf); refine w_retp rfl (Vle.eq (cBool (isEl_ty hm h6).symm))
        · have h6 : isNm t = true := by simpa using h6
          (conv => arg 2; whnf)
          refine wp_leaf (loop_next (e.ty.length - (n + 1)) _ _ (by omega) (.cons (.refl _) (.cons (.refl _) (.cons (.refl _) (.cons (Vle.inc n rfl (by omega)) (.nil _))))) (List.Sublist.refl _) ⟨n + 1, rfl, h, rfl, ?_, rfl⟩)
          rw [List.take_add_one, htn, List.all_append, hall]
          simp [h6]
      · have h : n = e.ty.length := by have := of_decide_eq_false h; omega
        subst h
        rw [List.take_length] at hall
        have he := isEl_end h1 h2 h3 h4 h5 hall
        (conv => arg 2; whnf)
        refine wp_leaf (loop_exit ?_)
        (conv => arg 2; whnf); refine wp_pcallV (.cons (.refl _) (.cons zero_vle .nil)) fs ?_
        (conv => arg 2; whnf); refine wp_ite (fun h7 => ?_) (fun h7 => ?_)
        · have h7 : zeroB e.cond = true := h7
          (conv => arg 2; whnf); refine w_retp rfl (Vle.eq (cBool ?_))
          rw [he, h7]; rfl
        · have h7 : zeroB e.cond = false := h7
          (conv => arg 2; whnf); refine wp_pcall fi ?_
          (conv => arg 2; whnf); refine w_retp rfl (Vle.eq (cBool ?_))
          rw [he, h7]; rfl
  · have hp : e.plus = false := hp
    have h5 : (e.plus && e.nt) = false := by rw [hp, Bool.false_and]
    (repeat ((conv => arg 2; whnf); first | refine wp_ite (fun _ => ?_) (fun h => Bool.noConfusion h) | refine wp_ite (fun h => Bool.noConfusion h) (fun _ => ?_)))
    (conv => arg 2; whnf); refine wp_loop (fun m fr R => ∃ n : Nat, m = e.ty.length - n ∧ n ≤ e.ty.length ∧ R = [] ∧ (e.ty.take n).all isNm = true ∧ fr = frL [(1, .pt (some 11) (.agg (elC e)) 0), (36, .sl none (e.ty.map str) .no), (37, i64V e.ty.length), (38, i64V n)])
      e.ty.length _ _ (.cons (.refl _) (.cons (.refl _) (.cons (Vle.eq ?_) (.cons (.refl _) (.nil _))))) (List.Sublist.refl _) ⟨0, rfl, Nat.zero_le _, rfl, rfl, rfl⟩ ?_
    · show V.c (.int .i64 (e.ty.map str).length) = _
      rw [List.length_map]; rfl
    rintro m fr R ⟨n, rfl, hn, rfl, hall, rfl⟩
    (conv => arg 2; whnf); refine wp_ite (fun h => ?_) (fun h => ?_)
    · have h : n < e.ty.length := by have := of_decide_eq_true h; omega
      obtain ⟨t, htn⟩ : ∃ t, e.ty[n]? = some t := ⟨_, List.getElem?_eq_getElem h⟩
      have hm := List.mem_of_getElem? htn
      have fn := name_call t (by have := ht t hm; omega)
      (conv => arg 2; whnf); refine wp_elem n (str t) rfl (by rw [List.getElem?_map, htn]; rfl) (Vle.refl _) ?_
      (conv => arg 2; whnf); refine wp_pcall fn ?_
      (conv => arg 2; whnf); refine wp_ite (fun h6 => ?_) (fun h6 => ?_)
      · have h6 : isNm t = false := by simpa using h6
        (conv => arg 2; whnf)
        refine wp_leaf (loop_ret ?_)
        (conv => arg 2; whnf); refine w_retp rfl (Vle.eq (cBool (isEl_ty hm h6).symm))
      · have h6 : isNm t = true := by simpa using h6
        (conv => arg 2; whnf)
        refine wp_leaf (loop_next (e.ty.length - (n + 1)) _ _ (by omega) (.cons (.refl _) (.cons (.refl _) (.cons (.refl _) (.cons (Vle.inc n rfl (by omega)) (.nil _))))) (List.Sublist.refl _) ⟨n + 1, rfl, h, rfl, ?_, rfl⟩)
        rw [List.take_add_one, htn, List.all_append, hall]
        simp [h6]
    · have h : n = e.ty.length := by have := of_decide_eq_false h; omega
      subst h
      rw [List.take_length] at hall
      have he := isEl_end h1 h2 h3 h4 h5 hall
      (conv => arg 2; whnf)
      refine wp_leaf (loop_exit ?_)
      (conv => arg 2; whnf); refine wp_pcallV (.cons (.refl _) (.cons zero_vle .nil)) fs ?_
      (conv => arg 2; whnf); refine wp_ite (fun h7 => ?_) (fun h7 => ?_)
      · have h7 : zeroB e.cond = true := h7
        (conv => arg 2; whnf); refine w_retp rfl (Vle.eq (cBool ?_))
        rw [he, h7]; rfl
      · have h7 : zeroB e.cond = false := h7
        (conv => arg 2; whnf); refine wp_pcall fi ?_
        (conv => arg 2; whnf); refine w_retp rfl (Vle.eq (cBool ?_))
        rw [he, h7]; rfl
end Go.Sv
/- How great a condition, a pattern is: then all is bounded. -/
namespace Go.Sv
open Go Go.Proofs

def I64 (n : Int) : Prop := -9223372036854775808 ≤ n ∧ n < 9223372036854775808
mutual
def exSize : Ex → Nat
  | .mk _ v a f l => 1 + v.s.length + a.length + f.length + exsSize l
def exsSize : List Ex → Nat
  | [] => 0
  | x :: l => exSize x + exsSize l
end
mutual
def exRg : Ex → Prop
  | .mk _ v _ _ l => I64 v.n ∧ exsRg l
def exsRg : List Ex → Prop
  | [] => True
  | x :: l => exRg x ∧ exsRg l
end
theorem exsSize_sum (l : List Ex) : exsSize l = (l.map exSize).sum := by
  induction l with
  | nil => rw [exsSize]; rfl
  | cons x l ih => rw [exsSize, ih]; simp
theorem exsRg_iff (l : List Ex) : exsRg l ↔ ∀ y ∈ l, exRg y := by
  induction l with
  | nil => rw [exsRg]; simp
  | cons x l ih => rw [exsRg, ih]; simp
theorem exSize_eq (x : Ex) : exSize x = 1 + x.val.s.length + x.al.length + x.fd.length + exsSize x.kids := by
  cases x; rw [exSize]; rfl
theorem exRg_eq (x : Ex) : exRg x ↔ I64 x.val.n ∧ ∀ y ∈ x.kids, exRg y := by
  cases x; rw [exRg, exsRg_iff]; rfl
theorem exSize_pos (x : Ex) : 1 ≤ exSize x := by rw [exSize_eq]; omega
theorem exsSize_mem : ∀ {l : List Ex} {y : Ex}, y ∈ l → exSize y ≤ exsSize l
  | x :: l, y, h => by
    rw [exsSize]
    rcases List.mem_cons.1 h with rfl | h
    · omega
    · have := exsSize_mem h; omega
theorem exsSize_len : ∀ l : List Ex, l.length ≤ exsSize l
  | [] => by simp
  | x :: l => by
    rw [exsSize, List.length_cons]
    have := exsSize_len l
    have := exSize_pos x
    omega
theorem exOk_of {B : Nat} (hB : B < 2 ^ 60) : ∀ (k : Nat) (x : Ex), exSize x ≤ B → ExOk k x
  | 0, _, _ => trivial
  | k + 1, x, h => by
    rw [exSize_eq] at h
    have := exsSize_len x.kids
    exact ⟨by omega, by omega, by omega, by omega, fun y hy => exOk_of hB k y (by have := exsSize_mem hy; omega)⟩
theorem exSm_of {B : Nat} (hB : B < 2 ^ 40) : ∀ (k : Nat) (x : Ex), exSize x ≤ B → exRg x → ExSm k x
  | 0, _, _, _ => trivial
  | k + 1, x, h, hr => by
    rw [exSize_eq] at h
    rw [exRg_eq] at hr
    exact ⟨⟨by omega, hr.1.1, hr.1.2⟩, by omega, by omega, fun y hy => exSm_of hB k y (by have := exsSize_mem hy; omega) (hr.2 y hy)⟩
theorem nodes_size : ∀ (k : Nat) (x : Ex), (nodesN k x).length ≤ exSize x
  | 0, _ => by simp [nodesN]
  | k + 1, x => by
    have key : ∀ l : List Ex, (l.flatMap (nodesN k)).length ≤ exsSize l := by
      intro l
      induction l with
      | nil => simp
      | cons y l ih =>
        rw [List.flatMap_cons, List.length_append, exsSize]
        have := nodes_size k y
        omega
    have := key x.kids
    rw [nodesN, exSize_eq]
    split
    · simp
    · rw [List.length_cons]; omega
theorem exBd_of {x : Ex} (h : exSize x ≤ 2 ^ 39) (hr : exRg x) : ExBd x :=
  ⟨exOk_of (by omega) 20 x h, exOk_of (by omega) 6 x h, exSm_of (by omega) 5 x h hr, by have := nodes_size 20 x; omega⟩

def elSize (e : El) : Nat := e.al.length + (e.ty.map fun s => s.length + 1).sum + exSize e.cond
def paSize (p : Pa) : Nat := p.by_.length + (p.els.map elSize).sum
theorem sum_mem {α : Type} {f : α → Nat} : ∀ {l : List α} {y : α}, y ∈ l → f y ≤ (l.map f).sum
  | x :: l, y, h => by
    rw [List.map_cons, List.sum_cons]
    rcases List.mem_cons.1 h with rfl | h
    · omega
    · have := sum_mem (f := f) h; omega
theorem sum_len {α : Type} {f : α → Nat} (hf : ∀ a, 1 ≤ f a) : ∀ l : List α, l.length ≤ (l.map f).sum
  | [] => by simp
  | x :: l => by
    rw [List.map_cons, List.sum_cons, List.length_cons]
    have := sum_len hf l
    have := hf x
    omega
theorem elBd_of {e : El} (h : elSize e ≤ 2 ^ 39) (hr : exRg e.cond) : ElBd e := by
  unfold elSize at h
  have h1 := sum_len (f := fun s : List UInt8 => s.length + 1) (fun a => by omega) e.ty
  refine ⟨by omega, by omega, fun t ht => ?_, exBd_of (by omega) hr⟩
  have := sum_mem (f := fun s : List UInt8 => s.length + 1) ht
  omega
theorem paBd_of {p : Pa} (h : paSize p ≤ 2 ^ 39) (hr : ∀ e ∈ p.els, exRg e.cond) (hw : I64 p.within) : PaBd p := by
  unfold paSize at h
  have h1 := sum_len (f := elSize) (fun e => by have := exSize_pos e.cond; unfold elSize; omega) p.els
  refine ⟨by omega, fun e he => elBd_of ?_ (hr e he), by omega, hw⟩
  have := sum_mem (f := elSize) he
  omega
end Go.Sv
/- What the reading of an argument gives: values of plain data, and how great it is. -/
namespace Go.Sv
open Go Go.RowKit Go.ChangeShapes Go.WideShapes Go.Proofs.YtdkbdmfhidimmaaDoor

theorem choose_row {α : Type} {Q : Nat → α → Prop} : ∀ n : Nat, (∀ i, i < n → ∃ a, Q i a) → ∃ l : List α, l.length = n ∧ ∀ i a, l[i]? = some a → Q i a
  | 0, _ => ⟨[], rfl, by simp⟩
  | n + 1, h => by
    obtain ⟨l, hl, hq⟩ := choose_row n fun i hi => h i (by omega)
    obtain ⟨a, ha⟩ := h n (by omega)
    refine ⟨l ++ [a], by simp [hl], fun i b hb => ?_⟩
    rw [List.getElem?_append] at hb
    split at hb
    · exact hq i b hb
    · rename_i hi
      have hi' : i = n := by
        have := (List.getElem?_eq_some_iff.1 hb).1
        simp at this; omega
      subst hi'
      rw [hl] at hb
      simp at hb; subst hb; exact ha

theorem addr_add2 (a : Addr) (i j : Nat) : (a.add i).add j = a.add (i + j) := by
  unfold Addr.add
  by_cases hi : i = 0
  · subst hi; simp
  · by_cases hj : j = 0
    · subst hj; simp
    · rw [if_neg hi, if_neg hj, if_neg (by omega)]
      simp only [Addr.mk.injEq, true_and, and_true]
      omega

section
variable {H : Type} {enc : TypeId × Value → H} {P : Program} {W : World} {base : Nat} {held : Bool} {fuel : Nat} {t : TypeId} {cs : List Value} {x : DataW H × List MemPlace}

theorem bulk_sum {α : Type} {sz : α → Nat} : ∀ (l : List α) (m : List (DataW H × List MemPlace)), l.length = m.length → (∀ (i : Nat) a y, l[i]? = some a → m[i]? = some y → sz a ≤ Rows.uptoBulk y.1) → (l.map sz).sum ≤ Rows.uptoBulkAll (m.map (·.1))
  | [], [], _, _ => by simp [Rows.uptoBulkAll]
  | [], _ :: _, h, _ => by simp at h
  | _ :: _, [], h, _ => by simp at h
  | a :: l, y :: m, h, hq => by
    have h1 := hq 0 a y rfl rfl
    have h2 := bulk_sum l m (by simpa using h) fun i b z hb hz => hq (i + 1) b z hb hz
    simp only [List.map_cons, List.sum_cons, Rows.uptoBulkAll]
    omega

theorem opens_str (ht : P.underlying t = some .string) (h : DataW.trod enc P W base (fun _ => true) held fuel t cs = some x) : ∃ s : List UInt8, RelL (Gh.start W) W [str s] cs ∧ s.length + 1 ≤ Rows.uptoBulk x.1 := by
  obtain ⟨s, rfl, rfl, _⟩ := DataW.trod_string ht h
  refine ⟨s.data.toList, ?_, by simp [Rows.uptoBulk]⟩
  simp only [RelL, RelV, str]
  exact ⟨_, _, rfl, by rw [← S_of], rfl⟩
theorem opens_i64 (ht : P.underlying t = some (.int .i64)) (h : DataW.trod enc P W base (fun _ => true) held fuel t cs = some x) : ∃ n : Int, RelL (Gh.start W) W [i64V n] cs ∧ (-9223372036854775808 ≤ n ∧ n < 9223372036854775808) ∧ 1 ≤ Rows.uptoBulk x.1 := by
  obtain ⟨n, rfl, rfl, hw⟩ := DataW.trod_int ht h
  refine ⟨n, ?_, ?_, by simp [Rows.uptoBulk]⟩
  · simp only [RelL, RelV, i64V]; exact ⟨_, _, rfl, rfl, rfl⟩
  · have : -9223372036854775808 ≤ n ∧ n ≤ 9223372036854775807 := by simpa [Lit.wf, IntKind.min, IntKind.max, IntKind.signed, IntKind.bits] using hw
    omega
theorem opens_bool (ht : P.underlying t = some .bool) (h : DataW.trod enc P W base (fun _ => true) held fuel t cs = some x) : ∃ b : Bool, RelL (Gh.start W) W [bV b] cs ∧ 1 ≤ Rows.uptoBulk x.1 := by
  obtain ⟨b, rfl, rfl⟩ := DataW.trod_bool ht h
  refine ⟨b, ?_, by simp [Rows.uptoBulk]⟩
  simp only [RelL, RelV, bV]; exact ⟨_, _, rfl, rfl, rfl⟩

/-- A row, its elements told of by Q. -/
theorem opens_row {α : Type} {e : TypeId} {sh : Option Nat} {toV : α → V} {Pr : α → Prop} {sz : α → Nat} (ht : P.underlying t = some (.slice e)) (hw : P.cellsOf e = width sh) (hpos : 0 < width sh)
    (he : ∀ n cs x, n < fuel → DataW.trod enc P W base (fun _ => true) held n e cs = some x → ∃ a, RelE (Gh.start W) W sh (toV a) (fun i => cs[i]?) ∧ Pr a ∧ sz a ≤ Rows.uptoBulk x.1)
    (h : DataW.trod enc P W base (fun _ => true) held fuel t cs = some x) : ∃ l : List α, RelL (Gh.start W) W [.sl sh (l.map toV) .no] cs ∧ (∀ a ∈ l, Pr a) ∧ (l.map sz).sum + 1 ≤ Rows.uptoBulk x.1 := by
  rcases DataW.trod_slice ht h with ⟨rfl, rfl⟩ | ⟨a, len, cap, elems, rest, n, rfl, rfl, rfl, _, hl, _, hel, hget, _, _⟩
  · refine ⟨[], ?_, by simp, by simp [Rows.uptoBulk]⟩
    simp only [RelL, RelV]
    exact ⟨_, _, rfl, ⟨none, 0, 0, rfl, rfl, Nat.le_refl _, trivial, .inl (by trivial)⟩, rfl⟩
  · rw [hw] at hget
    have hex : ∀ i, i < len → ∃ b : α, (∃ y, elems[i]? = some y ∧ sz b ≤ Rows.uptoBulk y.1) ∧ Pr b ∧ ∃ ds : List Value, ds.length = width sh ∧ (∀ j, j < width sh → W.cell? (a.add (i * width sh + j)) = ds[j]?) ∧ RelE (Gh.start W) W sh (toV b) (fun j => ds[j]?) := fun i hi => by
      have hg := hget i hi
      obtain ⟨y, hy⟩ : ∃ y, elems[i]? = some y := ⟨_, List.getElem?_eq_getElem (by omega)⟩
      rw [hy, Option.bind_eq_some_iff] at hg
      obtain ⟨ds, hc, htr⟩ := hg
      obtain ⟨_, hlen, hcell⟩ := World.cells?_some hc
      obtain ⟨b, h1, h2, h3⟩ := he n ds y (by omega) htr
      refine ⟨b, ⟨y, hy, h3⟩, h2, ds, hlen, fun j hj => ?_, h1⟩
      rw [← hcell j hj, show (a.add (i * width sh)).add j = a.add (i * width sh + j) from addr_add2 a _ _]
    obtain ⟨l, hll, hq⟩ := choose_row len hex
    refine ⟨l, ?_, fun b hb => ?_, ?_⟩
    · simp only [RelL, RelV]
      refine ⟨_, _, rfl, ⟨some a, len, cap, rfl, by simp [hll], hl, trivial, ?_⟩, rfl⟩
      cases len with
      | zero => exact .inl (by rw [List.length_eq_zero_iff.1 hll]; rfl)
      | succ m =>
        right
        obtain ⟨b0, hb0⟩ : ∃ b, l[0]? = some b := ⟨_, List.getElem?_eq_getElem (by omega)⟩
        obtain ⟨_, _, ds0, hl0, hc0, _⟩ := hq 0 b0 hb0
        have hy0 : W.cell? (a.add (0 * width sh + 0)) = ds0[0]? := hc0 0 hpos
        obtain ⟨y0, hy0'⟩ : ∃ y, ds0[0]? = some y := ⟨_, List.getElem?_eq_getElem (by omega)⟩
        rw [hy0'] at hy0
        have ha : a = ⟨a.block, a.off, none⟩ := by
          have := cell_spot hy0
          obtain ⟨b, o, s⟩ := a
          simp [Addr.add] at this ⊢
          exact this
        have hadd : ∀ i, a.add i = ⟨a.block, a.off + i, none⟩ := fun i => by rw [ha]; simp [Addr.add]
        refine ⟨a.block, a.off, by rw [← ha], ?_, relXs_of_get fun i u hu => ?_⟩
        · obtain ⟨b, hb⟩ : ∃ b, l[m]? = some b := ⟨_, List.getElem?_eq_getElem (by omega)⟩
          obtain ⟨_, _, ds, hld, hcd, _⟩ := hq m b hb
          obtain ⟨y, hy⟩ : ∃ y, ds[width sh - 1]? = some y := ⟨_, List.getElem?_eq_getElem (by omega)⟩
          have h1 := hcd (width sh - 1) (by omega)
          rw [hy, hadd] at h1
          have := start_lt (W := W) h1
          rw [Nat.add_mul]; omega
        · rw [List.getElem?_map, Option.map_eq_some_iff] at hu
          obtain ⟨b, hb, rfl⟩ := hu
          obtain ⟨_, _, ds, hld, hcd, hr⟩ := hq i b hb
          refine relE_congr hr fun j hj => ?_
          have h1 := hcd j hj
          rw [hadd] at h1
          rw [← h1]
          show cell W a.block (a.off + (i * width sh + j)) = _
          rfl
    · obtain ⟨i, hi⟩ := List.mem_iff_getElem?.1 hb
      exact (hq i b hi).2.1
    · have := bulk_sum (sz := sz) l elems (by omega) fun i b y hb hy => by
        obtain ⟨⟨y', hy', hs⟩, _⟩ := hq i b hb
        rw [hy] at hy'; rw [Option.some.inj hy']; exact hs
      simp only [Rows.uptoBulk]
      omega
/-- A row of texts. -/
theorem opens_strs {e : TypeId} (ht : P.underlying t = some (.slice e)) (he : P.underlying e = some .string) (hw : P.cellsOf e = 1)
    (h : DataW.trod enc P W base (fun _ => true) held fuel t cs = some x) : ∃ l : List (List UInt8), RelL (Gh.start W) W [.sl none (l.map str) .no] cs ∧ (l.map fun s => s.length + 1).sum + 1 ≤ Rows.uptoBulk x.1 := by
  obtain ⟨l, h1, _, h2⟩ := opens_row (sh := none) (toV := str) (Pr := fun _ => True) (sz := fun s : List UInt8 => s.length + 1) ht hw (by decide) (fun n cs x _ hx => by
    obtain ⟨s, hs, hb⟩ := opens_str he hx
    refine ⟨s, ?_, trivial, hb⟩
    simp only [RelL] at hs
    obtain ⟨y, _, rfl, hv, rfl⟩ := hs
    exact ⟨y, rfl, hv⟩) h
  exact ⟨l, h1, h2⟩
/-- An element of some cells. -/
theorem relE_cells {n : Nat} {vs : List V} {cs : List Value} (hl : cs.length = n) (h : RelL (Gh.start W) W vs cs) : RelE (Gh.start W) W (some n) (.agg vs) (fun i => cs[i]?) := by
  refine ⟨cs.toArray, by simp [hl], fun i _ => by simp, ?_⟩
  simp only [RelV]
  exact ⟨_, rfl, by simpa using h⟩
end
end Go.Sv
/- What the reading of an argument gives: values, conditions, patterns. -/
namespace Go.Sv
open Go Go.Proofs Go.RowKit Go.ChangeShapes Go.WideShapes Go.Proofs.YtdkbdmfhidimmaaDoor

section
variable {H : Type} {enc : TypeId × Value → H} {W : World} {base : Nat} {held : Bool} {fuel : Nat} {cs : List Value} {x : DataW H × List MemPlace}

theorem cI : Tryd.prog.cellsOf 3 = 1 := by kernel_rfl
theorem cL64 : Tryd.prog.cellsOf 2 = 1 := by kernel_rfl
theorem cB : Tryd.prog.cellsOf 4 = 1 := by kernel_rfl
theorem cS : Tryd.prog.cellsOf 9 = 1 := by kernel_rfl
theorem cVal : Tryd.prog.cellsOf 43 = 3 := by kernel_rfl
theorem cEx : Tryd.prog.cellsOf 46 = 7 := by kernel_rfl
theorem cExs : Tryd.prog.cellsOf 44 = 1 := by kernel_rfl
theorem cEl : Tryd.prog.cellsOf 73 = 11 := by kernel_rfl
theorem cEls : Tryd.prog.cellsOf 47 = 1 := by kernel_rfl
theorem cStrs : Tryd.prog.cellsOf 71 = 1 := by kernel_rfl
theorem cPa : Tryd.prog.cellsOf 49 = 4 := by kernel_rfl

theorem rel1 {g : Gh} {v : V} {c : Value} (h : RelL g W [v] [c]) : RelV g W v c := by
  simp only [RelL] at h
  obtain ⟨_, _, e, hv, e'⟩ := h
  obtain ⟨rfl, rfl⟩ := List.cons.inj e
  exact hv
theorem relCons {g : Gh} {v : V} {c : Value} {vs : List V} {cs : List Value} (h : RelV g W v c) (hs : RelL g W vs cs) : RelL g W (v :: vs) (c :: cs) := by
  simp only [RelL]; exact ⟨_, _, rfl, h, hs⟩

set_option maxRecDepth 100000 in
theorem opens_val (h : DataW.trod enc Tryd.prog W base (fun _ => true) held fuel 43 cs = some x) : ∃ v : Val, RelL (Gh.start W) W (valL v) cs ∧ I64 v.n ∧ v.s.length + 1 ≤ Rows.uptoBulk x.1 := by
  obtain ⟨xs, n, rfl, rfl, hl, hlen, hf⟩ := DataW.trod_struct Tryd.underlying43 h
  rw [cVal] at hl
  match cs, hl with
  | [c0, c1, c2], _ =>
    match xs, hlen with
    | [y0, y1, y2], _ =>
      have h0 : DataW.trod enc Tryd.prog W base (fun _ => true) held n 3 (List.take (Tryd.prog.cellsOf 3) (List.drop 0 [c0, c1, c2])) = some y0 := hf 0 _ rfl
      have h1 : DataW.trod enc Tryd.prog W base (fun _ => true) held n 2 (List.take (Tryd.prog.cellsOf 2) (List.drop 1 [c0, c1, c2])) = some y1 := hf 1 _ rfl
      have h2 : DataW.trod enc Tryd.prog W base (fun _ => true) held n 9 (List.take (Tryd.prog.cellsOf 9) (List.drop 2 [c0, c1, c2])) = some y2 := hf 2 _ rfl
      rw [cI] at h0
      rw [cL64] at h1
      rw [cS] at h2
      obtain ⟨k, r0, _, _⟩ := opens_i64 (cs := [c0]) Tryd.underlying3 h0
      obtain ⟨m, r1, b1, _⟩ := opens_i64 (cs := [c1]) Tryd.underlying2 h1
      obtain ⟨s, r2, b2⟩ := opens_str (cs := [c2]) Tryd.underlying9 h2
      refine ⟨⟨k, m, s⟩, relCons (rel1 r0) (relCons (rel1 r1) (relCons (rel1 r2) (by simp [RelL]))), b1, ?_⟩
      simp only [List.map_cons, List.map_nil, Rows.uptoBulk, Rows.uptoBulkAll]
      omega

set_option maxRecDepth 100000 in
theorem opens_ex : ∀ (fuel : Nat) (cs : List Value) (x : DataW H × List MemPlace), DataW.trod enc Tryd.prog W base (fun _ => true) held fuel 46 cs = some x →
    ∃ e : Ex, cs.length = 7 ∧ RelL (Gh.start W) W (exC e) cs ∧ exRg e ∧ exSize e ≤ Rows.uptoBulk x.1 := by
  intro fuel
  induction fuel using Nat.strongRecOn with
  | _ fuel ih =>
  intro cs x h
  obtain ⟨xs, n, rfl, rfl, hl, hlen, hf⟩ := DataW.trod_struct Tryd.underlying46 h
  rw [cEx] at hl
  match cs, hl with
  | [c0, c1, c2, c3, c4, c5, c6], _ =>
    match xs, hlen with
    | [y0, y1, y2, y3, y4], _ =>
      have h0 : DataW.trod enc Tryd.prog W base (fun _ => true) held n 3 (List.take (Tryd.prog.cellsOf 3) (List.drop 0 [c0, c1, c2, c3, c4, c5, c6])) = some y0 := hf 0 _ rfl
      have h1 : DataW.trod enc Tryd.prog W base (fun _ => true) held n 43 (List.take (Tryd.prog.cellsOf 43) (List.drop 1 [c0, c1, c2, c3, c4, c5, c6])) = some y1 := hf 1 _ rfl
      have h2 : DataW.trod enc Tryd.prog W base (fun _ => true) held n 9 (List.take (Tryd.prog.cellsOf 9) (List.drop 4 [c0, c1, c2, c3, c4, c5, c6])) = some y2 := hf 2 _ rfl
      have h3 : DataW.trod enc Tryd.prog W base (fun _ => true) held n 9 (List.take (Tryd.prog.cellsOf 9) (List.drop 5 [c0, c1, c2, c3, c4, c5, c6])) = some y3 := hf 3 _ rfl
      have h4 : DataW.trod enc Tryd.prog W base (fun _ => true) held n 44 (List.take (Tryd.prog.cellsOf 44) (List.drop 6 [c0, c1, c2, c3, c4, c5, c6])) = some y4 := hf 4 _ rfl
      rw [cI] at h0
      rw [cVal] at h1
      rw [cS] at h2
      rw [cS] at h3
      rw [cExs] at h4
      obtain ⟨o, r0, _, _⟩ := opens_i64 (cs := [c0]) Tryd.underlying3 h0
      obtain ⟨v, r1, b1, s1⟩ := opens_val (cs := [c1, c2, c3]) h1
      obtain ⟨a, r2, s2⟩ := opens_str (cs := [c4]) Tryd.underlying9 h2
      obtain ⟨f, r3, s3⟩ := opens_str (cs := [c5]) Tryd.underlying9 h3
      obtain ⟨l, r4, b4, s4⟩ := opens_row (cs := [c6]) (sh := some 7) (toV := exV) (Pr := exRg) (sz := exSize) Tryd.underlying44 cEx (by decide) (fun m ds y hm hy => by
        obtain ⟨e, q1, q2, q3, q4⟩ := ih m (by omega) ds y hy
        exact ⟨e, by rw [exV_eq]; exact relE_cells q1 q2, q3, q4⟩) h4
      refine ⟨.mk o v a f l, rfl, ?_, ?_, ?_⟩
      · have := relL_append r1 (relCons (rel1 r2) (relCons (rel1 r3) (relCons (rel1 r4) (by simp [RelL] : RelL (Gh.start W) W [] []))))
        exact relCons (rel1 r0) this
      · rw [exRg_eq]; exact ⟨b1, b4⟩
      · rw [exSize_eq]
        have e1 : exsSize l = (l.map exSize).sum := exsSize_sum l
        simp only [List.map_cons, List.map_nil, Rows.uptoBulk, Rows.uptoBulkAll, Ex.val, Ex.al, Ex.fd, Ex.kids]
        omega

set_option maxRecDepth 100000 in
theorem opens_el {fuel : Nat} {cs : List Value} {x : DataW H × List MemPlace} (h : DataW.trod enc Tryd.prog W base (fun _ => true) held fuel 73 cs = some x) :
    ∃ e : El, cs.length = 11 ∧ RelL (Gh.start W) W (elC e) cs ∧ exRg e.cond ∧ elSize e ≤ Rows.uptoBulk x.1 := by
  obtain ⟨xs, n, rfl, rfl, hl, hlen, hf⟩ := DataW.trod_struct Tryd.underlying73 h
  rw [cEl] at hl
  match cs, hl with
  | [c0, c1, c2, c3, c4, c5, c6, c7, c8, c9, c10], _ =>
    match xs, hlen with
    | [y0, y1, y2, y3, y4], _ =>
      have h0 : DataW.trod enc Tryd.prog W base (fun _ => true) held n 9 (List.take (Tryd.prog.cellsOf 9) (List.drop 0 [c0, c1, c2, c3, c4, c5, c6, c7, c8, c9, c10])) = some y0 := hf 0 _ rfl
      have h1 : DataW.trod enc Tryd.prog W base (fun _ => true) held n 71 (List.take (Tryd.prog.cellsOf 71) (List.drop 1 [c0, c1, c2, c3, c4, c5, c6, c7, c8, c9, c10])) = some y1 := hf 1 _ rfl
      have h2 : DataW.trod enc Tryd.prog W base (fun _ => true) held n 4 (List.take (Tryd.prog.cellsOf 4) (List.drop 2 [c0, c1, c2, c3, c4, c5, c6, c7, c8, c9, c10])) = some y2 := hf 2 _ rfl
      have h3 : DataW.trod enc Tryd.prog W base (fun _ => true) held n 4 (List.take (Tryd.prog.cellsOf 4) (List.drop 3 [c0, c1, c2, c3, c4, c5, c6, c7, c8, c9, c10])) = some y3 := hf 3 _ rfl
      have h4 : DataW.trod enc Tryd.prog W base (fun _ => true) held n 46 (List.take (Tryd.prog.cellsOf 46) (List.drop 4 [c0, c1, c2, c3, c4, c5, c6, c7, c8, c9, c10])) = some y4 := hf 4 _ rfl
      rw [cS] at h0
      rw [cStrs] at h1
      rw [cB] at h2
      rw [cB] at h3
      rw [cEx] at h4
      obtain ⟨a, r0, s0⟩ := opens_str (cs := [c0]) Tryd.underlying9 h0
      obtain ⟨l, r1, s1⟩ := opens_strs (cs := [c1]) Tryd.underlying71 Tryd.underlying9 cS h1
      obtain ⟨p, r2, _⟩ := opens_bool (cs := [c2]) Tryd.underlying4 h2
      obtain ⟨q, r3, _⟩ := opens_bool (cs := [c3]) Tryd.underlying4 h3
      obtain ⟨z, _, r4, b4, s4⟩ := opens_ex n [c4, c5, c6, c7, c8, c9, c10] _ h4
      refine ⟨⟨a, l, p, q, z⟩, rfl, relCons (rel1 r0) (relCons (rel1 r1) (relCons (rel1 r2) (relCons (rel1 r3) r4))), b4, ?_⟩
      simp only [elSize, List.map_cons, List.map_nil, Rows.uptoBulk, Rows.uptoBulkAll]
      omega

set_option maxRecDepth 100000 in
theorem opens_pa {fuel : Nat} {cs : List Value} {x : DataW H × List MemPlace} (h : DataW.trod enc Tryd.prog W base (fun _ => true) held fuel 49 cs = some x) :
    ∃ p : Pa, cs.length = 4 ∧ RelL (Gh.start W) W (paC p) cs ∧ (∀ e ∈ p.els, exRg e.cond) ∧ I64 p.within ∧ paSize p ≤ Rows.uptoBulk x.1 := by
  obtain ⟨xs, n, rfl, rfl, hl, hlen, hf⟩ := DataW.trod_struct Tryd.underlying49 h
  rw [cPa] at hl
  match cs, hl with
  | [c0, c1, c2, c3], _ =>
    match xs, hlen with
    | [y0, y1, y2, y3], _ =>
      have h0 : DataW.trod enc Tryd.prog W base (fun _ => true) held n 47 (List.take (Tryd.prog.cellsOf 47) (List.drop 0 [c0, c1, c2, c3])) = some y0 := hf 0 _ rfl
      have h1 : DataW.trod enc Tryd.prog W base (fun _ => true) held n 3 (List.take (Tryd.prog.cellsOf 3) (List.drop 1 [c0, c1, c2, c3])) = some y1 := hf 1 _ rfl
      have h2 : DataW.trod enc Tryd.prog W base (fun _ => true) held n 9 (List.take (Tryd.prog.cellsOf 9) (List.drop 2 [c0, c1, c2, c3])) = some y2 := hf 2 _ rfl
      have h3 : DataW.trod enc Tryd.prog W base (fun _ => true) held n 4 (List.take (Tryd.prog.cellsOf 4) (List.drop 3 [c0, c1, c2, c3])) = some y3 := hf 3 _ rfl
      rw [cEls] at h0
      rw [cI] at h1
      rw [cS] at h2
      rw [cB] at h3
      obtain ⟨l, r0, b0, s0⟩ := opens_row (cs := [c0]) (sh := some 11) (toV := elV) (Pr := fun e => exRg e.cond) (sz := elSize) Tryd.underlying47 cEl (by decide) (fun m ds y hm hy => by
        obtain ⟨e, q1, q2, q3, q4⟩ := opens_el hy
        exact ⟨e, relE_cells q1 q2, q3, q4⟩) h0
      obtain ⟨w, r1, b1, _⟩ := opens_i64 (cs := [c1]) Tryd.underlying3 h1
      obtain ⟨s, r2, s2⟩ := opens_str (cs := [c2]) Tryd.underlying9 h2
      obtain ⟨q, r3, _⟩ := opens_bool (cs := [c3]) Tryd.underlying4 h3
      refine ⟨⟨l, w, s, q⟩, rfl, relCons (rel1 r0) (relCons (rel1 r1) (relCons (rel1 r2) (relCons (rel1 r3) (by simp [RelL])))), b0, b1, ?_⟩
      simp only [paSize, List.map_cons, List.map_nil, Rows.uptoBulk, Rows.uptoBulkAll]
      omega
end
end Go.Sv
/- What a pattern is: the program's. -/
namespace Go.Sv
open Go Go.Proofs

def elZ : List V := [str [], .sl none [] .zero, bV false, bV false, i64V 0, i64V 0, i64V 0, str [], str [], str [], .sl none [] .zero]
theorem splice_el (e : El) : splice elZ 0 (elC e) = elC e := rfl
theorem els_at {l : List El} {n : Nat} {e : El} (h : l[n]? = some e) : (l.map elV)[n]? = some (.agg (elC e)) := by rw [List.getElem?_map, h]; rfl

set_option maxRecDepth 100000 in
theorem pat1_call (b : Nat) (e x : El) : SCall Tryd.prog 69 [.agg (elC x), .loc b 0] [.obj b (elC e)] fun v R' => R' = [.obj b (elC e)] ∧ v = bV (decide (x.al = e.al)) := by
  refine scall_of (live := []) (ords := []) Tryd.func69 rfl (by kernel_rfl) (by kernel_rfl) (Nat.le_of_ble_eq_true rfl) ?_
  (conv => arg 2; whnf); refine wp_load (cs := elC e) 0 rfl rfl ?_
  (conv => arg 2; whnf); refine w_ret1 rfl (Vle.refl _) (List.Sublist.refl _) ⟨rfl, cBool (strEq _ _)⟩

set_option maxRecDepth 100000 in
theorem indexel_call (b : Nat) (e : El) (l : List El) (hl : l.length < 2 ^ 60) : SCall Tryd.prog 104 [elsV l, .fn (.func 69) [] [.loc b 0]] [.obj b (elC e)] fun v R' => R' = [.obj b (elC e)] ∧ ∃ i : Int, v = i64V i ∧ decide (0 ≤ i) = l.any (fun x => decide (x.al = e.al)) := by
  refine scall_of (live := []) (ords := []) Tryd.func104 rfl (by kernel_rfl) (by kernel_rfl) (Nat.le_of_ble_eq_true rfl) ?_
  (conv => arg 2; whnf); refine wp_loop (fun m fr R => ∃ n : Nat, m = l.length - n ∧ n ≤ l.length ∧ R = [.obj b (elC e)] ∧ (l.take n).any (fun x => decide (x.al = e.al)) = false ∧ fr = frL [(0, elsV l), (1, .fn (.func 69) [] [.loc b 0]), (7, i64V l.length), (8, i64V n)])
    l.length _ _ (.cons (.refl _) (.cons (.refl _) (.cons (Vle.eq ?_) (.cons (.refl _) (.nil _))))) (List.Sublist.refl _) ⟨0, rfl, Nat.zero_le _, rfl, rfl, rfl⟩ ?_
  · show V.c (.int .i64 (l.map elV).length) = _
    rw [List.length_map]; rfl
  rintro m fr R ⟨n, rfl, hn, rfl, ha, rfl⟩
  (conv => arg 2; whnf); refine wp_ite (fun h => ?_) (fun h => ?_)
  · have h : n < l.length := by have := of_decide_eq_true h; omega
    obtain ⟨y, hy⟩ : ∃ y, l[n]? = some y := ⟨_, List.getElem?_eq_getElem h⟩
    (conv => arg 2; whnf); refine wp_elem n (.agg (elC y)) rfl (els_at hy) (Vle.refl _) ?_
    (conv => arg 2; whnf); refine wp_call (pat1_call b e y) ?_
    rintro v R' ⟨rfl, rfl⟩
    (conv => arg 2; whnf); refine wp_ite (fun h1 => ?_) (fun h1 => ?_)
    · (conv => arg 2; whnf)
      refine wp_leaf (loop_ret ?_)
      (conv => arg 2; whnf); refine w_ret1 rfl (Vle.refl _) (List.Sublist.refl _) ⟨rfl, n, rfl, ?_⟩
      rw [decide_eq_true (by omega : (0 : Int) ≤ n), show l = l.take n ++ y :: l.drop (n + 1) by rw [← drop_at hy, List.take_append_drop]]
      simp [of_decide_eq_true h1]
    · (conv => arg 2; whnf)
      refine wp_leaf (loop_next (l.length - (n + 1)) _ _ (by omega) (.cons (.refl _) (.cons (.refl _) (.cons (.refl _) (.cons (Vle.inc n rfl (by omega)) (.nil _))))) (List.Sublist.refl _) ⟨n + 1, rfl, h, rfl, ?_, rfl⟩)
      rw [List.take_add_one, hy, List.any_append, ha]
      simp [of_decide_eq_false h1]
  · have h : n = l.length := by have := of_decide_eq_false h; omega
    subst h
    rw [List.take_length] at ha
    (conv => arg 2; whnf)
    refine wp_leaf (loop_exit ?_)
    (conv => arg 2; whnf); refine w_ret1 rfl (Vle.refl _) (List.Sublist.refl _) ⟨rfl, -1, rfl, ha.symm⟩

set_option maxRecDepth 100000 in
theorem hasel_call (b : Nat) (e : El) (l : List El) (hl : l.length < 2 ^ 60) : SCall Tryd.prog 68 [elsV l, .fn (.func 69) [] [.loc b 0]] [.obj b (elC e)] fun v R' => R' = [.obj b (elC e)] ∧ v = bV (l.any (fun x => decide (x.al = e.al))) := by
  refine scall_of (live := []) (ords := []) Tryd.func68 rfl (by kernel_rfl) (by kernel_rfl) (Nat.le_of_ble_eq_true rfl) ?_
  (conv => arg 2; whnf); refine wp_call (indexel_call b e l hl) ?_
  rintro v R' ⟨rfl, i, rfl, hi⟩
  (conv => arg 2; whnf); refine w_ret1 rfl (Vle.refl _) (List.Sublist.refl _) ⟨rfl, cBool hi⟩

theorem ntAt_of {l : List El} {n : Nat} {e : El} (h : l[n]? = some e) : ntAt l n = e.nt := by
  rw [ntAt, getDx (a := e.nt)]; rw [List.getElem?_map, h]; rfl

theorem isPa_few {p : Pa} (h : p.els.length < 1) : isPaB p = false := by rw [isPaB, decide_eq_false (by omega : ¬ 1 ≤ p.els.length)]; rfl
theorem isPa_many {p : Pa} (h : 5 < p.els.length) : isPaB p = false := by rw [isPaB, decide_eq_false (by omega : ¬ p.els.length ≤ 5)]; simp
theorem isPa_first {p : Pa} (h : ntAt p.els 0 = true) : isPaB p = false := by rw [isPaB, h]; simp
theorem isPa_last {p : Pa} (h : ntAt p.els (p.els.length - 1) = true) : isPaB p = false := by rw [isPaB, h]; simp
theorem isPa_w0 {p : Pa} (h : p.within < 0) : isPaB p = false := by rw [isPaB, decide_eq_false (by omega : ¬ 0 ≤ p.within)]; simp
theorem isPa_w1 {p : Pa} (h : 1000 < p.within) : isPaB p = false := by rw [isPaB, decide_eq_false (by omega : ¬ p.within ≤ 1000)]; simp
theorem isPa_by {p : Pa} (h : p.by_ ≠ []) (h' : isNm p.by_ = false) : isPaB p = false := by rw [isPaB, h', decide_eq_false h]; simp
theorem isPa_el {p : Pa} {i : Nat} {e : El} (h : p.els[i]? = some e) (h' : okAtB p.els i e = false) : isPaB p = false := by
  have : ((List.range p.els.length).all fun i => okAtB p.els i (p.els.getD i el0)) = false :=
    List.all_eq_false.2 ⟨i, List.mem_range.2 (List.getElem?_eq_some_iff.1 h).1, by rw [getDx h, h']; simp⟩
  rw [isPaB, this]; simp
theorem isPa_end {p : Pa} (h1 : 1 ≤ p.els.length) (h2 : p.els.length ≤ 5) (h3 : ntAt p.els 0 = false) (h4 : ntAt p.els (p.els.length - 1) = false) (h5 : 0 ≤ p.within) (h6 : p.within ≤ 1000) (h7 : p.by_ = [] ∨ isNm p.by_ = true)
    (h8 : ((List.range p.els.length).all fun i => okAtB p.els i (p.els.getD i el0)) = true) : isPaB p = true := by
  rw [isPaB, decide_eq_true h1, decide_eq_true h2, h3, h4, decide_eq_true h5, decide_eq_true h6, h8]
  rcases h7 with h7 | h7 <;> simp [h7]
theorem okAt_el {l : List El} {i : Nat} {e : El} (h : isElB e = false) : okAtB l i e = false := by rw [okAtB, h]; rfl
theorem okAt_twice {l : List El} {i : Nat} {e : El} (h : twiceB l i e.al = true) : okAtB l i e = false := by rw [okAtB, h]; simp
theorem okAt_nt {l : List El} {i : Nat} {e : El} (h : e.nt = true) (h0 : 0 < i) (h' : ntAt l (i - 1) = true) : okAtB l i e = false := by rw [okAtB, h, h', decide_eq_true h0]; simp
theorem okAt_end {l : List El} {i : Nat} {e : El} (h1 : isElB e = true) (h2 : twiceB l i e.al = false) (h3 : (e.nt && (decide (0 < i) && ntAt l (i - 1))) = false) : okAtB l i e = true := by rw [okAtB, h1, h2, h3]; rfl
theorem take_els (l : List El) (n : Nat) : (l.map elV).take n = (l.take n).map elV := by rw [List.map_take]
end Go.Sv
/- What a pattern is: the program's. -/
namespace Go.Sv
open Go Go.Proofs

theorem elsV_take (l : List El) (n : Nat) : V.sl (some 11) ((l.map elV).take n) .no = elsV (l.take n) := by rw [elsV, List.map_take]
theorem nilS_ne {l : List UInt8} : (!((S l).toList == (⟨#[]⟩ : ByteArray).toList)) = !decide (l = []) := by rw [nilS]

set_option maxRecDepth 100000 in
theorem pattern_call (p : Pa) (h : PaBd p) : PCall Tryd.prog 43 [.agg (paC p)] (bV (isPaB p)) := by
  obtain ⟨hl, he, hb, hw1, hw2⟩ := h
  have fb := name_call p.by_ (by omega)
  refine scall_of (live := []) (ords := []) Tryd.func43 rfl (by kernel_rfl) (by kernel_rfl) (Nat.le_of_ble_eq_true rfl) ?_
  (conv => arg 2; whnf); refine wp_ite (fun h1 => ?_) (fun h1 => ?_)
  · have h1 : p.els.length < 1 := by have := of_decide_eq_true h1; rw [List.length_map] at this; omega
    (repeat ((conv => arg 2; whnf); first | refine wp_ite (fun _ => ?_) (fun h => Bool.noConfusion h) | refine wp_ite (fun h => Bool.noConfusion h) (fun _ => ?_)))
    (conv => arg 2; whnf); refine w_retp rfl (Vle.eq (cBool (isPa_few h1).symm))
  have h1 : 1 ≤ p.els.length := by have := of_decide_eq_false h1; rw [List.length_map] at this; omega
  (conv => arg 2; whnf); refine wp_ite (fun h2 => ?_) (fun h2 => ?_)
  · have h2 : 5 < p.els.length := by have := of_decide_eq_true h2; rw [List.length_map] at this; omega
    (repeat ((conv => arg 2; whnf); first | refine wp_ite (fun _ => ?_) (fun h => Bool.noConfusion h) | refine wp_ite (fun h => Bool.noConfusion h) (fun _ => ?_)))
    (conv => arg 2; whnf); refine w_retp rfl (Vle.eq (cBool (isPa_many h2).symm))
  have h2 : p.els.length ≤ 5 := by have := of_decide_eq_false h2; rw [List.length_map] at this; omega
  obtain ⟨e0, he0⟩ : ∃ e, p.els[0]? = some e := ⟨_, List.getElem?_eq_getElem (by omega)⟩
  obtain ⟨e1, he1⟩ : ∃ e, p.els[p.els.length - 1]? = some e := ⟨_, List.getElem?_eq_getElem (by omega)⟩
  (conv => arg 2; whnf); refine wp_elem 0 (.agg (elC e0)) rfl (els_at he0) (Vle.refl _) ?_
  (conv => arg 2; whnf); refine wp_ite (fun h3 => ?_) (fun h3 => ?_)
  · have h3 : ntAt p.els 0 = true := (ntAt_of he0).trans h3
    (repeat ((conv => arg 2; whnf); first | refine wp_ite (fun _ => ?_) (fun h => Bool.noConfusion h) | refine wp_ite (fun h => Bool.noConfusion h) (fun _ => ?_)))
    (conv => arg 2; whnf); refine w_retp rfl (Vle.eq (cBool (isPa_first h3).symm))
  have h3 : ntAt p.els 0 = false := (ntAt_of he0).trans h3
  have ws : IntKind.i64.wrap (((p.els.map elV).length : Int) - 1) = ((p.els.length - 1 : Nat) : Int) := by
    rw [List.length_map]; exact wsub (by omega) (by omega) (by omega)
  (conv => arg 2; whnf); refine wp_elem (p.els.length - 1) (.agg (elC e1)) ws (els_at he1) (Vle.refl _) ?_
  (conv => arg 2; whnf); refine wp_ite (fun h4 => ?_) (fun h4 => ?_)
  · have h4 : ntAt p.els (p.els.length - 1) = true := (ntAt_of he1).trans h4
    (repeat ((conv => arg 2; whnf); first | refine wp_ite (fun _ => ?_) (fun h => Bool.noConfusion h) | refine wp_ite (fun h => Bool.noConfusion h) (fun _ => ?_)))
    (conv => arg 2; whnf); refine w_retp rfl (Vle.eq (cBool (isPa_last h4).symm))
  have h4 : ntAt p.els (p.els.length - 1) = false := (ntAt_of he1).trans h4
  (conv => arg 2; whnf); refine wp_ite (fun h5 => ?_) (fun h5 => ?_)
  · have h5 : p.within < 0 := of_decide_eq_true h5
    (repeat ((conv => arg 2; whnf); first | refine wp_ite (fun _ => ?_) (fun h => Bool.noConfusion h) | refine wp_ite (fun h => Bool.noConfusion h) (fun _ => ?_)))
    (conv => arg 2; whnf); refine w_retp rfl (Vle.eq (cBool (isPa_w0 h5).symm))
  have h5 : 0 ≤ p.within := by have := of_decide_eq_false h5; omega
  (conv => arg 2; whnf); refine wp_ite (fun h6 => ?_) (fun h6 => ?_)
  · have h6 : 1000 < p.within := of_decide_eq_true h6
    (repeat ((conv => arg 2; whnf); first | refine wp_ite (fun _ => ?_) (fun h => Bool.noConfusion h) | refine wp_ite (fun h => Bool.noConfusion h) (fun _ => ?_)))
    (conv => arg 2; whnf); refine w_retp rfl (Vle.eq (cBool (isPa_w1 h6).symm))
  have h6 : p.within ≤ 1000 := by have := of_decide_eq_false h6; omega
  (conv => arg 2; whnf); refine wp_ite (fun hq => ?_) (fun hq => ?_)
  · have hq : p.by_ ≠ [] := fun e => by
      have := (nilS_ne (l := p.by_)).symm.trans hq
      rw [e] at this; cases this
    (conv => arg 2; whnf); refine wp_pcall fb ?_
    (conv => arg 2; whnf); refine wp_ite (fun hr => ?_) (fun hr => ?_)
    · have hr : isNm p.by_ = false := by simpa using hr
      (repeat ((conv => arg 2; whnf); first | refine wp_ite (fun _ => ?_) (fun h => Bool.noConfusion h) | refine wp_ite (fun h => Bool.noConfusion h) (fun _ => ?_)))
      (conv => arg 2; whnf); refine w_retp rfl (Vle.eq (cBool (isPa_by hq hr).symm))
    have hr : isNm p.by_ = true := by simpa using hr
    have h7 : p.by_ = [] ∨ isNm p.by_ = true := .inr hr
    (repeat ((conv => arg 2; whnf); first | refine wp_ite (fun _ => ?_) (fun h => Bool.noConfusion h) | refine wp_ite (fun h => Bool.noConfusion h) (fun _ => ?_)))
    (conv => arg 2; whnf); refine wp_loop (fun m fr R => ∃ n : Nat, m = p.els.length - n ∧ n ≤ p.els.length ∧ R = [] ∧ ((List.range n).all fun i => okAtB p.els i (p.els.getD i el0)) = true ∧ fr = frL [(1, .pt (some 4) (.agg (paC p)) 0), (54, elsV p.els), (55, i64V p.els.length), (56, i64V n)])
      p.els.length _ _ (.cons (.refl _) (.cons (.refl _) (.cons (Vle.eq ?_) (.cons (.refl _) (.nil _))))) (List.Sublist.refl _) ⟨0, rfl, Nat.zero_le _, rfl, rfl, rfl⟩ ?_
    · show V.c (.int .i64 (p.els.map elV).length) = _
      rw [List.length_map]; rfl
    rintro m fr R ⟨n, rfl, hn, rfl, hall, rfl⟩
    (conv => arg 2; whnf); refine wp_ite (fun h => ?_) (fun h => ?_)
    · have h : n < p.els.length := by have := of_decide_eq_true h; omega
      obtain ⟨e, hen⟩ : ∃ e, p.els[n]? = some e := ⟨_, List.getElem?_eq_getElem h⟩
      have fe := iselem_call e (he e (List.mem_of_getElem? hen))
      (conv => arg 2; whnf); refine wp_elem n (.agg (elC e)) rfl (els_at hen) (Vle.refl _) ?_
      (conv => arg 2; whnf); refine wp_allocE elZ rfl fun b => ?_
      (conv => arg 2; whnf); refine wp_storeE (cs := elZ) 0 0 (elC e) rfl rfl (VleL.refl _) (Nat.le_refl _) rfl (R' := [.obj b (elC e)]) rfl ?_
      have fh := hasel_call b e (p.els.take n) (by rw [List.length_take]; omega)
      (conv => arg 2; whnf); refine wp_need (by rw [List.length_map]; omega) ?_
      (conv => arg 2; whnf); refine wp_callV [] [.obj b (elC e)] [] rfl (.cons (Vle.eq (elsV_take p.els n)) (.cons (.refl _) .nil)) fh ?_
      rintro v R1 ⟨rfl, rfl⟩
      (conv => arg 2; whnf); refine wp_load (cs := elC e) 0 rfl rfl ?_
      (conv => arg 2; whnf); refine wp_pcall fe ?_
      (conv => arg 2; whnf); refine wp_ite (fun g1 => ?_) (fun g1 => ?_)
      · have g1 : isElB e = false := by simpa using g1
        (repeat ((conv => arg 2; whnf); first | refine wp_ite (fun _ => ?_) (fun h => Bool.noConfusion h) | refine wp_ite (fun h => Bool.noConfusion h) (fun _ => ?_)))
        (conv => arg 2; whnf)
        refine wp_leaf (loop_ret ?_)
        (conv => arg 2; whnf); refine w_retp rfl (Vle.eq (cBool (isPa_el hen (okAt_el g1)).symm))
      have g1 : isElB e = true := by simpa using g1
      (conv => arg 2; whnf); refine wp_ite (fun g2 => ?_) (fun g2 => ?_)
      · have g2 : twiceB p.els n e.al = true := g2
        (repeat ((conv => arg 2; whnf); first | refine wp_ite (fun _ => ?_) (fun h => Bool.noConfusion h) | refine wp_ite (fun h => Bool.noConfusion h) (fun _ => ?_)))
        (conv => arg 2; whnf)
        refine wp_leaf (loop_ret ?_)
        (conv => arg 2; whnf); refine w_retp rfl (Vle.eq (cBool (isPa_el hen (okAt_twice g2)).symm))
      have g2 : twiceB p.els n e.al = false := g2
      have next : (e.nt && (decide (0 < n) && ntAt p.els (n - 1))) = false → ((List.range (n + 1)).all fun i => okAtB p.els i (p.els.getD i el0)) = true := fun g3 => by
        rw [List.range_succ, List.all_append, hall]
        simp only [List.all_cons, List.all_nil]
        rw [getDx hen, okAt_end g1 g2 g3]; rfl
      (conv => arg 2; whnf); refine wp_load (cs := elC e) 0 rfl rfl ?_
      (conv => arg 2; whnf); refine wp_ite (fun g3 => ?_) (fun g3 => ?_)
      · have g3 : e.nt = true := g3
        have n0 : 0 < n := by
          rcases Nat.eq_zero_or_pos n with n0 | n0
          · subst n0
            rw [ntAt_of hen, g3] at h3; cases h3
          · exact n0
        obtain ⟨y, hy⟩ : ∃ e, p.els[n - 1]? = some e := ⟨_, List.getElem?_eq_getElem (by omega)⟩
        (conv => arg 2; whnf); refine wp_elem (n - 1) (.agg (elC y)) ((wsub (by omega : ((n : Nat) : Int) - 1 = ((n - 1 : Nat) : Int)) (by omega) (by omega))) (els_at hy) (Vle.refl _) ?_
        (conv => arg 2; whnf); refine wp_ite (fun g4 => ?_) (fun g4 => ?_)
        · have g4 : ntAt p.els (n - 1) = true := (ntAt_of hy).trans g4
          (repeat ((conv => arg 2; whnf); first | refine wp_ite (fun _ => ?_) (fun h => Bool.noConfusion h) | refine wp_ite (fun h => Bool.noConfusion h) (fun _ => ?_)))
          (conv => arg 2; whnf)
          refine wp_leaf (loop_ret ?_)
          (conv => arg 2; whnf); refine w_retp rfl (Vle.eq (cBool (isPa_el hen (okAt_nt g3 n0 g4)).symm))
        · have g4 : ntAt p.els (n - 1) = false := (ntAt_of hy).trans g4
          (repeat ((conv => arg 2; whnf); first | refine wp_ite (fun _ => ?_) (fun h => Bool.noConfusion h) | refine wp_ite (fun h => Bool.noConfusion h) (fun _ => ?_)))
          (conv => arg 2; whnf)
          refine wp_leaf (loop_next (p.els.length - (n + 1)) _ _ (by omega) (.cons (.refl _) (.cons (.refl _) (.cons (.refl _) (.cons (Vle.inc n rfl (by omega)) (.nil _))))) (List.nil_sublist _) ⟨n + 1, rfl, h, rfl, next (by rw [g4]; simp), rfl⟩)
      · have g3 : e.nt = false := g3
        (repeat ((conv => arg 2; whnf); first | refine wp_ite (fun _ => ?_) (fun h => Bool.noConfusion h) | refine wp_ite (fun h => Bool.noConfusion h) (fun _ => ?_)))
        (conv => arg 2; whnf)
        refine wp_leaf (loop_next (p.els.length - (n + 1)) _ _ (by omega) (.cons (.refl _) (.cons (.refl _) (.cons (.refl _) (.cons (Vle.inc n rfl (by omega)) (.nil _))))) (List.nil_sublist _) ⟨n + 1, rfl, h, rfl, next (by rw [g3]; rfl), rfl⟩)
    · have h : n = p.els.length := by have := of_decide_eq_false h; omega
      subst h
      (conv => arg 2; whnf)
      refine wp_leaf (loop_exit ?_)
      (conv => arg 2; whnf); refine w_retp rfl (Vle.eq (cBool (isPa_end h1 h2 h3 h4 h5 h6 h7 hall).symm))
  · have hq : p.by_ = [] := Classical.byContradiction fun e => by
      have := (nilS_ne (l := p.by_)).symm.trans hq
      rw [decide_eq_false e] at this; cases this
    have h7 : p.by_ = [] ∨ isNm p.by_ = true := .inl hq
    (repeat ((conv => arg 2; whnf); first | refine wp_ite (fun _ => ?_) (fun h => Bool.noConfusion h) | refine wp_ite (fun h => Bool.noConfusion h) (fun _ => ?_)))
    (conv => arg 2; whnf); refine wp_loop (fun m fr R => ∃ n : Nat, m = p.els.length - n ∧ n ≤ p.els.length ∧ R = [] ∧ ((List.range n).all fun i => okAtB p.els i (p.els.getD i el0)) = true ∧ fr = frL [(1, .pt (some 4) (.agg (paC p)) 0), (54, elsV p.els), (55, i64V p.els.length), (56, i64V n)])
      p.els.length _ _ (.cons (.refl _) (.cons (.refl _) (.cons (Vle.eq ?_) (.cons (.refl _) (.nil _))))) (List.Sublist.refl _) ⟨0, rfl, Nat.zero_le _, rfl, rfl, rfl⟩ ?_
    · show V.c (.int .i64 (p.els.map elV).length) = _
      rw [List.length_map]; rfl
    rintro m fr R ⟨n, rfl, hn, rfl, hall, rfl⟩
    (conv => arg 2; whnf); refine wp_ite (fun h => ?_) (fun h => ?_)
    · have h : n < p.els.length := by have := of_decide_eq_true h; omega
      obtain ⟨e, hen⟩ : ∃ e, p.els[n]? = some e := ⟨_, List.getElem?_eq_getElem h⟩
      have fe := iselem_call e (he e (List.mem_of_getElem? hen))
      (conv => arg 2; whnf); refine wp_elem n (.agg (elC e)) rfl (els_at hen) (Vle.refl _) ?_
      (conv => arg 2; whnf); refine wp_allocE elZ rfl fun b => ?_
      (conv => arg 2; whnf); refine wp_storeE (cs := elZ) 0 0 (elC e) rfl rfl (VleL.refl _) (Nat.le_refl _) rfl (R' := [.obj b (elC e)]) rfl ?_
      have fh := hasel_call b e (p.els.take n) (by rw [List.length_take]; omega)
      (conv => arg 2; whnf); refine wp_need (by rw [List.length_map]; omega) ?_
      (conv => arg 2; whnf); refine wp_callV [] [.obj b (elC e)] [] rfl (.cons (Vle.eq (elsV_take p.els n)) (.cons (.refl _) .nil)) fh ?_
      rintro v R1 ⟨rfl, rfl⟩
      (conv => arg 2; whnf); refine wp_load (cs := elC e) 0 rfl rfl ?_
      (conv => arg 2; whnf); refine wp_pcall fe ?_
      (conv => arg 2; whnf); refine wp_ite (fun g1 => ?_) (fun g1 => ?_)
      · have g1 : isElB e = false := by simpa using g1
        (repeat ((conv => arg 2; whnf); first | refine wp_ite (fun _ => ?_) (fun h => Bool.noConfusion h) | refine wp_ite (fun h => Bool.noConfusion h) (fun _ => ?_)))
        (conv => arg 2; whnf)
        refine wp_leaf (loop_ret ?_)
        (conv => arg 2; whnf); refine w_retp rfl (Vle.eq (cBool (isPa_el hen (okAt_el g1)).symm))
      have g1 : isElB e = true := by simpa using g1
      (conv => arg 2; whnf); refine wp_ite (fun g2 => ?_) (fun g2 => ?_)
      · have g2 : twiceB p.els n e.al = true := g2
        (repeat ((conv => arg 2; whnf); first | refine wp_ite (fun _ => ?_) (fun h => Bool.noConfusion h) | refine wp_ite (fun h => Bool.noConfusion h) (fun _ => ?_)))
        (conv => arg 2; whnf)
        refine wp_leaf (loop_ret ?_)
        (conv => arg 2; whnf); refine w_retp rfl (Vle.eq (cBool (isPa_el hen (okAt_twice g2)).symm))
      have g2 : twiceB p.els n e.al = false := g2
      have next : (e.nt && (decide (0 < n) && ntAt p.els (n - 1))) = false → ((List.range (n + 1)).all fun i => okAtB p.els i (p.els.getD i el0)) = true := fun g3 => by
        rw [List.range_succ, List.all_append, hall]
        simp only [List.all_cons, List.all_nil]
        rw [getDx hen, okAt_end g1 g2 g3]; rfl
      (conv => arg 2; whnf); refine wp_load (cs := elC e) 0 rfl rfl ?_
      (conv => arg 2; whnf); refine wp_ite (fun g3 => ?_) (fun g3 => ?_)
      · have g3 : e.nt = true := g3
        have n0 : 0 < n := by
          rcases Nat.eq_zero_or_pos n with n0 | n0
          · subst n0
            rw [ntAt_of hen, g3] at h3; cases h3
          · exact n0
        obtain ⟨y, hy⟩ : ∃ e, p.els[n - 1]? = some e := ⟨_, List.getElem?_eq_getElem (by omega)⟩
        (conv => arg 2; whnf); refine wp_elem (n - 1) (.agg (elC y)) ((wsub (by omega : ((n : Nat) : Int) - 1 = ((n - 1 : Nat) : Int)) (by omega) (by omega))) (els_at hy) (Vle.refl _) ?_
        (conv => arg 2; whnf); refine wp_ite (fun g4 => ?_) (fun g4 => ?_)
        · have g4 : ntAt p.els (n - 1) = true := (ntAt_of hy).trans g4
          (repeat ((conv => arg 2; whnf); first | refine wp_ite (fun _ => ?_) (fun h => Bool.noConfusion h) | refine wp_ite (fun h => Bool.noConfusion h) (fun _ => ?_)))
          (conv => arg 2; whnf)
          refine wp_leaf (loop_ret ?_)
          (conv => arg 2; whnf); refine w_retp rfl (Vle.eq (cBool (isPa_el hen (okAt_nt g3 n0 g4)).symm))
        · have g4 : ntAt p.els (n - 1) = false := (ntAt_of hy).trans g4
          (repeat ((conv => arg 2; whnf); first | refine wp_ite (fun _ => ?_) (fun h => Bool.noConfusion h) | refine wp_ite (fun h => Bool.noConfusion h) (fun _ => ?_)))
          (conv => arg 2; whnf)
          refine wp_leaf (loop_next (p.els.length - (n + 1)) _ _ (by omega) (.cons (.refl _) (.cons (.refl _) (.cons (.refl _) (.cons (Vle.inc n rfl (by omega)) (.nil _))))) (List.nil_sublist _) ⟨n + 1, rfl, h, rfl, next (by rw [g4]; simp), rfl⟩)
      · have g3 : e.nt = false := g3
        (repeat ((conv => arg 2; whnf); first | refine wp_ite (fun _ => ?_) (fun h => Bool.noConfusion h) | refine wp_ite (fun h => Bool.noConfusion h) (fun _ => ?_)))
        (conv => arg 2; whnf)
        refine wp_leaf (loop_next (p.els.length - (n + 1)) _ _ (by omega) (.cons (.refl _) (.cons (.refl _) (.cons (.refl _) (.cons (Vle.inc n rfl (by omega)) (.nil _))))) (List.nil_sublist _) ⟨n + 1, rfl, h, rfl, next (by rw [g3]; rfl), rfl⟩)
    · have h : n = p.els.length := by have := of_decide_eq_false h; omega
      subst h
      (conv => arg 2; whnf)
      refine wp_leaf (loop_exit ?_)
      (conv => arg 2; whnf); refine w_retp rfl (Vle.eq (cBool (isPa_end h1 h2 h3 h4 h5 h6 h7 hall).symm))
end Go.Sv
/- What a pattern is: the reference's. -/
namespace Go.Sv
open Go Go.Proofs

def aliasI (l : List El) (a : List UInt8) : Int := if l.any (fun x => decide (x.al = a)) then (l.findIdx (fun x => decide (x.al = a)) : Nat) else -1
theorem aliasI_hit {l : List El} {a : List UInt8} {n : Nat} {e : El} (h : l[n]? = some e) (ha : (l.take n).any (fun x => decide (x.al = a)) = false) (he : e.al = a) : aliasI l a = n := by
  have hi := (List.getElem?_eq_some_iff.1 h).1
  have hany : l.any (fun x => decide (x.al = a)) = true := List.any_eq_true.2 ⟨e, List.mem_of_getElem? h, decide_eq_true he⟩
  rw [aliasI, if_pos hany, (List.findIdx_eq hi).2]
  refine ⟨?_, fun j hj => ?_⟩
  · rw [(List.getElem?_eq_some_iff.1 h).2]; exact decide_eq_true he
  · have hj' : l[j]? = some l[j] := List.getElem?_eq_getElem (by omega)
    have hm : l[j] ∈ l.take n := by
      have : (l.take n)[j]? = some l[j] := by rw [List.getElem?_take, if_pos hj, hj']
      exact List.mem_of_getElem? this
    exact Bool.eq_false_iff.2 (fun h1 => List.any_eq_false.1 ha _ hm h1)
theorem aliasI_miss {l : List El} {a : List UInt8} (ha : l.any (fun x => decide (x.al = a)) = false) : aliasI l a = -1 := by rw [aliasI, ha]; rfl
theorem aliasI_iff {l : List El} {n : Nat} {e : El} (h : l[n]? = some e) : aliasI l e.al = n ↔ twiceB l n e.al = false := by
  have hi := (List.getElem?_eq_some_iff.1 h).1
  constructor
  · intro ha
    have hany : l.any (fun x => decide (x.al = e.al)) = true := List.any_eq_true.2 ⟨e, List.mem_of_getElem? h, decide_eq_true rfl⟩
    rw [aliasI, if_pos hany] at ha
    have ha : l.findIdx (fun x => decide (x.al = e.al)) = n := by omega
    obtain ⟨_, h2⟩ := (List.findIdx_eq hi).1 ha
    rw [twiceB, List.any_eq_false]
    intro y hy
    obtain ⟨j, hj⟩ := List.mem_iff_getElem?.1 hy
    rw [List.getElem?_take] at hj
    split at hj
    · rename_i hjn
      have := h2 j hjn
      have e3 := (List.getElem?_eq_some_iff.1 hj).2
      rw [e3] at this
      rw [this]; exact Bool.noConfusion
    · cases hj
  · intro ht
    exact aliasI_hit h ht rfl

set_option maxRecDepth 100000 in
theorem alias_call (l : List El) (a : List UInt8) (hl : l.length < 2 ^ 60) : PCall Tryd.prog 50 [elsV l, str a] (i64V (aliasI l a)) := by
  refine scall_of (live := []) (ords := []) Tryd.func50 rfl (by kernel_rfl) (by kernel_rfl) (Nat.le_of_ble_eq_true rfl) ?_
  (conv => arg 2; whnf); refine wp_loop (fun m fr R => ∃ n : Nat, m = l.length - n ∧ n ≤ l.length ∧ R = [] ∧ (l.take n).any (fun x => decide (x.al = a)) = false ∧ fr = frL [(0, elsV l), (1, str a), (5, i64V n)])
    l.length _ _ (.cons (.refl _) (.cons (.refl _) (.cons (.refl _) (.nil _)))) (List.Sublist.refl _) ⟨0, rfl, Nat.zero_le _, rfl, rfl, rfl⟩ ?_
  rintro m fr R ⟨n, rfl, hn, rfl, ha, rfl⟩
  (conv => arg 2; whnf); refine wp_ite (fun h => ?_) (fun h => ?_)
  · have h : n < l.length := by have := of_decide_eq_true h; rw [List.length_map] at this; omega
    obtain ⟨y, hy⟩ : ∃ y, l[n]? = some y := ⟨_, List.getElem?_eq_getElem h⟩
    (conv => arg 2; whnf); refine wp_elem n (.agg (elC y)) rfl (els_at hy) (Vle.refl _) ?_
    (conv => arg 2; whnf); refine wp_ite (fun h1 => ?_) (fun h1 => ?_)
    · have h1 : y.al = a := of_decide_eq_true ((strEq y.al a).symm.trans h1)
      (conv => arg 2; whnf)
      refine wp_leaf (loop_ret ?_)
      (conv => arg 2; whnf); refine w_retp rfl (Vle.eq (congrArg i64V (aliasI_hit hy ha h1).symm))
    · have h1 : y.al ≠ a := of_decide_eq_false ((strEq y.al a).symm.trans h1)
      (conv => arg 2; whnf)
      refine wp_leaf (loop_next (l.length - (n + 1)) _ _ (by omega) (.cons (.refl _) (.cons (.refl _) (.cons (Vle.inc n rfl (by omega)) (.nil _)))) (List.Sublist.refl _) ⟨n + 1, rfl, h, rfl, ?_, rfl⟩)
      rw [List.take_add_one, hy, List.any_append, ha]
      simp [h1]
  · have h : n = l.length := by have := of_decide_eq_false h; rw [List.length_map] at this; omega
    subst h
    rw [List.take_length] at ha
    (conv => arg 2; whnf)
    refine wp_leaf (loop_exit ?_)
    (conv => arg 2; whnf); refine w_retp rfl (Vle.eq (congrArg i64V (aliasI_miss ha).symm))
end Go.Sv
