/- Parts of the proof, one behind the other. -/
import Derived.Test.YtjmkgippihpkoaaGreatDoorMgRowPTells4
import Derived.Test.YtjmkgippihpkoaaGreatDoorShelf
import Derived.Test.YtjmkgippihpkoaaGreatDoorMgRowPTells6
import Derived.Test.YtjmkgippihpkoaaGreatDoorMgRowPTells5
import Derived.Lib.Replace
import Derived.Lib.LaidTab
/- Functions of Go's library that the package word calls. -/
namespace Go.Sv
open Go Go.Proofs Go.RowKit

theorem below_bytesWorld (w : World) (e : TypeId) (s : ByteArray) : Below w.heap.size w (Lib.bytesWorld w e s) where
  os := rfl
  tape := rfl
  output := rfl
  size := by rw [Lib.bytesWorld_size]; omega
  block b hb := Lib.bytesWorld_at_old w e s b hb

theorem parseint_fn : isFn Tryz.prog 106 := ⟨_, _, Tryz.func106, rfl, by kernel_rfl⟩
theorem parse_ok (l : List UInt8) (v : Int) (hl : l.length < 2 ^ 40) (h : Lib.parseIntB 64 l = .ok v) : PCall Tryz.prog 106 [str l, i64V 10, i64V 64] (.tup [i64V v, .c .nilIface]) :=
  pcall_of_below parseint_fn fun g w xs hw hx => by
    simp only [RelL, RelV, str, i64V] at hx
    obtain ⟨_, _, rfl, rfl, _, _, rfl, rfl, _, _, rfl, rfl, rfl⟩ := hx
    refine (Tryz.strconv_ParseInt_10_at64_ok (S l) (by rw [S_size]; omega) v h w).mono ?_
    rintro e w' ⟨rfl, hw'⟩
    refine ⟨_, rfl, ?_, by simp only [RelV, RelL, i64V]; exact ⟨_, rfl, _, _, rfl, rfl, _, _, rfl, rfl, rfl⟩⟩
    rcases hw' with rfl | ⟨t, rfl⟩
    · exact Below.refl _ _
    · exact below_bytesWorld _ _ _
theorem parse_range (l : List UInt8) (hl : l.length < 2 ^ 40) (h : Lib.parseIntB 64 l = .range) : PCall Tryz.prog 106 [str l, i64V 10, i64V 64] (.tup [i64V (Lib.intSat 64 l), .ifc 188 .undef]) :=
  pcall_of_below parseint_fn fun g w xs hw hx => by
    simp only [RelL, RelV, str, i64V] at hx
    obtain ⟨_, _, rfl, rfl, _, _, rfl, rfl, _, _, rfl, rfl, rfl⟩ := hx
    obtain ⟨ev, h1, h2, _⟩ := hw.st.1 (3, 0, fun v => v = .nilIface ∨ ∃ te pe, v = .iface te pe) (by simp [statics])
    refine (Tryz.strconv_ParseInt_10_at64_range (S l) (by rw [S_size]; omega) h ev w h1 h2).mono ?_
    rintro e w' ⟨N, rfl, _, _, hb⟩
    exact ⟨_, rfl, hb, by simp only [RelV, RelL, i64V]; exact ⟨_, rfl, _, _, rfl, rfl, _, _, rfl, ⟨_, rfl, trivial⟩, rfl⟩⟩

theorem hasprefix_fn : isFn Tryz.prog 73 := ⟨_, _, Tryz.func73, rfl, by kernel_rfl⟩
theorem hasprefix_call (l p : List UInt8) : PCall Tryz.prog 73 [str l, str p] (bV (p.isPrefixOf l)) :=
  pcall_of_calls hasprefix_fn fun g w xs hw hx => by
    simp only [RelL, RelV, str] at hx
    obtain ⟨_, _, rfl, rfl, _, _, rfl, rfl, rfl⟩ := hx
    refine (Tryz.strings_HasPrefix (S l) (S p) w).mono ?_
    rintro e w' ⟨rfl, rfl⟩
    exact ⟨_, rfl, rfl, by simp only [RelV, bV]; rfl⟩
theorem indexbyte_fn : isFn Tryz.prog 107 := ⟨_, _, Tryz.func107, rfl, by kernel_rfl⟩
theorem indexbyte_call (l : List UInt8) (c : UInt8) : PCall Tryz.prog 107 [str l, byteV c] (i64V (Lib.indexByte l c)) :=
  pcall_of_calls indexbyte_fn fun g w xs hw hx => by
    simp only [RelL, RelV, str, byteV] at hx
    obtain ⟨_, _, rfl, rfl, _, _, rfl, rfl, rfl⟩ := hx
    refine (Tryz.strings_IndexByte (S l) c.toNat w).mono ?_
    rintro e w' ⟨rfl, rfl⟩
    refine ⟨_, rfl, rfl, ?_⟩
    simp only [RelV, i64V, S_list, Int.toNat_natCast]
    congr 2
    exact (UInt8.ofNat_toNat (x := c))
end Go.Sv
/- The package word: numbers. -/
namespace Go.Sv
open Go Go.Proofs

theorem take_span (p : UInt8 → Bool) : ∀ l : List UInt8, l.take (spanN p l) = l.takeWhile p
  | [] => by simp [spanN]
  | c :: l => by
    cases h : p c with
    | true =>
      have := take_span p l
      rw [spanN_cons h, List.take_succ_cons, this, List.takeWhile_cons_of_pos h]
    | false => rw [spanN_stop h, List.takeWhile_cons_of_neg (by rw [h]; decide)]; rfl
theorem isDg_iff {c : UInt8} : isDg c = true ↔ 48 ≤ c.toNat ∧ c.toNat ≤ 57 := by simp [isDg]
theorem parseM_digits (M : Nat) : ∀ (l : List UInt8) (acc : Nat), (∀ d ∈ l, isDg d = true) → (∃ u, Lib.parseUintM M acc l = .ok u) ∨ Lib.parseUintM M acc l = .range
  | [], acc, _ => .inl ⟨acc, rfl⟩
  | c :: l, acc, h => by
    have hc := isDg_iff.1 (h c (by simp))
    rw [Lib.parseUintM, if_pos hc]
    split
    · exact .inr rfl
    · split
      · exact .inr rfl
      · exact parseM_digits M l _ fun d hd => h d (by simp [hd])
theorem parseI_digits {c : UInt8} {r : List UInt8} (hr : ∀ d ∈ r, isDg d = true) (h : isDg c = true ∨ (c = 45 ∧ r ≠ [])) : (∃ v, Lib.parseIntB 64 (c :: r) = .ok v) ∨ Lib.parseIntB 64 (c :: r) = .range := by
  have key : (∃ u, Lib.parseUintB 64 (if c.toNat = 43 ∨ c.toNat = 45 then r else c :: r) = .ok u) ∨ Lib.parseUintB 64 (if c.toNat = 43 ∨ c.toNat = 45 then r else c :: r) = .range := by
    rcases h with h | ⟨rfl, h⟩
    · have h1 := isDg_iff.1 h
      rw [if_neg (by omega), Lib.parseUintB, if_neg (by simp)]
      exact parseM_digits _ _ _ fun d hd => by rcases List.mem_cons.1 hd with rfl | hd; exact h; exact hr d hd
    · rw [if_pos (.inr rfl), Lib.parseUintB, if_neg h]
      exact parseM_digits _ _ _ hr
  rw [Lib.parseIntB]
  rcases key with ⟨u, e⟩ | e
  · rw [e]
    simp only
    split
    · exact .inr rfl
    · split
      · exact .inr rfl
      · exact .inl ⟨_, rfl⟩
  · rw [e]; exact .inr rfl

set_option maxRecDepth 100000 in
theorem number_call (s : List UInt8) (at_ : Nat) (c : UInt8) (hc : s[at_]? = some c) (h : isDg c = true ∨ (c = 45 ∧ at_ + 1 < s.length ∧ isDg ((s.drop (at_ + 1)).headD 0) = true)) (hs : s.length < 2 ^ 40) :
    PCall Tryz.prog 91 [str s, i64V at_] (nxV at_ (numR (s.drop at_))) := by
  have hat := (List.getElem?_eq_some_iff.1 hc).1
  have hsp := span_call s (at_ + 1) _ isDg isdigit_call hs hat
  have hle := spanN_le isDg (s.drop (at_ + 1))
  rw [List.length_drop] at hle
  have hl : (s.drop at_).take (1 + spanN isDg (s.drop (at_ + 1))) = c :: (s.drop (at_ + 1)).takeWhile isDg := by
    rw [drop_at hc, Nat.add_comm 1, List.take_succ_cons, take_span]
  have hp := parseI_digits (c := c) (r := (s.drop (at_ + 1)).takeWhile isDg) (fun d hd => by have := List.all_takeWhile (p := isDg) (l := s.drop (at_ + 1)); rw [List.all_eq_true] at this; exact this d hd) (by
    rcases h with h | ⟨h1, h2, h3⟩
    · exact .inl h
    · refine .inr ⟨h1, fun e => ?_⟩
      obtain ⟨d, hd⟩ : ∃ d, s[at_ + 1]? = some d := ⟨_, List.getElem?_eq_getElem h2⟩
      rw [drop_at hd] at h3 e
      have h3 : isDg d = true := h3
      rw [List.takeWhile_cons_of_pos h3] at e
      cases e)
  rw [← hl] at hp
  have e1 : numR (s.drop at_) = numE (1 + spanN isDg (s.drop (at_ + 1))) (Lib.parseIntB 64 ((s.drop at_).take (1 + spanN isDg (s.drop (at_ + 1))))) := by rw [numR, List.drop_drop]
  rw [e1]
  clear e1 hl
  generalize spanN isDg (s.drop (at_ + 1)) = n at *
  have w1 : IntKind.i64.wrap ((at_ : Int) + 1) = ((at_ + 1 : Nat) : Int) := wadd (by omega) (by omega) (by omega)
  have w2 : IntKind.i64.wrap (1 + (n : Int)) = ((1 + n : Nat) : Int) := wadd (by omega) (by omega) (by omega)
  have w3 : IntKind.i64.wrap ((at_ : Int) + (1 + n : Nat)) = ((at_ + (1 + n) : Nat) : Int) := wadd (by omega) (by omega) (by omega)
  refine scall_of (live := []) (ords := [(2, [])]) Tryz.func91 rfl (by kernel_rfl) (by kernel_rfl) (Nat.le_of_ble_eq_true rfl) ?_
  (conv => arg 2; whnf); refine wp_allocE (wdL wd0) rfl fun b => ?_
  (conv => arg 2; whnf); refine wp_pcallV (.cons (.refl _) (.cons (Vle.i64 _ rfl w1) (.cons (.refl _) .nil))) hsp ?_
  (conv => arg 2; whnf); refine wp_cutR (frL [(0, str s), (1, i64V at_), (4, .loc b 0), (5, i64V 0), (6, .c .nilIface), (7, i64V (1 + n : Nat))]) _ (.cons (.refl _) (.cons (.refl _) (.cons (.refl _) (.cons (.refl _) (.cons (.refl _) (.cons (Vle.i64 _ rfl w2) (.nil _))))))) (List.Sublist.refl _) ?_
  (conv => arg 2; whnf); refine wp_need (by rw [w3, S_size]; omega) ?_
  have hlen : ((s.drop at_).take (1 + n)).length < 2 ^ 40 := by simp; omega
  have ha : (S s).extract (Int.toNat (at_ : Int)) (Int.toNat (IntKind.i64.wrap ((at_ : Int) + (1 + n : Nat)))) = S ((s.drop at_).take (1 + n)) := by
    rw [w3, S_extract, Int.toNat_natCast, Int.toNat_natCast, List.take_drop]
  rcases hp with ⟨v, e⟩ | e
  · (conv => arg 2; whnf); refine wp_pcallV (.cons (Vle.of _ rfl (cStr ha)) (.cons (.refl _) (.cons (.refl _) .nil))) (parse_ok _ v hlen e) ?_
    rw [e]
    (repeat ((conv => arg 2; whnf); first | refine wp_ite (fun _ => ?_) (fun h => Bool.noConfusion h) | refine wp_ite (fun h => Bool.noConfusion h) (fun _ => ?_)))
    (conv => arg 2; whnf); refine wp_store' 0 rfl (Nat.le_of_ble_eq_true rfl) rfl ?_
    (conv => arg 2; whnf); refine w_ret3c (cs := wdL ((⟨2, [], v, 1 + n⟩ : Nx).wd at_)) b 0 0 rfl rfl rfl rfl rfl (.refl _) (.refl _) (.refl _)
  · (conv => arg 2; whnf); refine wp_pcallV (.cons (Vle.of _ rfl (cStr ha)) (.cons (.refl _) (.cons (.refl _) .nil))) (parse_range _ hlen e) ?_
    rw [e]
    (repeat ((conv => arg 2; whnf); first | refine wp_ite (fun _ => ?_) (fun h => Bool.noConfusion h) | refine wp_ite (fun h => Bool.noConfusion h) (fun _ => ?_)))
    (conv => arg 2; whnf); refine wp_store' 0 rfl (Nat.le_of_ble_eq_true rfl) rfl ?_
    (conv => arg 2; whnf); refine w_ret3c (cs := wdL wd0) b 0 0 rfl rfl rfl rfl rfl (.refl _) (.refl _) (.refl _)
end Go.Sv
/- The package word: texts. -/
namespace Go.Sv
open Go Go.Proofs

theorem valIs_one (c : UInt8) : valIs ⟨2, 0, [c]⟩ = okCh c := by simp [valIs, isTextB]
theorem cByteAt {s : List UInt8} {i : Nat} {c : UInt8} {x : Int} (h : s[i]? = some c) (hx : x = i) {v : V} (hv : v = V.c (.int .u8 (byteAt (S s) x.toNat).toNat)) : Vle v (byteV c) := by
  subst hx
  rw [Int.toNat_natCast, byte_at h] at hv
  exact Vle.eq hv

set_option maxRecDepth 100000 in
set_option maxHeartbeats 1000000 in
theorem text_call (s : List UInt8) (at_ : Nat) (hat : at_ < s.length) (hs : s.length < 2 ^ 40) : PCall Tryz.prog 92 [str s, i64V at_] (nxV at_ (textN (s.drop at_))) := by
  have htn : textN (s.drop at_) = textE (textR [] (s.drop (at_ + 1))) := by rw [textN, List.drop_drop]
  rw [htn]
  refine scall_of (live := []) (ords := [(6, []), (12, []), (15, []), (17, [])]) Tryz.func92 rfl (by kernel_rfl) (by kernel_rfl) (Nat.le_of_ble_eq_true rfl) ?_
  (conv => arg 2; whnf); refine wp_allocE (wdL wd0) rfl fun b => ?_
  have w1 : IntKind.i64.wrap ((at_ : Int) + 1) = ((at_ + 1 : Nat) : Int) := wadd (by omega) (by omega) (by omega)
  (conv => arg 2; whnf); refine wp_loop (fun m fr R => ∃ (i : Nat) (out : List UInt8), m = s.length - i ∧ at_ + 1 ≤ i ∧ i ≤ s.length ∧ R = [.obj b (wdL wd0)] ∧ textR [] (s.drop (at_ + 1)) = addN (i - (at_ + 1)) (textR out (s.drop i)) ∧ out.length ≤ i ∧
      fr = frL [(0, str s), (1, i64V at_), (4, .loc b 0), (7, str out), (8, i64V i)])
    (s.length - (at_ + 1)) _ _ (.cons (.refl _) (.cons (.refl _) (.cons (.refl _) (.cons (.refl _) (.cons (Vle.i64 _ rfl w1) (.nil _)))))) (List.Sublist.refl _) ⟨at_ + 1, [], rfl, Nat.le_refl _, hat, rfl, by rw [Nat.sub_self, addN_zero], Nat.zero_le _, rfl⟩ ?_
  rintro m fr R ⟨i, out, rfl, hi1, hi, rfl, hinv, hout, rfl⟩
  have w2 : IntKind.i64.wrap ((i : Int) + 1) = ((i + 1 : Nat) : Int) := wadd (by omega) (by omega) (by omega)
  generalize textR [] (s.drop (at_ + 1)) = res at *
  (conv => arg 2; whnf); refine wp_ite (fun h => ?_) (fun h => ?_)
  · have h : i < s.length := by have := of_decide_eq_true h; rw [S_size] at this; omega
    obtain ⟨c, hc⟩ : ∃ c, s[i]? = some c := ⟨_, List.getElem?_eq_getElem h⟩
    have hd := drop_at hc
    rw [hd] at hinv
    (conv => arg 2; whnf); refine wp_need (by rw [S_size]; omega) ?_
    (conv => arg 2; whnf); refine wp_cutR (frL [(0, str s), (1, i64V at_), (4, .loc b 0), (7, str out), (8, i64V i), (9, byteV c)]) _ (.cons (.refl _) (.cons (.refl _) (.cons (.refl _) (.cons (.refl _) (.cons (.refl _) (.cons (cByteAt hc rfl rfl) (.nil _))))))) (List.Sublist.refl _) ?_
    (conv => arg 2; whnf); refine wp_ite (fun h1 => ?_) (fun h1 => ?_)
    · have h1' : c = 34 := by rw [c_int_eq c 34 34 rfl] at h1; exact of_decide_eq_true h1
      subst h1'
      rw [textR_34] at hinv
      (conv => arg 2; whnf); refine wp_ite (fun h2 => ?_) (fun h2 => ?_)
      · have h2 : 16 < out.length := by have := of_decide_eq_true h2; rw [S_size] at this; omega
        rw [if_pos h2] at hinv
        (repeat ((conv => arg 2; whnf); first | refine wp_ite (fun _ => ?_) (fun h => Bool.noConfusion h) | refine wp_ite (fun h => Bool.noConfusion h) (fun _ => ?_)))
        (conv => arg 2; whnf); refine wp_store' 0 rfl (Nat.le_of_ble_eq_true rfl) rfl ?_
        (conv => arg 2; whnf)
        refine wp_leaf (loop_ret ?_)
        (conv => arg 2; whnf); refine w_ret3cE (cs := wdL wd0) b 0 0 rfl rfl rfl rfl rfl (.refl _) (.refl _) (.refl _) (by rw [hinv]; rfl)
      · have h2 : ¬ 16 < out.length := by have := of_decide_eq_false h2; rw [S_size] at this; omega
        rw [if_neg h2] at hinv
        (repeat ((conv => arg 2; whnf); first | refine wp_ite (fun _ => ?_) (fun h => Bool.noConfusion h) | refine wp_ite (fun h => Bool.noConfusion h) (fun _ => ?_)))
        (conv => arg 2; whnf); refine wp_store' 0 rfl (Nat.le_of_ble_eq_true rfl) rfl ?_
        (conv => arg 2; whnf)
        refine wp_leaf (loop_ret ?_)
        (conv => arg 2; whnf); refine w_ret3cE (cs := wdL ((⟨3, out, 0, 1 + (i - (at_ + 1)) + 1⟩ : Nx).wd at_)) b 0 0 rfl rfl rfl rfl rfl (.refl _) (Vle.i64 _ rfl ?_) (.refl _) (by rw [hinv]; rfl)
        rw [w2, wsub (c := ((1 + (i - (at_ + 1)) + 1 : Nat) : Int)) (by omega) (by omega) (by omega)]
    · have h34 : c ≠ 34 := by rw [c_int_eq c 34 34 rfl] at h1; exact of_decide_eq_false h1
      (repeat ((conv => arg 2; whnf); first | refine wp_ite (fun _ => ?_) (fun h => Bool.noConfusion h) | refine wp_ite (fun h => Bool.noConfusion h) (fun _ => ?_)))
      (conv => arg 2; whnf); refine wp_ite (fun h2 => Bool.noConfusion (h1.symm.trans h2)) (fun _ => ?_)
      (conv => arg 2; whnf); refine wp_ite (fun h2 => ?_) (fun h2 => ?_)
      · have h2' : c = 92 := by rw [c_int_eq c 92 92 rfl] at h2; exact of_decide_eq_true h2
        subst h2'
        (conv => arg 2; whnf); refine wp_cutR (frL [(0, str s), (1, i64V at_), (4, .loc b 0), (7, str out), (8, i64V (i + 1 : Nat))]) _ (.cons (.refl _) (.cons (.refl _) (.cons (.refl _) (.cons (.refl _) (.cons (Vle.i64 _ rfl w2) (.nil _)))))) (List.Sublist.refl _) ?_
        (conv => arg 2; whnf); refine wp_ite (fun h3 => ?_) (fun h3 => ?_)
        · have h3 : i + 1 = s.length := by have := of_decide_eq_true h3; rw [S_size] at this; omega
          rw [h3, List.drop_length, textR_end] at hinv
          (repeat ((conv => arg 2; whnf); first | refine wp_ite (fun _ => ?_) (fun h => Bool.noConfusion h) | refine wp_ite (fun h => Bool.noConfusion h) (fun _ => ?_)))
          (conv => arg 2; whnf); refine wp_store' 0 rfl (Nat.le_of_ble_eq_true rfl) rfl ?_
          (conv => arg 2; whnf)
          refine wp_leaf (loop_ret ?_)
          (conv => arg 2; whnf); refine w_ret3cE (cs := wdL wd0) b 0 0 rfl rfl rfl rfl rfl (.refl _) (.refl _) (.refl _) (by rw [hinv]; rfl)
        have h3 : i + 1 < s.length := by have := of_decide_eq_false h3; rw [S_size] at this; omega
        obtain ⟨d, hdc⟩ : ∃ d, s[i + 1]? = some d := ⟨_, List.getElem?_eq_getElem h3⟩
        have hb2 : byteAt (S s) (Int.toNat ((i + 1 : Nat) : Int)) = d := byte_at hdc
        have hd2 := drop_at hdc
        rw [hd2, textR_92] at hinv
        have k34 : (((byteAt (S s) (Int.toNat ((i + 1 : Nat) : Int))).toNat : Int) != 34) = !decide (d = 34) := by rw [hb2]; exact c_int_ne d 34 34 rfl
        have k92 : (((byteAt (S s) (Int.toNat ((i + 1 : Nat) : Int))).toNat : Int) != 92) = !decide (d = 92) := by rw [hb2]; exact c_int_ne d 92 92 rfl
        have hne : (0 : Int) ≤ ((i + 1 : Nat) : Int) ∧ ((i + 1 : Nat) : Int) < (S s).size := by rw [S_size]; omega
        (conv => arg 2; whnf); refine wp_need hne ?_
        by_cases hq : d = 34 ∨ d = 92
        · rw [if_pos hq] at hinv
          have hokd : okCh d = true := by rcases hq with rfl | rfl <;> rfl
          rcases hq with hq | hq
          · (conv => arg 2; whnf); refine wp_ite (fun h4 => by rw [k34, hq] at h4; cases h4) (fun h4 => ?_)
            (repeat ((conv => arg 2; whnf); first | refine wp_ite (fun _ => ?_) (fun h => Bool.noConfusion h) | refine wp_ite (fun h => Bool.noConfusion h) (fun _ => ?_)))
            (conv => arg 2; whnf); refine wp_need hne ?_
            (conv => arg 2; whnf); refine wp_cutR (frL [(0, str s), (1, i64V at_), (4, .loc b 0), (7, str out), (8, i64V (i + 1 : Nat)), (9, byteV d)]) _ (.cons (.refl _) (.cons (.refl _) (.cons (.refl _) (.cons (.refl _) (.cons (.refl _) (.cons (cByteAt hdc rfl rfl) (.nil _))))))) (List.Sublist.refl _) ?_
            (conv => arg 2; whnf); refine wp_need (byteNeed d) ?_
            (conv => arg 2; whnf); refine wp_pcallV (.cons (Vle.agg (.cons (.refl _) (.cons (.refl _) (.cons (byteStr rfl) .nil)))) .nil) (valueis_call ⟨2, 0, [d]⟩ (Nat.le_of_ble_eq_true rfl)) ?_
            rw [addN_addN] at hinv
            (conv => arg 2; whnf); refine wp_ite (fun h => by rw [valIs_one, hokd] at h; cases h) (fun _ => ?_)
            (conv => arg 2; whnf); refine wp_cutR (frL [(0, str s), (1, i64V at_), (4, .loc b 0), (7, str out), (8, i64V (i + 1 : Nat)), (9, byteV d)]) _ (.cons (.refl _) (.cons (.refl _) (.cons (.refl _) (.cons (.refl _) (.cons (.refl _) (.cons (.refl _) (.nil _))))))) (List.Sublist.refl _) ?_
            (conv => arg 2; whnf); refine wp_need (byteNeed d) ?_
            (conv => arg 2; whnf); refine wp_need (by rw [S_size]; show out.length + 1 ≤ _; omega) ?_
            (conv => arg 2; whnf)
            refine wp_leaf (loop_next (s.length - (i + 1 + 1)) _ [.obj b (wdL wd0)] (by omega) (.cons (.refl _) (.cons (.refl _) (.cons (.refl _) (.cons (addByte rfl) (.cons (Vle.inc (i + 1) rfl (by omega)) (.nil _)))))) (List.Sublist.refl _) ⟨i + 1 + 1, out ++ [d], rfl, by omega, by omega, rfl, ?_, by simp; omega, rfl⟩)
            · rw [hinv]
              congr 1; omega
          · (conv => arg 2; whnf); refine wp_ite (fun h4 => ?_) (fun h4 => by rw [k34, hq] at h4; cases h4)
            (conv => arg 2; whnf); refine wp_need hne ?_
            (conv => arg 2; whnf); refine wp_ite (fun h4 => by rw [k92, hq] at h4; cases h4) (fun h4 => ?_)
            (repeat ((conv => arg 2; whnf); first | refine wp_ite (fun _ => ?_) (fun h => Bool.noConfusion h) | refine wp_ite (fun h => Bool.noConfusion h) (fun _ => ?_)))
            (conv => arg 2; whnf); refine wp_need hne ?_
            (conv => arg 2; whnf); refine wp_cutR (frL [(0, str s), (1, i64V at_), (4, .loc b 0), (7, str out), (8, i64V (i + 1 : Nat)), (9, byteV d)]) _ (.cons (.refl _) (.cons (.refl _) (.cons (.refl _) (.cons (.refl _) (.cons (.refl _) (.cons (cByteAt hdc rfl rfl) (.nil _))))))) (List.Sublist.refl _) ?_
            (conv => arg 2; whnf); refine wp_need (byteNeed d) ?_
            (conv => arg 2; whnf); refine wp_pcallV (.cons (Vle.agg (.cons (.refl _) (.cons (.refl _) (.cons (byteStr rfl) .nil)))) .nil) (valueis_call ⟨2, 0, [d]⟩ (Nat.le_of_ble_eq_true rfl)) ?_
            rw [addN_addN] at hinv
            (conv => arg 2; whnf); refine wp_ite (fun h => by rw [valIs_one, hokd] at h; cases h) (fun _ => ?_)
            (conv => arg 2; whnf); refine wp_cutR (frL [(0, str s), (1, i64V at_), (4, .loc b 0), (7, str out), (8, i64V (i + 1 : Nat)), (9, byteV d)]) _ (.cons (.refl _) (.cons (.refl _) (.cons (.refl _) (.cons (.refl _) (.cons (.refl _) (.cons (.refl _) (.nil _))))))) (List.Sublist.refl _) ?_
            (conv => arg 2; whnf); refine wp_need (byteNeed d) ?_
            (conv => arg 2; whnf); refine wp_need (by rw [S_size]; show out.length + 1 ≤ _; omega) ?_
            (conv => arg 2; whnf)
            refine wp_leaf (loop_next (s.length - (i + 1 + 1)) _ [.obj b (wdL wd0)] (by omega) (.cons (.refl _) (.cons (.refl _) (.cons (.refl _) (.cons (addByte rfl) (.cons (Vle.inc (i + 1) rfl (by omega)) (.nil _)))))) (List.Sublist.refl _) ⟨i + 1 + 1, out ++ [d], rfl, by omega, by omega, rfl, ?_, by simp; omega, rfl⟩)
            · rw [hinv]
              congr 1; omega
        · rw [if_neg hq] at hinv
          (conv => arg 2; whnf); refine wp_ite (fun h4 => ?_) (fun h4 => ?_)
          · (conv => arg 2; whnf); refine wp_need hne ?_
            (conv => arg 2; whnf); refine wp_ite (fun h5 => ?_) (fun h5 => ?_)
            · (conv => arg 2; whnf); refine wp_store' 0 rfl (Nat.le_of_ble_eq_true rfl) rfl ?_
              (conv => arg 2; whnf)
              refine wp_leaf (loop_ret ?_)
              (conv => arg 2; whnf); refine w_ret3cE (cs := wdL wd0) b 0 0 rfl rfl rfl rfl rfl (.refl _) (.refl _) (.refl _) (by rw [hinv]; rfl)
            · exfalso
              rw [k92] at h5
              simp at h5
              exact hq (.inr h5)
          · exfalso
            rw [k34] at h4
            simp at h4
            exact hq (.inl h4)
      · have h92 : c ≠ 92 := by rw [c_int_eq c 92 92 rfl] at h2; exact of_decide_eq_false h2
        rw [textR_c _ _ h34 h92] at hinv
        (conv => arg 2; whnf); refine wp_cutR (frL [(0, str s), (1, i64V at_), (4, .loc b 0), (7, str out), (8, i64V i), (9, byteV c)]) _ (.cons (.refl _) (.cons (.refl _) (.cons (.refl _) (.cons (.refl _) (.cons (.refl _) (.cons (.refl _) (.nil _))))))) (List.Sublist.refl _) ?_
        (conv => arg 2; whnf); refine wp_need (byteNeed c) ?_
        (conv => arg 2; whnf); refine wp_pcallV (.cons (Vle.agg (.cons (.refl _) (.cons (.refl _) (.cons (byteStr rfl) .nil)))) .nil) (valueis_call ⟨2, 0, [c]⟩ (Nat.le_of_ble_eq_true rfl)) ?_
        cases hok : okCh c with
        | false =>
          rw [if_neg (okCh_false hok)] at hinv
          (conv => arg 2; whnf); refine wp_ite (fun _ => ?_) (fun h => by rw [valIs_one, hok] at h; cases h)
          (conv => arg 2; whnf); refine wp_store' 0 rfl (Nat.le_of_ble_eq_true rfl) rfl ?_
          (conv => arg 2; whnf)
          refine wp_leaf (loop_ret ?_)
          (conv => arg 2; whnf); refine w_ret3cE (cs := wdL wd0) b 0 0 rfl rfl rfl rfl rfl (.refl _) (.refl _) (.refl _) (by rw [hinv]; rfl)
        | true =>
          have hok' : 32 ≤ c.toNat ∧ c.toNat ≤ 126 := by simpa [okCh] using hok
          rw [if_pos hok', addN_addN] at hinv
          (conv => arg 2; whnf); refine wp_ite (fun h => by rw [valIs_one, hok] at h; cases h) (fun _ => ?_)
          (conv => arg 2; whnf); refine wp_cutR (frL [(0, str s), (1, i64V at_), (4, .loc b 0), (7, str out), (8, i64V i), (9, byteV c)]) _ (.cons (.refl _) (.cons (.refl _) (.cons (.refl _) (.cons (.refl _) (.cons (.refl _) (.cons (.refl _) (.nil _))))))) (List.Sublist.refl _) ?_
          (conv => arg 2; whnf); refine wp_need (byteNeed c) ?_
          (conv => arg 2; whnf); refine wp_need (by rw [S_size]; show out.length + 1 ≤ _; omega) ?_
          (conv => arg 2; whnf)
          refine wp_leaf (loop_next (s.length - (i + 1)) _ [.obj b (wdL wd0)] (by omega) (.cons (.refl _) (.cons (.refl _) (.cons (.refl _) (.cons (addByte rfl) (.cons (Vle.inc (i) rfl (by omega)) (.nil _)))))) (List.Sublist.refl _) ⟨i + 1, out ++ [c], rfl, by omega, by omega, rfl, ?_, by simp; omega, rfl⟩)
          · rw [hinv]
            congr 1; omega
  · have h : i = s.length := by have := of_decide_eq_false h; rw [S_size] at this; omega
    rw [h, List.drop_length, textR.eq_def] at hinv
    (conv => arg 2; whnf)
    refine wp_leaf (loop_exit ?_)
    (conv => arg 2; whnf); refine wp_store' 0 rfl (Nat.le_of_ble_eq_true rfl) rfl ?_
    (conv => arg 2; whnf); refine w_ret3cE (cs := wdL wd0) b 0 0 rfl rfl rfl rfl rfl (.refl _) (.refl _) (.refl _) (by rw [hinv]; rfl)
end Go.Sv
/- The package word: signs, the next word. -/
namespace Go.Sv
open Go Go.Proofs

theorem extract_end {s : List UInt8} {i : Nat} : (S s).extract (Int.toNat (i : Int)) (S s).size = S (s.drop i) := by
  rw [S_extract, S_size, List.take_length, Int.toNat_natCast]

def twoV : V := .agg [str [33, 61], str [60, 61]]
set_option maxRecDepth 100000 in
set_option maxHeartbeats 1000000 in
theorem sign_call (s : List UInt8) (at_ : Nat) (hat : at_ < s.length) (hs : s.length < 2 ^ 40) : PCall Tryz.prog 93 [str s, i64V at_] (nxV at_ (signR (s.drop at_))) := by
  obtain ⟨c, hc⟩ : ∃ c, s[at_]? = some c := ⟨_, List.getElem?_eq_getElem hat⟩
  have hd := drop_at hc
  have hsg : signR (s.drop at_) = if [33, 61].isPrefixOf (s.drop at_) then .ok ⟨5, [33, 61], 0, 2⟩ else if [60, 61].isPrefixOf (s.drop at_) then .ok ⟨5, [60, 61], 0, 2⟩
      else if decide (Lib.indexByte signsL c < 0) then .error 21 else .ok ⟨5, [c], 0, 1⟩ := by
    rw [signR, hd]; rfl
  refine scall_of (live := []) (ords := [(4, []), (7, [])]) Tryz.func93 rfl (by kernel_rfl) (by kernel_rfl) (Nat.le_of_ble_eq_true rfl) ?_
  (conv => arg 2; whnf); refine wp_allocE (wdL wd0) rfl fun b => ?_
  (conv => arg 2; whnf); refine wp_loop (fun m fr R => ∃ n : Nat, m = 2 - n ∧ n ≤ 2 ∧ R = [.obj b (wdL wd0)] ∧ (1 ≤ n → [33, 61].isPrefixOf (s.drop at_) = false) ∧ (2 ≤ n → [60, 61].isPrefixOf (s.drop at_) = false) ∧
      fr = frL [(0, str s), (1, i64V at_), (4, .loc b 0), (9, twoV), (10, i64V n)])
    2 _ _ (.cons (.refl _) (.cons (.refl _) (.cons (.refl _) (.cons (.refl _) (.cons (.refl _) (.nil _)))))) (List.Sublist.refl _) ⟨0, rfl, by omega, rfl, by omega, by omega, rfl⟩ ?_
  rintro m fr R ⟨n, rfl, hn, rfl, h1, h2, rfl⟩
  (conv => arg 2; whnf); refine wp_ite (fun h => ?_) (fun h => ?_)
  · have h : n < 2 := by have := of_decide_eq_true h; omega
    (conv => arg 2; whnf); refine wp_need (by show 0 ≤ (n : Int) ∧ (n : Int) < 2 ∧ 2 ≤ 2; omega) ?_
    obtain ⟨p, hp, hpv⟩ : ∃ p : List UInt8, (p = if n = 0 then [33, 61] else [60, 61]) ∧ [str [33, 61], str [60, 61]].getD (Int.toNat (n : Int)) .undef = str p := by
      refine ⟨_, rfl, ?_⟩
      have : n = 0 ∨ n = 1 := by omega
      rcases this with rfl | rfl <;> rfl
    (conv => arg 2; whnf); refine wp_cutR (frL [(0, str s), (1, i64V at_), (4, .loc b 0), (8, str p), (9, twoV), (10, i64V n)]) _ (.cons (.refl _) (.cons (.refl _) (.cons (.refl _) (.cons (Vle.of _ rfl hpv) (.cons (.refl _) (.cons (.refl _) (.nil _))))))) (List.Sublist.refl _) ?_
    (conv => arg 2; whnf); refine wp_need (by rw [S_size]; omega) ?_
    (conv => arg 2; whnf); refine wp_pcallV (.cons (Vle.of _ rfl (cStr extract_end)) (.cons (.refl _) .nil)) (hasprefix_call (s.drop at_) p) ?_
    cases hpre : p.isPrefixOf (s.drop at_) with
    | true =>
      have hlen : p.length = 2 := by rw [hp]; split <;> rfl
      (repeat ((conv => arg 2; whnf); first | refine wp_ite (fun _ => ?_) (fun h => Bool.noConfusion h) | refine wp_ite (fun h => Bool.noConfusion h) (fun _ => ?_)))
      (conv => arg 2; whnf); refine wp_store' 0 rfl (Nat.le_of_ble_eq_true rfl) rfl ?_
      (conv => arg 2; whnf)
      refine wp_leaf (loop_ret ?_)
      (conv => arg 2; whnf); refine w_ret3cE (cs := wdL ((⟨5, p, 0, 2⟩ : Nx).wd at_)) b 0 0 rfl rfl rfl rfl rfl (.refl _) (Vle.i64 (y := ((2 : Nat) : Int)) _ rfl ?_) (.refl _) ?_
      · rw [S_size, hlen]
      · rw [hsg]
        have : n = 0 ∨ n = 1 := by omega
        rcases this with rfl | rfl
        · rw [if_pos rfl] at hp; subst hp; rw [if_pos hpre]; rfl
        · rw [if_neg (by decide)] at hp; subst hp; rw [if_neg (by rw [h1 (by omega)]; decide), if_pos hpre]; rfl
    | false =>
      (repeat ((conv => arg 2; whnf); first | refine wp_ite (fun _ => ?_) (fun h => Bool.noConfusion h) | refine wp_ite (fun h => Bool.noConfusion h) (fun _ => ?_)))
      (conv => arg 2; whnf)
      refine wp_leaf (loop_next (2 - (n + 1)) _ _ (by omega) (.cons (.refl _) (.cons (.refl _) (.cons (.refl _) (.cons (.refl _) (.cons (Vle.inc n rfl (by omega)) (.nil _)))))) (List.Sublist.refl _) ⟨n + 1, rfl, by omega, rfl, fun _ => ?_, fun hx => ?_, rfl⟩)
      · by_cases h0 : n = 0
        · rw [if_pos h0] at hp; rw [← hp]; exact hpre
        · exact h1 (by omega)
      · rw [if_neg (by omega)] at hp; rw [← hp]; exact hpre
  · have h : n = 2 := by have := of_decide_eq_false h; omega
    subst h
    rw [if_neg (by rw [h1 (by omega)]; decide), if_neg (by rw [h2 (by omega)]; decide)] at hsg
    (conv => arg 2; whnf)
    refine wp_leaf (loop_exit ?_)
    (conv => arg 2; whnf); refine wp_cutR (frL [(0, str s), (1, i64V at_), (4, .loc b 0)]) _ (.cons (.refl _) (.cons (.refl _) (.cons (.refl _) (.nil _)))) (List.Sublist.refl _) ?_
    (conv => arg 2; whnf); refine wp_need (by rw [S_size]; omega) ?_
    (conv => arg 2; whnf); refine wp_pcallV (.cons (.refl _) (.cons (cByteAt hc rfl rfl) .nil)) (indexbyte_call signsL c) ?_
    (conv => arg 2; whnf); refine wp_ite (fun h3 => ?_) (fun h3 => ?_)
    · rw [if_pos h3] at hsg
      (conv => arg 2; whnf); refine wp_store' 0 rfl (Nat.le_of_ble_eq_true rfl) rfl ?_
      (conv => arg 2; whnf); refine w_ret3cE (cs := wdL wd0) b 0 0 rfl rfl rfl rfl rfl (.refl _) (.refl _) (.refl _) (by rw [hsg]; rfl)
    · rw [if_neg (by rw [h3]; decide)] at hsg
      have w1 : IntKind.i64.wrap ((at_ : Int) + 1) = ((at_ + 1 : Nat) : Int) := wadd (by omega) (by omega) (by omega)
      (conv => arg 2; whnf); refine wp_need (by rw [w1, S_size]; omega) ?_
      (conv => arg 2; whnf); refine wp_store' 0 rfl (Nat.le_of_ble_eq_true rfl) rfl ?_
      (conv => arg 2; whnf); refine w_ret3cE (cs := wdL ((⟨5, [c], 0, 1⟩ : Nx).wd at_)) b 0 0 rfl rfl rfl ?_ rfl (.refl _) (.refl _) (.refl _) (by rw [hsg]; rfl)
      show some (Res.obj b [i64V 5, V.c (.string ((S s).extract (Int.toNat at_) (Int.toNat (IntKind.i64.wrap ((at_ : Int) + 1))))), i64V 0, i64V at_]) = _
      rw [w1, S_extract, Int.toNat_natCast, Int.toNat_natCast, List.take_add_one, hc, List.drop_append_of_le_length (by simp; omega)]
      have e : (s.take at_).drop at_ = [] := List.drop_eq_nil_of_le (by rw [List.length_take]; omega)
      rw [e]; rfl

theorem nextR_at {s : List UInt8} {at_ : Nat} {c : UInt8} (hc : s[at_]? = some c) : nextR (s.drop at_) = if isSm c then letR 1 isSm (s.drop at_) else if isGr c then letR 4 isGr (s.drop at_)
    else if isDg c || (c == 45 && decide (at_ + 1 < s.length) && isDg ((s.drop (at_ + 1)).headD 0)) then numR (s.drop at_) else if c == 34 then textN (s.drop at_) else signR (s.drop at_) := by
  have hi := (List.getElem?_eq_some_iff.1 hc).1
  have e : decide (1 < (c :: s.drop (at_ + 1)).length) = decide (at_ + 1 < s.length) := decide_eq_decide.2 (by simp; omega)
  rw [drop_at hc, nextR_cons, e]

set_option maxRecDepth 100000 in
set_option maxHeartbeats 1000000 in
theorem next_call (s : List UInt8) (at_ : Nat) (hat : at_ < s.length) (hs : s.length < 2 ^ 40) : PCall Tryz.prog 71 [str s, i64V at_] (nxV at_ (nextR (s.drop at_))) := by
  obtain ⟨c, hc⟩ : ∃ c, s[at_]? = some c := ⟨_, List.getElem?_eq_getElem hat⟩
  have hnx := nextR_at hc
  have f1 := letters_call s at_ 1 _ isSm issmall_call hs (by omega) (by omega)
  have f2 := letters_call s at_ 4 _ isGr isgreat_call hs (by omega) (by omega)
  have f3 := fun h => number_call s at_ c hc h hs
  have f4 := text_call s at_ hat hs
  have f5 := sign_call s at_ hat hs
  have hret : ∀ x : Except Nat Nx, ∃ (w : Wd) (n : V) (e : V), nxV at_ x = .tup [wdV w, n, e] := by
    intro x
    cases x with
    | ok x => exact ⟨_, _, _, rfl⟩
    | error e => exact ⟨_, _, _, rfl⟩
  refine scall_of (live := []) (ords := [(2, []), (4, []), (6, []), (7, []), (9, []), (11, [])]) Tryz.func71 rfl (by kernel_rfl) (by kernel_rfl) (Nat.le_of_ble_eq_true rfl) ?_
  (conv => arg 2; whnf); refine wp_allocE (wdL wd0) rfl fun b => ?_
  (conv => arg 2; whnf); refine wp_need (by rw [S_size]; omega) ?_
  (conv => arg 2; whnf); refine wp_cutR (frL [(0, str s), (1, i64V at_), (4, .loc b 0), (7, byteV c)]) _ (.cons (.refl _) (.cons (.refl _) (.cons (.refl _) (.cons (cByteAt hc rfl rfl) (.nil _))))) (List.Sublist.refl _) ?_
  (conv => arg 2; whnf); refine wp_pcall (issmall_call c) ?_
  cases hsm : isSm c with
  | true =>
    rw [hsm, if_pos rfl] at hnx
    rw [← hnx] at f1
    obtain ⟨w, n, e, hw⟩ := hret (nextR (s.drop at_))
    rw [hw] at f1
    (repeat ((conv => arg 2; whnf); first | refine wp_ite (fun _ => ?_) (fun h => Bool.noConfusion h) | refine wp_ite (fun h => Bool.noConfusion h) (fun _ => ?_)))
    (conv => arg 2; whnf); refine wp_pcall f1 ?_
    (conv => arg 2; whnf); refine wp_store' 0 rfl (Nat.le_of_ble_eq_true rfl) rfl ?_
    (conv => arg 2; whnf); refine w_ret3cE (cs := wdL w) b 0 0 rfl rfl rfl rfl rfl (.refl _) (.refl _) (.refl _) hw.symm
  | false =>
    rw [hsm, if_neg (by decide)] at hnx
    (repeat ((conv => arg 2; whnf); first | refine wp_ite (fun _ => ?_) (fun h => Bool.noConfusion h) | refine wp_ite (fun h => Bool.noConfusion h) (fun _ => ?_)))
    (conv => arg 2; whnf); refine wp_cutR (frL [(0, str s), (1, i64V at_), (4, .loc b 0), (7, byteV c)]) _ (.cons (.refl _) (.cons (.refl _) (.cons (.refl _) (.cons (.refl _) (.nil _))))) (List.Sublist.refl _) ?_
    (conv => arg 2; whnf); refine wp_pcall (isgreat_call c) ?_
    cases hgr : isGr c with
    | true =>
      rw [hgr, if_pos rfl] at hnx
      rw [← hnx] at f2
      obtain ⟨w, n, e, hw⟩ := hret (nextR (s.drop at_))
      rw [hw] at f2
      (repeat ((conv => arg 2; whnf); first | refine wp_ite (fun _ => ?_) (fun h => Bool.noConfusion h) | refine wp_ite (fun h => Bool.noConfusion h) (fun _ => ?_)))
      (conv => arg 2; whnf); refine wp_pcall f2 ?_
      (conv => arg 2; whnf); refine wp_store' 0 rfl (Nat.le_of_ble_eq_true rfl) rfl ?_
      (conv => arg 2; whnf); refine w_ret3cE (cs := wdL w) b 0 0 rfl rfl rfl rfl rfl (.refl _) (.refl _) (.refl _) hw.symm
    | false =>
      rw [hgr, if_neg (by decide)] at hnx
      (repeat ((conv => arg 2; whnf); first | refine wp_ite (fun _ => ?_) (fun h => Bool.noConfusion h) | refine wp_ite (fun h => Bool.noConfusion h) (fun _ => ?_)))
      (conv => arg 2; whnf); refine wp_cutR (frL [(0, str s), (1, i64V at_), (4, .loc b 0), (7, byteV c)]) _ (.cons (.refl _) (.cons (.refl _) (.cons (.refl _) (.cons (.refl _) (.nil _))))) (List.Sublist.refl _) ?_
      (conv => arg 2; whnf); refine wp_pcall (isdigit_call c) ?_
      cases hdg : isDg c with
      | true =>
        rw [hdg, Bool.true_or, if_pos rfl] at hnx
        obtain ⟨w, n, e, hw⟩ := hret (nextR (s.drop at_))
        replace f3 : ∀ h, PCall Tryz.prog 91 [str s, i64V at_] (.tup [wdV w, n, e]) := fun h => by have := f3 h; rw [← hnx, hw] at this; exact this
        (repeat ((conv => arg 2; whnf); first | refine wp_ite (fun _ => ?_) (fun h => Bool.noConfusion h) | refine wp_ite (fun h => Bool.noConfusion h) (fun _ => ?_)))
        (conv => arg 2; whnf); refine wp_pcall (f3 (.inl hdg)) ?_
        (conv => arg 2; whnf); refine wp_store' 0 rfl (Nat.le_of_ble_eq_true rfl) rfl ?_
        (conv => arg 2; whnf); refine w_ret3cE (cs := wdL w) b 0 0 rfl rfl rfl rfl rfl (.refl _) (.refl _) (.refl _) hw.symm
      | false =>
        rw [hdg, Bool.false_or] at hnx
        have w1 : IntKind.i64.wrap ((at_ : Int) + 1) = ((at_ + 1 : Nat) : Int) := wadd (by omega) (by omega) (by omega)
        (repeat ((conv => arg 2; whnf); first | refine wp_ite (fun _ => ?_) (fun h => Bool.noConfusion h) | refine wp_ite (fun h => Bool.noConfusion h) (fun _ => ?_)))
        (conv => arg 2; whnf); refine wp_cutR (frL [(0, str s), (1, i64V at_), (4, .loc b 0), (7, byteV c)]) _ (.cons (.refl _) (.cons (.refl _) (.cons (.refl _) (.cons (.refl _) (.nil _))))) (List.Sublist.refl _) ?_
        (conv => arg 2; whnf); refine wp_ite (fun h4 => ?_) (fun h4 => ?_)
        · rw [c_int_eq c 45 45 rfl] at h4
          have h4' : c = 45 := of_decide_eq_true h4
          (conv => arg 2; whnf); refine wp_ite (fun h5 => ?_) (fun h5 => ?_)
          · have h5' : at_ + 1 < s.length := by rw [w1] at h5; have := of_decide_eq_true h5; rw [S_size] at this; omega
            obtain ⟨d, hd⟩ : ∃ d, s[at_ + 1]? = some d := ⟨_, List.getElem?_eq_getElem h5'⟩
            have hhd : (s.drop (at_ + 1)).headD 0 = d := by rw [drop_at hd]; rfl
            rw [hhd] at hnx f3
            (conv => arg 2; whnf); refine wp_need (by rw [w1, S_size]; omega) ?_
            (conv => arg 2; whnf); refine wp_pcallV (.cons (cByteAt hd w1 rfl) .nil) (isdigit_call d) ?_
            cases hdd : isDg d with
            | true =>
              rw [hdd, decide_eq_true h5', if_pos (by rw [h4']; rfl)] at hnx
              obtain ⟨w, n, e, hw⟩ := hret (nextR (s.drop at_))
              replace f3 : ∀ h, PCall Tryz.prog 91 [str s, i64V at_] (.tup [wdV w, n, e]) := fun h => by have := f3 h; rw [← hnx, hw] at this; exact this
              (repeat ((conv => arg 2; whnf); first | refine wp_ite (fun _ => ?_) (fun h => Bool.noConfusion h) | refine wp_ite (fun h => Bool.noConfusion h) (fun _ => ?_)))
              (conv => arg 2; whnf); refine wp_pcall (f3 (.inr ⟨h4', h5', hdd⟩)) ?_
              (conv => arg 2; whnf); refine wp_store' 0 rfl (Nat.le_of_ble_eq_true rfl) rfl ?_
              (conv => arg 2; whnf); refine w_ret3cE (cs := wdL w) b 0 0 rfl rfl rfl rfl rfl (.refl _) (.refl _) (.refl _) hw.symm
            | false =>
              rw [hdd, Bool.and_false, if_neg (by decide)] at hnx
              (repeat ((conv => arg 2; whnf); first | refine wp_ite (fun _ => ?_) (fun h => Bool.noConfusion h) | refine wp_ite (fun h => Bool.noConfusion h) (fun _ => ?_)))
              (conv => arg 2; whnf); refine wp_cutR (frL [(0, str s), (1, i64V at_), (4, .loc b 0), (7, byteV c)]) _ (.cons (.refl _) (.cons (.refl _) (.cons (.refl _) (.cons (.refl _) (.nil _))))) (List.Sublist.refl _) ?_
              obtain ⟨w, n, e, hw⟩ := hret (nextR (s.drop at_))
              (conv => arg 2; whnf); refine wp_ite (fun h6 => ?_) (fun h6 => ?_)
              · rw [c_int_eq c 34 34 rfl] at h6
                rw [if_pos (by simpa using h6)] at hnx
                rw [← hnx, hw] at f4
                (conv => arg 2; whnf); refine wp_pcall f4 ?_
                (conv => arg 2; whnf); refine wp_store' 0 rfl (Nat.le_of_ble_eq_true rfl) rfl ?_
                (conv => arg 2; whnf); refine w_ret3cE (cs := wdL w) b 0 0 rfl rfl rfl rfl rfl (.refl _) (.refl _) (.refl _) hw.symm
              · rw [c_int_eq c 34 34 rfl] at h6
                rw [if_neg (by simpa using h6)] at hnx
                rw [← hnx, hw] at f5
                (conv => arg 2; whnf); refine wp_cutR (frL [(0, str s), (1, i64V at_), (4, .loc b 0)]) _ (.cons (.refl _) (.cons (.refl _) (.cons (.refl _) (.nil _)))) (List.Sublist.refl _) ?_
                (conv => arg 2; whnf); refine wp_pcall f5 ?_
                (conv => arg 2; whnf); refine wp_store' 0 rfl (Nat.le_of_ble_eq_true rfl) rfl ?_
                (conv => arg 2; whnf); refine w_ret3cE (cs := wdL w) b 0 0 rfl rfl rfl rfl rfl (.refl _) (.refl _) (.refl _) hw.symm
          · have h5' : ¬ at_ + 1 < s.length := by rw [w1] at h5; have := of_decide_eq_false h5; rw [S_size] at this; omega
            rw [decide_eq_false h5', Bool.and_false, Bool.false_and, if_neg (by decide)] at hnx
            (repeat ((conv => arg 2; whnf); first | refine wp_ite (fun _ => ?_) (fun h => Bool.noConfusion h) | refine wp_ite (fun h => Bool.noConfusion h) (fun _ => ?_)))
            (conv => arg 2; whnf); refine wp_cutR (frL [(0, str s), (1, i64V at_), (4, .loc b 0), (7, byteV c)]) _ (.cons (.refl _) (.cons (.refl _) (.cons (.refl _) (.cons (.refl _) (.nil _))))) (List.Sublist.refl _) ?_
            obtain ⟨w, n, e, hw⟩ := hret (nextR (s.drop at_))
            (conv => arg 2; whnf); refine wp_ite (fun h6 => ?_) (fun h6 => ?_)
            · rw [c_int_eq c 34 34 rfl] at h6
              rw [if_pos (by simpa using h6)] at hnx
              rw [← hnx, hw] at f4
              (conv => arg 2; whnf); refine wp_pcall f4 ?_
              (conv => arg 2; whnf); refine wp_store' 0 rfl (Nat.le_of_ble_eq_true rfl) rfl ?_
              (conv => arg 2; whnf); refine w_ret3cE (cs := wdL w) b 0 0 rfl rfl rfl rfl rfl (.refl _) (.refl _) (.refl _) hw.symm
            · rw [c_int_eq c 34 34 rfl] at h6
              rw [if_neg (by simpa using h6)] at hnx
              rw [← hnx, hw] at f5
              (conv => arg 2; whnf); refine wp_cutR (frL [(0, str s), (1, i64V at_), (4, .loc b 0)]) _ (.cons (.refl _) (.cons (.refl _) (.cons (.refl _) (.nil _)))) (List.Sublist.refl _) ?_
              (conv => arg 2; whnf); refine wp_pcall f5 ?_
              (conv => arg 2; whnf); refine wp_store' 0 rfl (Nat.le_of_ble_eq_true rfl) rfl ?_
              (conv => arg 2; whnf); refine w_ret3cE (cs := wdL w) b 0 0 rfl rfl rfl rfl rfl (.refl _) (.refl _) (.refl _) hw.symm
        · rw [c_int_eq c 45 45 rfl] at h4
          have h4' : (c == 45) = false := by simpa using h4
          rw [h4', Bool.false_and, Bool.false_and, if_neg (by decide)] at hnx
          (repeat ((conv => arg 2; whnf); first | refine wp_ite (fun _ => ?_) (fun h => Bool.noConfusion h) | refine wp_ite (fun h => Bool.noConfusion h) (fun _ => ?_)))
          (conv => arg 2; whnf); refine wp_cutR (frL [(0, str s), (1, i64V at_), (4, .loc b 0), (7, byteV c)]) _ (.cons (.refl _) (.cons (.refl _) (.cons (.refl _) (.cons (.refl _) (.nil _))))) (List.Sublist.refl _) ?_
          obtain ⟨w, n, e, hw⟩ := hret (nextR (s.drop at_))
          (conv => arg 2; whnf); refine wp_ite (fun h6 => ?_) (fun h6 => ?_)
          · rw [c_int_eq c 34 34 rfl] at h6
            rw [if_pos (by simpa using h6)] at hnx
            rw [← hnx, hw] at f4
            (conv => arg 2; whnf); refine wp_pcall f4 ?_
            (conv => arg 2; whnf); refine wp_store' 0 rfl (Nat.le_of_ble_eq_true rfl) rfl ?_
            (conv => arg 2; whnf); refine w_ret3cE (cs := wdL w) b 0 0 rfl rfl rfl rfl rfl (.refl _) (.refl _) (.refl _) hw.symm
          · rw [c_int_eq c 34 34 rfl] at h6
            rw [if_neg (by simpa using h6)] at hnx
            rw [← hnx, hw] at f5
            (conv => arg 2; whnf); refine wp_cutR (frL [(0, str s), (1, i64V at_), (4, .loc b 0)]) _ (.cons (.refl _) (.cons (.refl _) (.cons (.refl _) (.nil _)))) (List.Sublist.refl _) ?_
            (conv => arg 2; whnf); refine wp_pcall f5 ?_
            (conv => arg 2; whnf); refine wp_store' 0 rfl (Nat.le_of_ble_eq_true rfl) rfl ?_
            (conv => arg 2; whnf); refine w_ret3cE (cs := wdL w) b 0 0 rfl rfl rfl rfl rfl (.refl _) (.refl _) (.refl _) hw.symm
end Go.Sv
/- The package word: all words of a text, one behind the other. -/
namespace Go.Sv
open Go Go.Proofs

theorem itemsF_cons (f at_ : Nat) (c : UInt8) (r : List UInt8) : itemsF (f + 1) at_ (c :: r) = if c = 32 then itemsF f (at_ + 1) r else
    match nextR (c :: r) with
    | .error e => [(wd0, some e)]
    | .ok x => (x.wd at_, none) :: itemsF f (at_ + x.len) ((c :: r).drop x.len) := rfl
def itemA (p : Wd × Option Nat) : List V := [wdV p.1, .c (errV p.2)]
def wordsFn (s : List UInt8) : V := .fn (.func 70) [] [.pt none (str s) 0]

set_option maxRecDepth 100000 in
theorem words_call (s : List UInt8) : PCall Tryz.prog 40 [str s] (wordsFn s) := by
  refine scall_of (live := []) (ords := []) Tryz.func40 rfl (by kernel_rfl) (by kernel_rfl) (Nat.le_of_ble_eq_true rfl) ?_
  (conv => arg 2; whnf); refine w_retp rfl (Vle.eq ?_)
  rfl

set_option maxRecDepth 100000 in
set_option maxHeartbeats 1000000 in
theorem words_iter (s : List UInt8) (hs : s.length < 2 ^ 40) : Iter Tryz.prog 70 [] [.pt none (str s) 0] ((itemsF s.length 0 s).map itemA) := by
  refine ⟨⟨_, _, Tryz.func70, rfl, by kernel_rfl⟩, fun l I E R0 h0 hy => ?_⟩
  obtain ⟨L, hL⟩ : ∃ L, L = itemsF s.length 0 s := ⟨_, rfl⟩
  rw [← hL] at hy ⊢
  refine scall_of (live := []) (ords := []) Tryz.func70 rfl (by kernel_rfl) (by kernel_rfl) (Nat.le_of_ble_eq_true rfl) ?_
  (conv => arg 2; whnf); refine wp_loop (fun m fr R => ∃ a n f : Nat, m = s.length - a ∧ a ≤ s.length ∧ s.length - a ≤ f ∧ L.drop n = itemsF f a (s.drop a) ∧ n ≤ L.length ∧ I n R ∧
      fr = frL [(0, .fn (.yield l) [] []), (1, .pt none (str s) 0), (3, i64V a)])
    s.length _ _ (.cons (.refl _) (.cons (.refl _) (.cons (.refl _) (.nil _)))) (List.Sublist.refl _) ⟨0, 0, s.length, rfl, Nat.zero_le _, by omega, by rw [hL]; rfl, Nat.zero_le _, h0, rfl⟩ ?_
  rintro m fr R ⟨a, n, f, rfl, ha, hf, hLn, hn, hI, rfl⟩
  have w1 : IntKind.i64.wrap ((a : Int) + 1) = ((a + 1 : Nat) : Int) := wadd (by omega) (by omega) (by omega)
  (conv => arg 2; whnf); refine wp_ite (fun h => ?_) (fun h => ?_)
  · have h : a < s.length := by have := of_decide_eq_true h; rw [S_size] at this; omega
    obtain ⟨c, hc⟩ : ∃ c, s[a]? = some c := ⟨_, List.getElem?_eq_getElem h⟩
    have hd := drop_at hc
    obtain ⟨f, rfl⟩ : ∃ f', f = f' + 1 := ⟨f - 1, by omega⟩
    rw [hd, itemsF_cons] at hLn
    have hb : byteAt (S s) (Int.toNat (a : Int)) = c := byte_at hc
    (conv => arg 2; whnf); refine wp_need (by rw [S_size]; omega) ?_
    (conv => arg 2; whnf); refine wp_ite (fun h1 => ?_) (fun h1 => ?_)
    · rw [hb, c_int_eq c 32 32 rfl] at h1
      rw [if_pos (of_decide_eq_true h1)] at hLn
      (conv => arg 2; whnf)
      exact wp_leaf (loop_next (s.length - (a + 1)) _ _ (by omega) (.cons (.refl _) (.cons (.refl _) (.cons (Vle.i64 _ rfl w1) (.nil _)))) (List.Sublist.refl _) ⟨a + 1, n, f, rfl, h, by omega, hLn, hn, hI, rfl⟩)
    · rw [hb, c_int_eq c 32 32 rfl] at h1
      rw [if_neg (of_decide_eq_false h1), ← hd] at hLn
      have f1 := next_call s a h hs
      have hlen := @nextR_len (s.drop a)
      generalize nextR (s.drop a) = x at hLn f1 hlen
      have hlt : n < L.length := by
        rcases Nat.lt_or_ge n L.length with h2 | h2
        · exact h2
        · rw [List.drop_eq_nil_of_le h2] at hLn
          cases x <;> cases hLn
      have hget : ∀ p r, L.drop n = p :: r → (L.map itemA)[n]? = some (itemA p) ∧ L.drop (n + 1) = r := by
        intro p r e
        rw [List.drop_eq_getElem_cons hlt] at e
        injection e with e1 e2
        exact ⟨by rw [List.getElem?_map, List.getElem?_eq_getElem hlt, e1]; rfl, e2⟩
      cases x with
      | error e =>
        obtain ⟨g1, g2⟩ := hget _ _ hLn
        (conv => arg 2; whnf); refine wp_pcall f1 ?_
        (conv => arg 2; whnf); refine wp_allocE (wdL wd0) rfl fun b => ?_
        (conv => arg 2; whnf); refine wp_storeE (cs := wdL wd0) R.length 0 (wdL wd0) (by simp) rfl (VleL.refl _) (Nat.le_refl _) rfl (R' := R ++ [.obj b (wdL wd0)]) (by simp [splice, wdL]) ?_
        (conv => arg 2; whnf); refine wp_load (cs := wdL wd0) R.length (by simp) rfl ?_
        have hyy := (hy n _ R g1 hI).frame (A := []) (B := [.obj b (wdL wd0)])
        rw [List.nil_append] at hyy
        (conv => arg 2; whnf); refine wp_yld hyy ?_
        rintro b' R' ⟨R2, ⟨rfl, hI2⟩ | ⟨rfl, hE⟩, rfl⟩
        · (repeat ((conv => arg 2; whnf); first | refine wp_ite (fun _ => ?_) (fun h => Bool.noConfusion h) | refine wp_ite (fun h => Bool.noConfusion h) (fun _ => ?_)))
          have hend : n + 1 = (L.map itemA).length := by
            rw [List.length_map]
            have := congrArg List.length hLn
            simp at this; omega
          (conv => arg 2; whnf); refine w_ret0 rfl (by rw [List.nil_append]; exact List.sublist_append_left _ _) (.inl (hend ▸ hI2))
        · (repeat ((conv => arg 2; whnf); first | refine wp_ite (fun _ => ?_) (fun h => Bool.noConfusion h) | refine wp_ite (fun h => Bool.noConfusion h) (fun _ => ?_)))
          (conv => arg 2; whnf); refine w_ret0 rfl (by rw [List.nil_append]; exact List.sublist_append_left _ _) (.inr hE)
      | ok x =>
        obtain ⟨g1, g2⟩ := hget _ _ hLn
        obtain ⟨k1, k2⟩ := hlen (by rw [hd]; simp) rfl
        rw [List.length_drop] at k2
        rw [List.drop_drop] at g2
        have w2 : IntKind.i64.wrap ((a : Int) + x.len) = ((a + x.len : Nat) : Int) := wadd (by omega) (by omega) (by omega)
        (conv => arg 2; whnf); refine wp_pcall f1 ?_
        (conv => arg 2; whnf); refine wp_allocE (wdL wd0) rfl fun b => ?_
        (conv => arg 2; whnf); refine wp_storeE (cs := wdL wd0) R.length 0 (wdL (x.wd a)) (by simp) rfl (VleL.refl _) (Nat.le_refl _) rfl (R' := R ++ [.obj b (wdL (x.wd a))]) (by simp [splice, wdL]) ?_
        (conv => arg 2; whnf); refine wp_load (cs := wdL (x.wd a)) R.length (by simp) rfl ?_
        have hyy := (hy n _ R g1 hI).frame (A := []) (B := [.obj b (wdL (x.wd a))])
        rw [List.nil_append] at hyy
        (conv => arg 2; whnf); refine wp_yld hyy ?_
        rintro b' R' ⟨R2, ⟨rfl, hI2⟩ | ⟨rfl, hE⟩, rfl⟩
        · (repeat ((conv => arg 2; whnf); first | refine wp_ite (fun _ => ?_) (fun h => Bool.noConfusion h) | refine wp_ite (fun h => Bool.noConfusion h) (fun _ => ?_)))
          (conv => arg 2; whnf)
          refine wp_leaf (loop_next (s.length - (a + x.len)) _ R2 (by omega) (.cons (.refl _) (.cons (.refl _) (.cons (Vle.i64 _ rfl w2) (.nil _)))) (by rw [List.nil_append]; exact List.sublist_append_left _ _) ⟨a + x.len, n + 1, f, rfl, by omega, by omega, g2, by omega, hI2, rfl⟩)
        · (repeat ((conv => arg 2; whnf); first | refine wp_ite (fun _ => ?_) (fun h => Bool.noConfusion h) | refine wp_ite (fun h => Bool.noConfusion h) (fun _ => ?_)))
          (conv => arg 2; whnf)
          refine wp_leaf (loop_ret ?_)
          (conv => arg 2; whnf); refine w_ret0 rfl (by rw [List.nil_append]; exact List.sublist_append_left _ _) (.inr hE)
  · have h : a = s.length := by have := of_decide_eq_false h; rw [S_size] at this; omega
    have hend : n = (L.map itemA).length := by
      rw [List.length_map]
      rw [h, List.drop_length] at hLn
      have e : itemsF f s.length [] = [] := by cases f <;> rfl
      rw [e] at hLn
      have := List.drop_eq_nil_iff.1 hLn
      omega
    (conv => arg 2; whnf)
    refine wp_leaf (loop_exit ?_)
    (conv => arg 2; whnf); refine w_norm0 rfl (List.Sublist.refl _) (.inl (hend ▸ hI))
end Go.Sv
/- The package word: a text cut into words. -/
namespace Go.Sv
open Go Go.Proofs

theorem collect_none (out : List Wd) (w : Wd) (l : List (Wd × Option Nat)) : collect out ((w, none) :: l) = if 500 < (out ++ [w]).length then .error 12 else collect (out ++ [w]) l := rfl
theorem collect_some (out : List Wd) (w : Wd) (e : Nat) (l : List (Wd × Option Nat)) : collect out ((w, some e) :: l) = .error e := rfl
def wslV (l : List Wd) : V := .sl (some 4) (l.map wdV) .no
def cutV : Except Nat (List Wd) → V
  | .ok l => .tup [wslV l, .c .nilIface]
  | .error e => .tup [wslV [], .c (errV (some e))]
theorem okE_wd (l : List Wd) : ∀ y ∈ l.map wdV, okE (some 4) y := by
  intro y hy
  obtain ⟨w, _, rfl⟩ := List.mem_map.1 hy
  exact ⟨_, rfl, rfl, by intro c hc; simp at hc; rcases hc with rfl | rfl | rfl | rfl <;> rfl⟩

set_option maxRecDepth 100000 in
set_option maxHeartbeats 1000000 in
theorem cut_call (s : List UInt8) (hs : s.length < 2 ^ 40) : PCall Tryz.prog 18 [str s] (cutV (cutW s)) := by
  have hit := words_iter s hs
  rw [cutW]
  generalize itemsF s.length 0 s = L at *
  refine scall_of (live := []) (ords := [(8, [])]) Tryz.func18 rfl (by kernel_rfl) (by kernel_rfl) (Nat.le_of_ble_eq_true rfl) ?_
  (conv => arg 2; whnf); refine wp_allocE [.sl none [] .zero] rfl fun b2 => ?_
  (conv => arg 2; whnf); refine wp_allocE [.c .nilIface] rfl fun b3 => ?_
  (conv => arg 2; whnf); refine wp_allocE [.sl none [] .zero] rfl fun b4 => ?_
  (conv => arg 2; whnf); refine wp_pcall (words_call s) ?_
  (conv => arg 2; whnf); refine wp_range hit (fun i R => ∃ t ws, R = [.obj b2 [.sl none [] .zero], .obj b3 [.c .nilIface], .obj b4 [.sl (shOf (some 4) t) (ws.map wdV) (tkOf t)]] ++ tokR (some 4) t ∧ (t = none → ws = []) ∧ ws.length ≤ 500 ∧ collect [] L = collect ws (L.drop i))
    ⟨none, [], rfl, fun _ => rfl, Nat.zero_le _, rfl⟩ ?_ ?_ ?_
  · intro i args h
    rw [List.getElem?_map] at h
    obtain ⟨p, _, rfl⟩ := Option.map_eq_some_iff.1 h
    rfl
  · rintro i args R1 h ⟨t, ws, rfl, ht, hlen, hcol⟩
    rw [List.getElem?_map] at h
    obtain ⟨⟨w, e⟩, hi, rfl⟩ := Option.map_eq_some_iff.1 h
    rw [drop_at hi] at hcol
    have hcat : ∀ x : Res, [Res.obj b2 [.sl none [] .zero], .obj b3 [.c .nilIface], .obj b4 [.sl (shOf (some 4) t) (ws.map wdV) (tkOf t)]] ++ tokR (some 4) t ++ [x] = [.obj b2 [.sl none [] .zero], .obj b3 [.c .nilIface], .obj b4 [.sl (shOf (some 4) t) (ws.map wdV) (tkOf t)]] ++ (tokR (some 4) t ++ [x]) := fun x => List.append_assoc _ _ _
    (conv => arg 2; whnf); refine wp_allocE (wdL wd0) rfl fun b5 => ?_
    rw [hcat]
    have hidx : ∀ x : Res, ([Res.obj b2 [.sl none [] .zero], .obj b3 [.c .nilIface], .obj b4 [.sl (shOf (some 4) t) (ws.map wdV) (tkOf t)]] ++ (tokR (some 4) t ++ [x]))[3 + (tokR (some 4) t).length]? = some x := by
      intro x; cases t <;> rfl
    have hset : ∀ x y : Res, ([Res.obj b2 [.sl none [] .zero], .obj b3 [.c .nilIface], .obj b4 [.sl (shOf (some 4) t) (ws.map wdV) (tkOf t)]] ++ (tokR (some 4) t ++ [x])).set (3 + (tokR (some 4) t).length) y = [Res.obj b2 [.sl none [] .zero], .obj b3 [.c .nilIface], .obj b4 [.sl (shOf (some 4) t) (ws.map wdV) (tkOf t)]] ++ (tokR (some 4) t ++ [y]) := by
      intro x y; cases t <;> rfl
    (conv => arg 2; whnf); refine wp_storeE (cs := wdL wd0) (3 + (tokR (some 4) t).length) 0 (wdL w) (hidx _) rfl (VleL.refl _) (Nat.le_refl _) rfl (hset _ _) ?_
    have hsp : splice (wdL wd0) 0 (wdL w) = wdL w := rfl
    rw [hsp]
    cases e with
    | some e =>
      rw [collect_some] at hcol
      (repeat ((conv => arg 2; whnf); first | refine wp_ite (fun _ => ?_) (fun h => Bool.noConfusion h) | refine wp_ite (fun h => Bool.noConfusion h) (fun _ => ?_)))
      (conv => arg 2; whnf); refine wp_storeE (cs := [.sl none [] .zero]) 0 0 [.sl none [] .zero] rfl rfl (VleL.refl _) (Nat.le_refl _) rfl rfl ?_
      (conv => arg 2; whnf); refine wp_storeE (cs := [.c .nilIface]) 1 0 [.c (errV (some e))] rfl rfl (VleL.refl _) (Nat.le_refl _) rfl rfl ?_
      rw [hcol]
      (conv => arg 2; whnf); refine w_ret2cc (cs := [.sl none [] .zero]) (ds := [.c (errV (some e))]) b2 0 0 b3 0 1 rfl rfl rfl rfl rfl rfl rfl rfl rfl (Vle.nil _ _ _) (.refl _)
    | none =>
      rw [collect_none] at hcol
      (repeat ((conv => arg 2; whnf); first | refine wp_ite (fun _ => ?_) (fun h => Bool.noConfusion h) | refine wp_ite (fun h => Bool.noConfusion h) (fun _ => ?_)))
      (conv => arg 2; whnf); refine wp_load (cs := [.sl (shOf (some 4) t) (ws.map wdV) (tkOf t)]) 2 rfl rfl ?_
      (conv => arg 2; whnf); refine wp_load (cs := wdL w) (3 + (tokR (some 4) t).length) (hidx _) rfl ?_
      (conv => arg 2; whnf); refine wp_append_x (sh := some 4) (ys := [wdV w]) (fun h => by rw [ht h]; rfl) (okE_wd [w]) (show (_ + 1) * 40 ≤ _ by simp; omega) (fun t' S hS => ?_)
      (conv => arg 2; whnf); refine wp_storeE (cs := [.sl (shOf (some 4) t) (ws.map wdV) (tkOf t)]) (R' := [.obj b2 [.sl none [] .zero], .obj b3 [.c .nilIface], .obj b4 [.sl (some 4) ((ws ++ [w]).map wdV) (.t t')]] ++ S) 2 0 [.sl (some 4) ((ws ++ [w]).map wdV) (.t t')] rfl rfl (VleL_eq (by rw [List.map_append]; rfl)) (Nat.le_refl _) rfl rfl ?_
      (conv => arg 2; whnf); refine wp_cutR (frL [(2, .loc b2 0), (3, .loc b3 0), (4, .loc b4 0)]) ([.obj b2 [.sl none [] .zero], .obj b3 [.c .nilIface], .obj b4 [.sl (some 4) ((ws ++ [w]).map wdV) (.t t')]] ++ [.tok t' (some 4)]) (.cons (.refl _) (.cons (.refl _) (.cons (.refl _) (.nil _)))) ((List.Sublist.refl _).append hS) ?_
      (conv => arg 2; whnf); refine wp_load (cs := [.sl (some 4) ((ws ++ [w]).map wdV) (.t t')]) 2 rfl rfl ?_
      (conv => arg 2; whnf); refine wp_ite (fun h5 => ?_) (fun h5 => ?_)
      · have h5 : 500 < (ws ++ [w]).length := by have := of_decide_eq_true h5; rw [List.length_map] at this; omega
        rw [if_pos h5] at hcol
        (conv => arg 2; whnf); refine wp_storeE (cs := [.sl none [] .zero]) 0 0 [.sl none [] .zero] rfl rfl (VleL.refl _) (Nat.le_refl _) rfl rfl ?_
        (conv => arg 2; whnf); refine wp_storeE (cs := [.c .nilIface]) 1 0 [.c (errV (some 12))] rfl rfl (VleL.refl _) (Nat.le_refl _) rfl rfl ?_
        rw [hcol]
        (conv => arg 2; whnf); refine w_ret2cc (cs := [.sl none [] .zero]) (ds := [.c (errV (some 12))]) b2 0 0 b3 0 1 rfl rfl rfl rfl rfl rfl rfl rfl rfl (Vle.nil _ _ _) (.refl _)
      · have h5 : ¬ 500 < (ws ++ [w]).length := by have := of_decide_eq_false h5; rw [List.length_map] at this; omega
        rw [if_neg h5] at hcol
        (conv => arg 2; whnf)
        exact wp_leaf ⟨some t', ws ++ [w], rfl, (fun h => by cases h), by omega, hcol⟩
  · rintro R1 ⟨t, ws, rfl, ht, hlen, hcol⟩
    rw [List.length_map, List.drop_length] at hcol
    rw [hcol]
    (conv => arg 2; whnf); refine wp_load (cs := [.sl (shOf (some 4) t) (ws.map wdV) (tkOf t)]) 2 rfl rfl ?_
    (conv => arg 2; whnf); refine wp_storeE (cs := [.sl none [] .zero]) 0 0 [.sl (shOf (some 4) t) (ws.map wdV) (tkOf t)] rfl rfl (VleL.refl _) (Nat.le_refl _) rfl rfl ?_
    (conv => arg 2; whnf); refine wp_storeE (cs := [.c .nilIface]) 1 0 [.c .nilIface] rfl rfl (VleL.refl _) (Nat.le_refl _) rfl rfl ?_
    (conv => arg 2; whnf); refine w_ret2cc (cs := [.sl (shOf (some 4) t) (ws.map wdV) (tkOf t)]) (ds := [.c .nilIface]) b2 0 0 b3 0 1 rfl rfl rfl rfl rfl rfl rfl rfl rfl ?_ (.refl _)
    cases t with
    | none => rw [ht rfl]; exact Vle.nil _ _ _
    | some t => exact Vle.sl _ _ _
end Go.Sv
/- Functions of Go's library that the package show calls. -/
namespace Go.Sv
open Go Go.Proofs Go.RowKit

theorem decDigits_natD (n : Nat) : Lib.decDigits n = natD n := by
  induction n using Nat.strongRecOn with
  | _ n ih =>
    rw [Lib.decDigits, natD]
    split
    · rfl
    · rw [ih (n / 10) (by omega)]
theorem itoa_decD (n : Int) : Lib.itoa n = decD n := by
  rw [Lib.itoa, decD, decDigits_natD, decDigits_natD]
  split
  · rfl
  · rw [show n.toNat = n.natAbs by omega]

theorem index_ne {b c : UInt8} (l : List UInt8) (h : b ≠ c) : Lib.index (b :: l) [c] = if Lib.index l [c] == -1 then -1 else Lib.index l [c] + 1 := by
  rw [Lib.index, if_neg]
  simp [List.isPrefixOf]
  exact fun e => h e.symm
theorem index_eq (c : UInt8) (l : List UInt8) : Lib.index (c :: l) [c] = ((0 : Nat) : Int) := by rw [Lib.index]; simp [List.isPrefixOf]
theorem replaceK_ne {b c : UInt8} (new : List UInt8) (h : b ≠ c) : ∀ (k : Nat) (l : List UInt8), Lib.replaceK [c] new k (b :: l) = b :: Lib.replaceK [c] new k l
  | 0, _ => rfl
  | k + 1, l => by
    have hge := Lib.index_ge l [c]
    by_cases hm : Lib.index l [c] = -1
    · have h1 : Lib.index (b :: l) [c] = -1 := by rw [index_ne l h, hm]; rfl
      rw [Lib.replaceK, Lib.replaceK, h1, hm]; rfl
    · obtain ⟨i, hi⟩ : ∃ i : Nat, Lib.index l [c] = i := ⟨(Lib.index l [c]).toNat, by omega⟩
      have h1 : Lib.index (b :: l) [c] = ((i + 1 : Nat) : Int) := by
        rw [index_ne l h, if_neg (by simpa using hm), hi]; omega
      rw [Lib.replaceK_hit _ _ _ _ _ h1, Lib.replaceK_hit _ _ _ _ _ hi]
      simp only [List.take_succ_cons, List.cons_append, List.length_singleton, List.drop_succ_cons]
theorem replaceK_all (c : UInt8) (new : List UInt8) : ∀ (s : List UInt8) (k : Nat), s.count c ≤ k → Lib.replaceK [c] new k s = s.flatMap fun b => if b = c then new else [b]
  | [], 0, _ => rfl
  | [], k + 1, _ => by rw [Lib.replaceK]; rfl
  | b :: l, k, hk => by
    by_cases h : b = c
    · subst h
      rw [List.count_cons_self] at hk
      obtain ⟨m, rfl⟩ : ∃ m, k = m + 1 := ⟨k - 1, by omega⟩
      rw [Lib.replaceK_hit _ _ _ _ _ (index_eq b l)]
      simp only [List.take_zero, List.nil_append, List.length_singleton, Nat.zero_add, List.drop_succ_cons, List.drop_zero, List.flatMap_cons, if_true]
      rw [replaceK_all b new l m (by omega)]
    · rw [List.count_cons_of_ne (by simpa using h)] at hk
      rw [replaceK_ne new h, replaceK_all c new l k hk, List.flatMap_cons, if_neg h]; rfl
theorem replaceAll_one (s new : List UInt8) (c : UInt8) (h : [c] ≠ new) : Lib.replaceAll s [c] new = s.flatMap fun b => if b = c then new else [b] := by
  rw [Lib.replaceAll, Lib.replace, if_neg (by simpa using h)]
  refine replaceK_all c new s _ ?_
  rw [Lib.replaceNum, if_pos (.inl (by omega)), Lib.count_one]
  exact Nat.le_refl _
theorem replace_esc (s : List UInt8) : (s.flatMap fun b => if b = 92 then [92, 92] else [b]).flatMap (fun b => if b = 34 then [92, 34] else [b]) = esc s := by
  rw [esc, List.flatMap_assoc]
  congr 1
  funext b
  by_cases h : b = 92
  · subst h; rfl
  · rw [if_neg h]
    by_cases h2 : b = 34
    · subst h2; rfl
    · simp [escB, h, h2]

theorem replaceall_fn : isFn Tryz.prog 96 := ⟨_, _, Tryz.func96, rfl, by kernel_rfl⟩
theorem replaceall_call (s new : List UInt8) (c : UInt8) (h : [c] ≠ new) (hs : s.length < 2 ^ 30) (hn : new.length ≤ 2) : PCall Tryz.prog 96 [str s, str [c], str new] (str (s.flatMap fun b => if b = c then new else [b])) :=
  pcall_of_below replaceall_fn fun g w xs hw hx => by
    simp only [RelL, RelV, str] at hx
    obtain ⟨_, _, rfl, rfl, _, _, rfl, rfl, _, _, rfl, rfl, rfl⟩ := hx
    obtain ⟨_, h1, ⟨m, rfl⟩, _⟩ := hw.st.1 (4, 0, fun v => ∃ m : Int, v = .int .i64 m) (by simp [statics])
    have hc := Lib.countB_le (S [c]) (by rw [S_size]; simp) (S s).size (S s) (Nat.le_refl _)
    have hmul : Lib.countB (S s) (S [c]) * (S new).size ≤ s.length * 2 := Nat.mul_le_mul (by rw [← S_size s]; exact hc) (by rw [S_size]; exact hn)
    refine (Tryz.strings_ReplaceAll (S s) (S [c]) (S new) m w (by rw [S_size]; omega) h1 (by rw [S_size]; simp) (by rw [S_size]; omega)).mono ?_
    rintro e w' ⟨rfl, hw'⟩
    refine ⟨_, rfl, hw', ?_⟩
    simp only [S_list]
    rw [replaceAll_one s new c h]; rfl

theorem gPow : Tryz.prog.globalNamed "internal/strconv.uint64pow10" = some 1 := by kernel_rfl
theorem tab_is {g : Gh} {w : World} (hw : Wf g w) : Lib.TabIs Tryz.prog w "internal/strconv.uint64pow10" .u64 Lib.pow10Tab := by
  have hz := (hw.st.2 (1, 20) (by simp [sized])).2
  have hc : ∀ i, i < 20 → cell w 1 i = some (.int .u64 ((10 ^ i : Nat) : Int)) := fun i hi => by
    obtain ⟨v, h1, h2, _⟩ := hw.st.1 (1, i, fun v => v = .int .u64 ((10 ^ i : Nat) : Int)) (List.mem_append_right _ (List.mem_map.2 ⟨i, List.mem_range.2 hi, rfl⟩))
    rw [h1, h2]
  unfold Lib.TabIs World.var?
  rw [gPow]
  simp only [Option.bind_some]
  have h0 := hc 0 (by omega)
  unfold cell World.cell? at h0 hc hz
  cases hh : w.heap[1]? with
  | none => simp [hh] at h0
  | some ob =>
    cases ob <;> simp [hh] at h0
    rename_i cs e f
    simp only [hh] at hc hz
    have hz' : cs.size ≤ 20 := by simpa using hz
    have hs : cs.size = 20 := by
      have := (Array.getElem?_eq_some_iff.1 (hc 19 (by omega))).1
      omega
    simp only [Option.some.injEq]
    apply Array.ext
    · simp [hs, Lib.pow10Tab]
    · intro i h1 h2
      have h3 := hc i (by omega)
      rw [Array.getElem?_eq_getElem h1] at h3
      rw [Option.some.inj h3]
      simp [Lib.pow10Tab]

theorem below_grow' (w : World) (k : Nat) (os : Array Obj) : Below w.heap.size w (Sort.grow (w.drewN k) os) :=
  ⟨rfl, rfl, rfl, by simp [Sort.grow], fun i hi => by
    show ((w.drewN k).heap ++ os)[i]? = _
    rw [Array.getElem?_append_left (by show i < w.heap.size; omega)]
    rfl⟩
theorem formatint_fn : isFn Tryz.prog 95 := ⟨_, _, Tryz.func95, rfl, by kernel_rfl⟩
theorem formatint_call (n : Int) (h1 : -9223372036854775808 ≤ n) (h2 : n < 9223372036854775808) : PCall Tryz.prog 95 [i64V n, i64V 10] (str (decD n)) :=
  pcall_of_below formatint_fn fun g w xs hw hx => by
    simp only [RelL, RelV, i64V] at hx
    obtain ⟨_, _, rfl, rfl, _, _, rfl, rfl, rfl⟩ := hx
    refine (Tryz.strconv_FormatInt_10 n h1 (by omega) w (tab_is hw)).mono ?_
    rintro e w' ⟨rfl, k, os, rfl⟩
    refine ⟨_, rfl, below_grow' w k os, ?_⟩
    rw [itoa_decD]; rfl
theorem itoa_fn : isFn Tryz.prog 152 := ⟨_, _, Tryz.func152, rfl, by kernel_rfl⟩
theorem itoa_call (n : Int) (h1 : -9223372036854775808 ≤ n) (h2 : n < 9223372036854775808) : PCall Tryz.prog 152 [i64V n] (str (decD n)) :=
  pcall_of_below itoa_fn fun g w xs hw hx => by
    simp only [RelL, RelV, i64V] at hx
    obtain ⟨_, _, rfl, rfl, rfl⟩ := hx
    refine (Tryz.strconv_Itoa n h1 (by omega) w (tab_is hw)).mono ?_
    rintro e w' ⟨rfl, k, os, rfl⟩
    refine ⟨_, rfl, below_grow' w k os, ?_⟩
    rw [itoa_decD]; rfl


end Go.Sv
/- The texts of values. -/
namespace Go.Sv
open Go Go.Proofs

theorem valIs_kind {v : Val} (h : valIs v = true) (h1 : v.kind ≠ 1) (h2 : v.kind ≠ 2) : v.kind = 3 := by
  rw [valIs, if_neg h1, if_neg h2] at h
  refine Classical.byContradiction fun h3 => ?_
  rw [if_neg h3] at h; cases h
theorem quoted_cat (s : List UInt8) : [34] ++ esc s ++ [34] = quoted s := by simp [quoted]

set_option maxRecDepth 100000 in
theorem showvalue_call (v : Val) (hv : ValSm v) : PCall Tryz.prog 72 [valV v] (str (showV v)) := by
  obtain ⟨hs, h1, h2⟩ := hv
  have fi := valueis_call v (by omega)
  have ff := formatint_call v.n h1 h2
  refine scall_of (live := []) (ords := []) Tryz.func72 rfl (by kernel_rfl) (by kernel_rfl) (Nat.le_of_ble_eq_true rfl) ?_
  (conv => arg 2; whnf); refine wp_pcall fi ?_
  (conv => arg 2; whnf); refine wp_ite (fun h3 => ?_) (fun h3 => ?_)
  · have h3 : valIs v = false := by simpa using h3
    (conv => arg 2; whnf); refine w_retp rfl (Vle.eq (congrArg str (showV_no h3).symm))
  have h3 : valIs v = true := by simpa using h3
  (conv => arg 2; whnf); refine wp_ite (fun h4 => ?_) (fun h4 => ?_)
  · have h4 : v.kind = 1 := by simpa using h4
    (conv => arg 2; whnf); refine wp_pcall ff ?_
    (conv => arg 2; whnf); refine w_retp rfl (Vle.eq (congrArg str (showV_1 h3 h4).symm))
  have h4 : v.kind ≠ 1 := by simpa using h4
  (conv => arg 2; whnf); refine wp_ite (fun h5 => ?_) (fun h5 => ?_)
  · have h5 : v.kind = 2 := by simpa using h5
    have hl : v.s.length ≤ 16 := by
      rw [valIs, if_neg h4, if_pos h5, Bool.and_eq_true, isTextB, Bool.and_eq_true] at h3
      exact of_decide_eq_true h3.2.2
    have r1 := replaceall_call v.s [92, 92] 92 (by decide) (by omega) (by decide)
    have le : (esc v.s).length ≤ 32 := by have := esc_len v.s; omega
    have l1 : (v.s.flatMap fun b => if b = 92 then [92, 92] else [b]).length ≤ 32 := by
      have : ∀ s : List UInt8, (s.flatMap fun b => if b = 92 then [92, 92] else [b]).length ≤ 2 * s.length := by
        intro s
        induction s with
        | nil => simp
        | cons b s ih =>
          rw [List.flatMap_cons, List.length_append, List.length_cons]
          split
          · simp only [List.length_cons, List.length_nil]; omega
          · simp only [List.length_cons, List.length_nil]; omega
      have := this v.s
      omega
    have r2 := replaceall_call (v.s.flatMap fun b => if b = 92 then [92, 92] else [b]) [92, 34] 34 (by decide) (by omega) (by decide)
    rw [replace_esc] at r2
    (conv => arg 2; whnf); refine wp_pcall r1 ?_
    (conv => arg 2; whnf); refine wp_pcall r2 ?_
    (conv => arg 2; whnf); refine wp_need (need2 (a := [34]) (b := esc v.s) (by simp only [List.length_cons, List.length_nil]; omega)) ?_
    (conv => arg 2; whnf); refine wp_need (need3 (a := [34]) (b := esc v.s) (c := [34]) (by simp only [List.length_cons, List.length_nil]; omega)) ?_
    (conv => arg 2; whnf); refine w_retp rfl (Vle.eq ((cat3 [34] _ [34]).trans (congrArg str ((quoted_cat v.s).trans (showV_2 h3 h5).symm))))
  have h5 : v.kind ≠ 2 := by simpa using h5
  (conv => arg 2; whnf); refine wp_ite (fun h6 => ?_) (fun h6 => ?_)
  · have h6 : v.n = 1 := by simpa using h6
    (conv => arg 2; whnf); refine w_retp rfl (Vle.eq (congrArg str (showV_t h3 h4 h5 h6).symm))
  · have h6 : v.n ≠ 1 := by simpa using h6
    (conv => arg 2; whnf); refine w_retp rfl (Vle.eq (congrArg str (showV_f h3 h4 h5 h6).symm))

theorem esc_next {s : List UInt8} {n : Nat} {c : UInt8} (h : s[n]? = some c) : esc (s.take (n + 1)) = esc (s.take n) ++ escB c := by
  rw [List.take_add_one, h]; exact esc_app _ _
theorem addOneQ {v : V} {s out : List UInt8} {i : Nat} {c : UInt8} (h : s[i]? = some c) {x y : Int} (hx : x = i) (hy : y = (i + 1 : Nat)) {t : List UInt8} (ht : t = out ++ [92] ++ [c]) (hv : v = V.c (.string (S out ++ S [92] ++ (S s).extract x.toNat y.toNat))) : Vle v (str t) := by
  rw [sliceOne h hx hy, S_append, S_append] at hv
  rw [ht]
  exact Vle.eq hv
theorem addOneE {v : V} {s out : List UInt8} {i : Nat} {c : UInt8} (h : s[i]? = some c) {x y : Int} (hx : x = i) (hy : y = (i + 1 : Nat)) {t : List UInt8} (ht : t = out ++ [c]) (hv : v = V.c (.string (S out ++ (S s).extract x.toNat y.toNat))) : Vle v (str t) := by
  rw [ht]; exact addOne h hx hy hv
theorem slice_one {s : List UInt8} {n : Nat} {c : UInt8} (h : s[n]? = some c) : (s.drop n).take (n + 1 - n) = [c] := by
  rw [drop_at h, show n + 1 - n = 1 by omega]; rfl
theorem c_eq (c k : UInt8) : (((c.toNat : Nat) : Int) == ((k.toNat : Nat) : Int)) = decide (c = k) := c_int_eq c k _ rfl

set_option maxRecDepth 100000 in
theorem refshowvalue_call (v : Val) (hv : ValSm v) : PCall Tryz.prog 52 [valV v] (str (showV v)) := by
  obtain ⟨hs, h1, h2⟩ := hv
  have fi := refvalue_call v (by omega)
  have ff := dec_call v.n h1 h2
  refine scall_of (live := []) (ords := []) Tryz.func52 rfl (by kernel_rfl) (by kernel_rfl) (Nat.le_of_ble_eq_true rfl) ?_
  (conv => arg 2; whnf); refine wp_pcall fi ?_
  (conv => arg 2; whnf); refine wp_ite (fun h3 => ?_) (fun h3 => ?_)
  · have h3 : valIs v = false := by simpa using h3
    (conv => arg 2; whnf); refine w_retp rfl (Vle.eq (congrArg str (showV_no h3).symm))
  have h3 : valIs v = true := by simpa using h3
  (conv => arg 2; whnf); refine wp_ite (fun h4 => ?_) (fun h4 => ?_)
  · have h4 : v.kind = 1 := by simpa using h4
    (conv => arg 2; whnf); refine wp_pcall ff ?_
    (conv => arg 2; whnf); refine w_retp rfl (Vle.eq (congrArg str (showV_1 h3 h4).symm))
  have h4 : v.kind ≠ 1 := by simpa using h4
  (conv => arg 2; whnf); refine wp_ite (fun h5 => ?_) (fun h5 => ?_)
  · have h5 : v.kind = 3 := by simpa using h5
    have h5' : v.kind ≠ 2 := by omega
    (conv => arg 2; whnf); refine wp_ite (fun h6 => ?_) (fun h6 => ?_)
    · have h6 : v.n = 1 := by simpa using h6
      (repeat ((conv => arg 2; whnf); first | refine wp_ite (fun _ => ?_) (fun h => Bool.noConfusion h) | refine wp_ite (fun h => Bool.noConfusion h) (fun _ => ?_)))
      (conv => arg 2; whnf); refine w_retp rfl (Vle.eq (congrArg str (showV_t h3 h4 h5' h6).symm))
    · have h6 : v.n ≠ 1 := by simpa using h6
      (repeat ((conv => arg 2; whnf); first | refine wp_ite (fun _ => ?_) (fun h => Bool.noConfusion h) | refine wp_ite (fun h => Bool.noConfusion h) (fun _ => ?_)))
      (conv => arg 2; whnf); refine wp_ite (fun _ => ?_) (fun h => ?no)
      case no => have h : v.kind ≠ 3 := by simpa using h
                 exact (h h5).elim
      (conv => arg 2; whnf); refine w_retp rfl (Vle.eq (congrArg str (showV_f h3 h4 h5' h6).symm))
  have h5 : v.kind ≠ 3 := by simpa using h5
  have h5' : v.kind = 2 := Classical.byContradiction fun h => h5 (valIs_kind h3 h4 h)
  have hl : v.s.length ≤ 16 := by
    rw [valIs, if_neg h4, if_pos h5', Bool.and_eq_true, isTextB, Bool.and_eq_true] at h3
    exact of_decide_eq_true h3.2.2
  have el : ∀ n, (esc (v.s.take n)).length ≤ 32 := fun n => by
    have := esc_len (v.s.take n)
    rw [List.length_take] at this; omega
  (repeat ((conv => arg 2; whnf); first | refine wp_ite (fun _ => ?_) (fun h => Bool.noConfusion h) | refine wp_ite (fun h => Bool.noConfusion h) (fun _ => ?_)))
  (conv => arg 2; whnf); refine wp_ite (fun h => ?no) (fun _ => ?_)
  case no => have h : v.kind = 3 := by simpa using h
             exact (h5 h).elim
  (conv => arg 2; whnf); refine wp_loop (fun m fr R => ∃ n : Nat, m = v.s.length - n ∧ n ≤ v.s.length ∧ R = [] ∧ fr = frL [(1, .pt (some 3) (valV v) 0), (3, str (esc (v.s.take n))), (4, i64V n)])
    v.s.length _ _ (.cons (.refl _) (.cons (.refl _) (.cons (.refl _) (.nil _)))) (List.Sublist.refl _) ⟨0, rfl, Nat.zero_le _, rfl, rfl⟩ ?_
  rintro m fr R ⟨n, rfl, hn, rfl, rfl⟩
  (conv => arg 2; whnf); refine wp_ite (fun h => ?_) (fun h => ?_)
  · have h : n < v.s.length := by have := of_decide_eq_true h; rw [S_size] at this; omega
    obtain ⟨c, hc⟩ : ∃ c, v.s[n]? = some c := ⟨_, List.getElem?_eq_getElem h⟩
    have hb : byteAt (S v.s) (Int.toNat (n : Int)) = c := byte_at hc
    have hw : IntKind.i64.wrap ((n : Int) + 1) = ((n + 1 : Nat) : Int) := wadd (by omega) (by omega) (by omega)
    have en := esc_next hc
    have l0 := el n
    have l1 := el (n + 1)
    have w1 : IntKind.i64.wrap ((n : Int) + 1) = ((n + 1 : Nat) : Int) := wadd (by omega) (by omega) (by omega)
    (conv => arg 2; whnf); refine wp_need (by rw [S_size]; omega) ?_
    rw [hb]
    (conv => arg 2; whnf); refine wp_ite (fun h6 => ?_) (fun h6 => ?_)
    · have h6 : c = 34 := of_decide_eq_true ((c_int_eq c 34 34 rfl).symm.trans h6)
      have eb : esc (v.s.take (n + 1)) = esc (v.s.take n) ++ [92] ++ [c] := by rw [en, escB, if_pos (.inl h6), List.append_assoc]; rfl
      (repeat ((conv => arg 2; whnf); first | refine wp_ite (fun _ => ?_) (fun h => Bool.noConfusion h) | refine wp_ite (fun h => Bool.noConfusion h) (fun _ => ?_)))
      (conv => arg 2; whnf); refine wp_need (need2 (a := esc (v.s.take n)) (b := [92]) (by simp only [List.length_cons, List.length_nil]; omega)) ?_
      (conv => arg 2; whnf); refine wp_need (by rw [w1, S_size]; omega) ?_
      (conv => arg 2; whnf); refine wp_need (by rw [sliceOne hc rfl w1]; exact need3 (a := esc (v.s.take n)) (b := [92]) (c := [c]) (by simp only [List.length_cons, List.length_nil]; omega)) ?_
      (conv => arg 2; whnf)
      refine wp_leaf (loop_next (v.s.length - (n + 1)) _ _ (by omega) (.cons (.refl _) (.cons (addOneQ hc rfl w1 eb rfl) (.cons (Vle.inc n rfl (by omega)) (.nil _)))) (List.Sublist.refl _) ⟨n + 1, rfl, h, rfl, rfl⟩)
    · have h6 : c ≠ 34 := fun e => by
        have := (c_int_eq c 34 34 rfl).symm.trans h6
        simp [e] at this
      (conv => arg 2; whnf); refine wp_need (by rw [S_size]; omega) ?_
      rw [hb]
      (conv => arg 2; whnf); refine wp_ite (fun h7 => ?_) (fun h7 => ?_)
      · have h7 : c = 92 := of_decide_eq_true ((c_int_eq c 92 92 rfl).symm.trans h7)
        have eb : esc (v.s.take (n + 1)) = esc (v.s.take n) ++ [92] ++ [c] := by rw [en, escB, if_pos (.inr h7), List.append_assoc]; rfl
        (conv => arg 2; whnf); refine wp_need (need2 (a := esc (v.s.take n)) (b := [92]) (by simp only [List.length_cons, List.length_nil]; omega)) ?_
        (conv => arg 2; whnf); refine wp_need (by rw [w1, S_size]; omega) ?_
        (conv => arg 2; whnf); refine wp_need (by rw [sliceOne hc rfl w1]; exact need3 (a := esc (v.s.take n)) (b := [92]) (c := [c]) (by simp only [List.length_cons, List.length_nil]; omega)) ?_
        (conv => arg 2; whnf)
        refine wp_leaf (loop_next (v.s.length - (n + 1)) _ _ (by omega) (.cons (.refl _) (.cons (addOneQ hc rfl w1 eb rfl) (.cons (Vle.inc n rfl (by omega)) (.nil _)))) (List.Sublist.refl _) ⟨n + 1, rfl, h, rfl, rfl⟩)
      · have h7 : c ≠ 92 := fun e => by
          have := (c_int_eq c 92 92 rfl).symm.trans h7
          simp [e] at this
        have eb : esc (v.s.take (n + 1)) = esc (v.s.take n) ++ [c] := by rw [en, escB, if_neg (fun e => e.elim h6 h7)]
        (conv => arg 2; whnf); refine wp_need (by rw [w1, S_size]; omega) ?_
        (conv => arg 2; whnf); refine wp_need (by rw [sliceOne hc rfl w1]; exact need2 (a := esc (v.s.take n)) (b := [c]) (by simp only [List.length_cons, List.length_nil]; omega)) ?_
        (conv => arg 2; whnf)
        refine wp_leaf (loop_next (v.s.length - (n + 1)) _ _ (by omega) (.cons (.refl _) (.cons (addOneE hc rfl w1 eb rfl) (.cons (Vle.inc n rfl (by omega)) (.nil _)))) (List.Sublist.refl _) ⟨n + 1, rfl, h, rfl, rfl⟩)
  · have h : n = v.s.length := by have := of_decide_eq_false h; rw [S_size] at this; omega
    subst h
    have le := el v.s.length
    rw [List.take_length] at le ⊢
    (conv => arg 2; whnf)
    refine wp_leaf (loop_exit ?_)
    (conv => arg 2; whnf); refine wp_need (need2 (a := [34]) (b := esc v.s) (by simp only [List.length_cons, List.length_nil]; omega)) ?_
    (conv => arg 2; whnf); refine wp_need (need3 (a := [34]) (b := esc v.s) (c := [34]) (by simp only [List.length_cons, List.length_nil]; omega)) ?_
    (conv => arg 2; whnf); refine w_retp rfl (Vle.eq ((cat3 [34] _ [34]).trans (congrArg str ((quoted_cat v.s).trans (showV_2 h3 h5').symm))))
end Go.Sv
/- The same conditions, all levels. -/
namespace Go.Sv
open Go Go.Proofs

def sameB : Nat → Ex → Ex → Bool
  | 0, x, y => headB x y
  | k + 1, x, y => headB x y && (List.range x.kids.length).all fun i => sameB k (x.kids.getD i ex0) (y.kids.getD i ex0)

theorem getDx {α : Type} {l : List α} {i : Nat} {a d : α} (h : l[i]? = some a) : l.getD i d = a := by rw [List.getD_eq_getElem?_getD, h]; rfl
theorem headB_len {x y : Ex} (h : headB x y = true) : x.kids.length = y.kids.length := by
  simp only [headB, Bool.and_eq_true] at h
  exact of_decide_eq_true h.2.2.2.2
theorem head_ite {x y : Ex} {a b : Bool} (h : headB x y = true → a = b) : (headB x y && a) = (headB x y && b) := by
  cases hh : headB x y with
  | false => rfl
  | true => rw [h hh]

/-- The kids of a condition of so many levels. -/
theorem shape_kids {k : Nat} {x y : Ex} (h : shapedN (k + 1) x = true) (hy : y ∈ x.kids) : shapedN k y = true := by
  obtain ⟨o, v, a, f, l⟩ := x
  have hy : y ∈ l := hy
  by_cases hb : o < 1 ∨ 12 < o ∨ l.length ≠ kidsN o
  · rw [shapedN_bad (x := .mk o v a f l) hb] at h; cases h
  have hl : l.length = kidsN o := by omega
  rcases shape_cases h with rfl | rfl | ⟨rfl, z, rfl, hz⟩ | ⟨h3, h11, z, z', rfl, hz, hz'⟩
  · rw [kidsN_0 (by omega) (by omega)] at hl
    rw [List.length_eq_zero_iff.1 hl] at hy; cases hy
  · rw [kidsN_0 (by omega) (by omega)] at hl
    rw [List.length_eq_zero_iff.1 hl] at hy; cases hy
  · rw [List.mem_singleton.1 hy]; exact hz
  · rcases List.mem_cons.1 hy with rfl | hy
    · exact hz
    · rw [List.mem_singleton.1 hy]; exact hz'

theorem refsame_call : ∀ (k : Nat) (x y : Ex), ExOk k x → shapedN k x = true → PCall Tryz.prog 16 [.agg (exC x), .agg (exC y)] (bV (sameB k x y))
  | 0, _, _, _, h => by cases h
  | k + 1, x, y, hok, h => by
    have := refsame_step x y (fun i => sameB k (x.kids.getD i ex0) (y.kids.getD i ex0)) hok.2.2.2.1 (fun n a b ha hb => by
      rw [getDx ha, getDx hb]
      exact refsame_call k a b (hok.2.2.2.2 a (List.mem_of_getElem? ha)) (shape_kids h (List.mem_of_getElem? ha)))
    rw [sameB]; exact this
theorem refsame0_call (x : Ex) (hl : x.kids.length < 2 ^ 60) : PCall Tryz.prog 16 [.agg (exC x), .agg (exC ex0)] (bV (zeroB x)) := by
  have := refsame_step x ex0 (fun _ => false) hl (fun n a b ha hb => by simp [ex0, Ex.kids] at hb)
  rw [head_ite (b := true) (fun h => by rw [headB_len h]; rfl), Bool.and_true] at this
  exact this
theorem same0_call (x : Ex) (hl : x.kids.length < 2 ^ 60) : PCall Tryz.prog 77 [.agg (exC x), .agg (exC ex0)] (bV (zeroB x)) := by
  have := same_step x ex0 (fun _ => false) hl (fun n a b ha hb => by simp [ex0, Ex.kids] at hb)
  rw [head_ite (b := true) (fun h => by rw [headB_len h]; rfl), Bool.and_true] at this
  exact this

/-- It tells whether they are the same. -/
theorem sameB_iff : ∀ (k : Nat) (x y : Ex), shapedN k x = true → (sameB k x y = true ↔ x = y)
  | 0, _, _, h => by cases h
  | k + 1, x, y, h => by
    constructor
    · intro hs
      rw [sameB, Bool.and_eq_true] at hs
      obtain ⟨hh, hk⟩ := hs
      have hlen := headB_len hh
      have hkids : x.kids = y.kids := by
        apply List.ext_getElem hlen
        intro i h1 h2
        have h3 := List.all_eq_true.1 hk i (List.mem_range.2 h1)
        have e1 : x.kids[i]? = some x.kids[i] := List.getElem?_eq_getElem h1
        have e2 : y.kids[i]? = some y.kids[i] := List.getElem?_eq_getElem h2
        rw [getDx e1, getDx e2] at h3
        exact (sameB_iff k _ _ (shape_kids h (List.getElem_mem h1))).1 h3
      simp only [headB, Bool.and_eq_true] at hh
      have a1 := of_decide_eq_true hh.1
      have a2 := of_decide_eq_true hh.2.1
      have a3 := of_decide_eq_true hh.2.2.1
      have a4 := of_decide_eq_true hh.2.2.2.1
      obtain ⟨o, v, a, f, l⟩ := x
      obtain ⟨o', v', a', f', l'⟩ := y
      simp only [Ex.op, Ex.val, Ex.al, Ex.fd, Ex.kids] at a1 a2 a3 a4 hkids
      subst a1 a2 a3 a4 hkids
      rfl
    · rintro rfl
      rw [sameB, Bool.and_eq_true]
      refine ⟨headB_true rfl rfl rfl rfl rfl, List.all_eq_true.2 fun i hi => ?_⟩
      have h1 := List.mem_range.1 hi
      have e1 : x.kids[i]? = some x.kids[i] := List.getElem?_eq_getElem h1
      rw [getDx e1]
      exact (sameB_iff k _ _ (shape_kids h (List.getElem_mem h1))).2 rfl
theorem sameB_zero {k : Nat} {y : Ex} : sameB k ex0 y = zeroB y := by
  have e : headB ex0 y = headB y ex0 := by
    rw [headB, headB, decide_eq_decide.2 (show ex0.op = y.op ↔ y.op = ex0.op from eq_comm), decide_eq_decide.2 (show ex0.val = y.val ↔ y.val = ex0.val from eq_comm), decide_eq_decide.2 (show ex0.al = y.al ↔ y.al = ex0.al from eq_comm), decide_eq_decide.2 (show ex0.fd = y.fd ↔ y.fd = ex0.fd from eq_comm), decide_eq_decide.2 (show ex0.kids.length = y.kids.length ↔ y.kids.length = ex0.kids.length from eq_comm)]
  cases k with
  | zero => rw [sameB, zeroB, e]
  | succ k => rw [sameB, zeroB, e]; simp [ex0, Ex.kids]
end Go.Sv
/- What an element may be; what a pattern is: the program's. -/
namespace Go.Sv
open Go Go.Proofs

/-- What is bounded. -/
def ExBd (x : Ex) : Prop := ExOk 20 x ∧ ExOk 6 x ∧ ExSm 5 x ∧ (nodesN 20 x).length ≤ 2 ^ 40
def ElBd (e : El) : Prop := e.al.length < 2 ^ 40 ∧ e.ty.length < 2 ^ 40 ∧ (∀ t ∈ e.ty, t.length < 2 ^ 40) ∧ ExBd e.cond
def PaBd (p : Pa) : Prop := p.els.length < 2 ^ 40 ∧ (∀ e ∈ p.els, ElBd e) ∧ p.by_.length < 2 ^ 40 ∧ (-9223372036854775808 ≤ p.within ∧ p.within < 9223372036854775808)
theorem ExBd.kids {x : Ex} (h : ExBd x) : x.kids.length < 2 ^ 60 := h.1.2.2.2.1

theorem zero_vle : Vle (.agg [i64V 0, i64V 0, i64V 0, str [], str [], str [], .sl none [] .zero]) (.agg (exC ex0)) :=
  Vle.agg (.cons (.refl _) (.cons (.refl _) (.cons (.refl _) (.cons (.refl _) (.cons (.refl _) (.cons (.refl _) (.cons (Vle.nil _ _ _) .nil)))))))

theorem isEl_name {e : El} (h : isNm e.al = false) : isElB e = false := by rw [isElB, h]; rfl
theorem isEl_few {e : El} (h : e.ty.length < 1) : isElB e = false := by rw [isElB, decide_eq_false (by omega : ¬ 1 ≤ e.ty.length)]; simp
theorem isEl_many {e : El} (h : 3 < e.ty.length) : isElB e = false := by rw [isElB, decide_eq_false (by omega : ¬ e.ty.length ≤ 3)]; simp
theorem isEl_rise {e : El} (h : riseB e.ty = false) : isElB e = false := by rw [isElB, h]; simp
theorem isEl_both {e : El} (h : e.plus = true) (h' : e.nt = true) : isElB e = false := by rw [isElB, h, h']; simp
theorem isEl_ty {e : El} {t : List UInt8} (h : t ∈ e.ty) (h' : isNm t = false) : isElB e = false := by
  have : e.ty.all isNm = false := List.all_eq_false.2 ⟨t, h, by simp [h']⟩
  rw [isElB, this]; simp
theorem isEl_end {e : El} (h1 : isNm e.al = true) (h2 : 1 ≤ e.ty.length) (h3 : e.ty.length ≤ 3) (h4 : riseB e.ty = true) (h5 : (e.plus && e.nt) = false) (h6 : e.ty.all isNm = true) : isElB e = (zeroB e.cond || isExB e.cond) := by
  rw [isElB, h1, decide_eq_true h2, decide_eq_true h3, h4, h5, h6]; rfl

set_option maxRecDepth 100000 in
theorem iselem_call (e : El) (h : ElBd e) : PCall Tryz.prog 50 [.agg (elC e)] (bV (isElB e)) := by
  obtain ⟨ha, hl, ht, hx⟩ := h
  have fn := name_call e.al (by omega)
  have fr := rise_call e.ty (by omega)
  have fs := same0_call e.cond hx.kids
  have fi := isexpr_call e.cond hx.1
  refine scall_of (live := []) (ords := []) Tryz.func50 rfl (by kernel_rfl) (by kernel_rfl) (Nat.le_of_ble_eq_true rfl) ?_
  (conv => arg 2; whnf); refine wp_pcall fn ?_
  (conv => arg 2; whnf); refine wp_ite (fun h1 => ?_) (fun h1 => ?_)
  · have h1 : isNm e.al = false := by simpa using h1
    (repeat ((conv => arg 2; whnf); first | refine wp_ite (fun _ => ?_) (fun h => Bool.noConfusion h) | refine wp_ite (fun h => Bool.noConfusion h) (fun _ => ?_)))
    (conv => arg 2; whnf); refine w_retp rfl (Vle.eq (cBool (isEl_name h1).symm))
  have h1 : isNm e.al = true := by simpa using h1
  (conv => arg 2; whnf); refine wp_ite (fun h2 => ?_) (fun h2 => ?_)
  · have h2 : e.ty.length < 1 := by have := of_decide_eq_true h2; rw [List.length_map] at this; omega
    (repeat ((conv => arg 2; whnf); first | refine wp_ite (fun _ => ?_) (fun h => Bool.noConfusion h) | refine wp_ite (fun h => Bool.noConfusion h) (fun _ => ?_)))
    (conv => arg 2; whnf); refine w_retp rfl (Vle.eq (cBool (isEl_few h2).symm))
  have h2 : 1 ≤ e.ty.length := by have := of_decide_eq_false h2; rw [List.length_map] at this; omega
  (conv => arg 2; whnf); refine wp_ite (fun h3 => ?_) (fun h3 => ?_)
  · have h3 : 3 < e.ty.length := by have := of_decide_eq_true h3; rw [List.length_map] at this; omega
    (repeat ((conv => arg 2; whnf); first | refine wp_ite (fun _ => ?_) (fun h => Bool.noConfusion h) | refine wp_ite (fun h => Bool.noConfusion h) (fun _ => ?_)))
    (conv => arg 2; whnf); refine w_retp rfl (Vle.eq (cBool (isEl_many h3).symm))
  have h3 : e.ty.length ≤ 3 := by have := of_decide_eq_false h3; rw [List.length_map] at this; omega
  (conv => arg 2; whnf); refine wp_pcall fr ?_
  (conv => arg 2; whnf); refine wp_ite (fun h4 => ?_) (fun h4 => ?_)
  · have h4 : riseB e.ty = false := by simpa using h4
    (repeat ((conv => arg 2; whnf); first | refine wp_ite (fun _ => ?_) (fun h => Bool.noConfusion h) | refine wp_ite (fun h => Bool.noConfusion h) (fun _ => ?_)))
    (conv => arg 2; whnf); refine w_retp rfl (Vle.eq (cBool (isEl_rise h4).symm))
  have h4 : riseB e.ty = true := by simpa using h4
  (conv => arg 2; whnf); refine wp_ite (fun hp => ?_) (fun hp => ?_)
  · have hp : e.plus = true := hp
    (conv => arg 2; whnf); refine wp_ite (fun hq => ?_) (fun hq => ?_)
    · have hq : e.nt = true := hq
      (repeat ((conv => arg 2; whnf); first | refine wp_ite (fun _ => ?_) (fun h => Bool.noConfusion h) | refine wp_ite (fun h => Bool.noConfusion h) (fun _ => ?_)))
      (conv => arg 2; whnf); refine w_retp rfl (Vle.eq (cBool (isEl_both hp hq).symm))
    · have hq : e.nt = false := hq
      have h5 : (e.plus && e.nt) = false := by rw [hq, Bool.and_false]
      (repeat ((conv => arg 2; whnf); first | refine wp_ite (fun _ => ?_) (fun h => Bool.noConfusion h) | refine wp_ite (fun h => Bool.noConfusion h) (fun _ => ?_)))
      (conv => arg 2; whnf); refine wp_loop (fun m fr R => ∃ n : Nat, m = e.ty.length - n ∧ n ≤ e.ty.length ∧ R = [] ∧ (e.ty.take n).all isNm = true ∧ fr = frL [(1, .pt (some 11) (.agg (elC e)) 0), (36, .sl none (e.ty.map str) .no), (37, i64V e.ty.length), (38, i64V n)])
        e.ty.length _ _ (.cons (.refl _) (.cons (.refl _) (.cons (Vle.eq ?_) (.cons (.refl _) (.nil _))))) (List.Sublist.refl _) ⟨0, rfl, Nat.zero_le _, rfl, rfl, rfl⟩ ?_
      · show V.c (.int .i64 (e.ty.map str).length) = _
        rw [List.length_map]; rfl
      rintro m fr R ⟨n, rfl, hn, rfl, hall, rfl⟩
      (conv => arg 2; whnf); refine wp_ite (fun h => ?_) (fun h => ?_)
      · have h : n < e.ty.length := by have := of_decide_eq_true h; omega
        obtain ⟨t, htn⟩ : ∃ t, e.ty[n]? = some t := ⟨_, List.getElem?_eq_getElem h⟩
        have hm := List.mem_of_getElem? htn
        have fn := name_call t (by have := ht t hm; omega)
        (conv => arg 2; whnf); refine wp_elem n (str t) rfl (by rw [List.getElem?_map, htn]; rfl) (Vle.refl _) ?_
        (conv => arg 2; whnf); refine wp_pcall fn ?_
        (conv => arg 2; whnf); refine wp_ite (fun h6 => ?_) (fun h6 => ?_)
        · have h6 : isNm t = false := by simpa using h6
          (conv => arg 2; whnf)
          refine wp_leaf (loop_ret ?_)
          (conv => arg 2; whnf); refine w_retp rfl (Vle.eq (cBool (isEl_ty hm h6).symm))
        · have h6 : isNm t = true := by simpa using h6
          (conv => arg 2; whnf)
          refine wp_leaf (loop_next (e.ty.length - (n + 1)) _ _ (by omega) (.cons (.refl _) (.cons (.refl _) (.cons (.refl _) (.cons (Vle.inc n rfl (by omega)) (.nil _))))) (List.Sublist.refl _) ⟨n + 1, rfl, h, rfl, ?_, rfl⟩)
          rw [List.take_add_one, htn, List.all_append, hall]
          simp [h6]
      · have h : n = e.ty.length := by have := of_decide_eq_false h; omega
        subst h
        rw [List.take_length] at hall
        have he := isEl_end h1 h2 h3 h4 h5 hall
        (conv => arg 2; whnf)
        refine wp_leaf (loop_exit ?_)
        (conv => arg 2; whnf); refine wp_pcallV (.cons (.refl _) (.cons zero_vle .nil)) fs ?_
        (conv => arg 2; whnf); refine wp_ite (fun h7 => ?_) (fun h7 => ?_)
        · have h7 : zeroB e.cond = true := h7
          (conv => arg 2; whnf); refine w_retp rfl (Vle.eq (cBool ?_))
          rw [he, h7]; rfl
        · have h7 : zeroB e.cond = false := h7
          (conv => arg 2; whnf); refine wp_pcall fi ?_
          (conv => arg 2; whnf); refine w_retp rfl (Vle.eq (cBool ?_))
          rw [he, h7]; rfl
  · have hp : e.plus = false := hp
    have h5 : (e.plus && e.nt) = false := by rw [hp, Bool.false_and]
    (repeat ((conv => arg 2; whnf); first | refine wp_ite (fun _ => ?_) (fun h => Bool.noConfusion h) | refine wp_ite (fun h => Bool.noConfusion h) (fun _ => ?_)))
    (conv => arg 2; whnf); refine wp_loop (fun m fr R => ∃ n : Nat, m = e.ty.length - n ∧ n ≤ e.ty.length ∧ R = [] ∧ (e.ty.take n).all isNm = true ∧ fr = frL [(1, .pt (some 11) (.agg (elC e)) 0), (36, .sl none (e.ty.map str) .no), (37, i64V e.ty.length), (38, i64V n)])
      e.ty.length _ _ (.cons (.refl _) (.cons (.refl _) (.cons (Vle.eq ?_) (.cons (.refl _) (.nil _))))) (List.Sublist.refl _) ⟨0, rfl, Nat.zero_le _, rfl, rfl, rfl⟩ ?_
    · show V.c (.int .i64 (e.ty.map str).length) = _
      rw [List.length_map]; rfl
    rintro m fr R ⟨n, rfl, hn, rfl, hall, rfl⟩
    (conv => arg 2; whnf); refine wp_ite (fun h => ?_) (fun h => ?_)
    · have h : n < e.ty.length := by have := of_decide_eq_true h; omega
      obtain ⟨t, htn⟩ : ∃ t, e.ty[n]? = some t := ⟨_, List.getElem?_eq_getElem h⟩
      have hm := List.mem_of_getElem? htn
      have fn := name_call t (by have := ht t hm; omega)
      (conv => arg 2; whnf); refine wp_elem n (str t) rfl (by rw [List.getElem?_map, htn]; rfl) (Vle.refl _) ?_
      (conv => arg 2; whnf); refine wp_pcall fn ?_
      (conv => arg 2; whnf); refine wp_ite (fun h6 => ?_) (fun h6 => ?_)
      · have h6 : isNm t = false := by simpa using h6
        (conv => arg 2; whnf)
        refine wp_leaf (loop_ret ?_)
        (conv => arg 2; whnf); refine w_retp rfl (Vle.eq (cBool (isEl_ty hm h6).symm))
      · have h6 : isNm t = true := by simpa using h6
        (conv => arg 2; whnf)
        refine wp_leaf (loop_next (e.ty.length - (n + 1)) _ _ (by omega) (.cons (.refl _) (.cons (.refl _) (.cons (.refl _) (.cons (Vle.inc n rfl (by omega)) (.nil _))))) (List.Sublist.refl _) ⟨n + 1, rfl, h, rfl, ?_, rfl⟩)
        rw [List.take_add_one, htn, List.all_append, hall]
        simp [h6]
    · have h : n = e.ty.length := by have := of_decide_eq_false h; omega
      subst h
      rw [List.take_length] at hall
      have he := isEl_end h1 h2 h3 h4 h5 hall
      (conv => arg 2; whnf)
      refine wp_leaf (loop_exit ?_)
      (conv => arg 2; whnf); refine wp_pcallV (.cons (.refl _) (.cons zero_vle .nil)) fs ?_
      (conv => arg 2; whnf); refine wp_ite (fun h7 => ?_) (fun h7 => ?_)
      · have h7 : zeroB e.cond = true := h7
        (conv => arg 2; whnf); refine w_retp rfl (Vle.eq (cBool ?_))
        rw [he, h7]; rfl
      · have h7 : zeroB e.cond = false := h7
        (conv => arg 2; whnf); refine wp_pcall fi ?_
        (conv => arg 2; whnf); refine w_retp rfl (Vle.eq (cBool ?_))
        rw [he, h7]; rfl
end Go.Sv
/- What a pattern is: the program's. -/
namespace Go.Sv
open Go Go.Proofs

def elZ : List V := [str [], .sl none [] .zero, bV false, bV false, i64V 0, i64V 0, i64V 0, str [], str [], str [], .sl none [] .zero]
theorem splice_el (e : El) : splice elZ 0 (elC e) = elC e := rfl
theorem els_at {l : List El} {n : Nat} {e : El} (h : l[n]? = some e) : (l.map elV)[n]? = some (.agg (elC e)) := by rw [List.getElem?_map, h]; rfl

set_option maxRecDepth 100000 in
theorem pat1_call (b : Nat) (e x : El) : SCall Tryz.prog 49 [.agg (elC x), .loc b 0] [.obj b (elC e)] fun v R' => R' = [.obj b (elC e)] ∧ v = bV (decide (x.al = e.al)) := by
  refine scall_of (live := []) (ords := []) Tryz.func49 rfl (by kernel_rfl) (by kernel_rfl) (Nat.le_of_ble_eq_true rfl) ?_
  (conv => arg 2; whnf); refine wp_load (cs := elC e) 0 rfl rfl ?_
  (conv => arg 2; whnf); refine w_ret1 rfl (Vle.refl _) (List.Sublist.refl _) ⟨rfl, cBool (strEq _ _)⟩

set_option maxRecDepth 100000 in
theorem indexel_call (b : Nat) (e : El) (l : List El) (hl : l.length < 2 ^ 60) : SCall Tryz.prog 75 [elsV l, .fn (.func 49) [] [.loc b 0]] [.obj b (elC e)] fun v R' => R' = [.obj b (elC e)] ∧ ∃ i : Int, v = i64V i ∧ decide (0 ≤ i) = l.any (fun x => decide (x.al = e.al)) := by
  refine scall_of (live := []) (ords := []) Tryz.func75 rfl (by kernel_rfl) (by kernel_rfl) (Nat.le_of_ble_eq_true rfl) ?_
  (conv => arg 2; whnf); refine wp_loop (fun m fr R => ∃ n : Nat, m = l.length - n ∧ n ≤ l.length ∧ R = [.obj b (elC e)] ∧ (l.take n).any (fun x => decide (x.al = e.al)) = false ∧ fr = frL [(0, elsV l), (1, .fn (.func 49) [] [.loc b 0]), (7, i64V l.length), (8, i64V n)])
    l.length _ _ (.cons (.refl _) (.cons (.refl _) (.cons (Vle.eq ?_) (.cons (.refl _) (.nil _))))) (List.Sublist.refl _) ⟨0, rfl, Nat.zero_le _, rfl, rfl, rfl⟩ ?_
  · show V.c (.int .i64 (l.map elV).length) = _
    rw [List.length_map]; rfl
  rintro m fr R ⟨n, rfl, hn, rfl, ha, rfl⟩
  (conv => arg 2; whnf); refine wp_ite (fun h => ?_) (fun h => ?_)
  · have h : n < l.length := by have := of_decide_eq_true h; omega
    obtain ⟨y, hy⟩ : ∃ y, l[n]? = some y := ⟨_, List.getElem?_eq_getElem h⟩
    (conv => arg 2; whnf); refine wp_elem n (.agg (elC y)) rfl (els_at hy) (Vle.refl _) ?_
    (conv => arg 2; whnf); refine wp_call (pat1_call b e y) ?_
    rintro v R' ⟨rfl, rfl⟩
    (conv => arg 2; whnf); refine wp_ite (fun h1 => ?_) (fun h1 => ?_)
    · (conv => arg 2; whnf)
      refine wp_leaf (loop_ret ?_)
      (conv => arg 2; whnf); refine w_ret1 rfl (Vle.refl _) (List.Sublist.refl _) ⟨rfl, n, rfl, ?_⟩
      rw [decide_eq_true (by omega : (0 : Int) ≤ n), show l = l.take n ++ y :: l.drop (n + 1) by rw [← drop_at hy, List.take_append_drop]]
      simp [of_decide_eq_true h1]
    · (conv => arg 2; whnf)
      refine wp_leaf (loop_next (l.length - (n + 1)) _ _ (by omega) (.cons (.refl _) (.cons (.refl _) (.cons (.refl _) (.cons (Vle.inc n rfl (by omega)) (.nil _))))) (List.Sublist.refl _) ⟨n + 1, rfl, h, rfl, ?_, rfl⟩)
      rw [List.take_add_one, hy, List.any_append, ha]
      simp [of_decide_eq_false h1]
  · have h : n = l.length := by have := of_decide_eq_false h; omega
    subst h
    rw [List.take_length] at ha
    (conv => arg 2; whnf)
    refine wp_leaf (loop_exit ?_)
    (conv => arg 2; whnf); refine w_ret1 rfl (Vle.refl _) (List.Sublist.refl _) ⟨rfl, -1, rfl, ha.symm⟩

set_option maxRecDepth 100000 in
theorem hasel_call (b : Nat) (e : El) (l : List El) (hl : l.length < 2 ^ 60) : SCall Tryz.prog 48 [elsV l, .fn (.func 49) [] [.loc b 0]] [.obj b (elC e)] fun v R' => R' = [.obj b (elC e)] ∧ v = bV (l.any (fun x => decide (x.al = e.al))) := by
  refine scall_of (live := []) (ords := []) Tryz.func48 rfl (by kernel_rfl) (by kernel_rfl) (Nat.le_of_ble_eq_true rfl) ?_
  (conv => arg 2; whnf); refine wp_call (indexel_call b e l hl) ?_
  rintro v R' ⟨rfl, i, rfl, hi⟩
  (conv => arg 2; whnf); refine w_ret1 rfl (Vle.refl _) (List.Sublist.refl _) ⟨rfl, cBool hi⟩

theorem ntAt_of {l : List El} {n : Nat} {e : El} (h : l[n]? = some e) : ntAt l n = e.nt := by
  rw [ntAt, getDx (a := e.nt)]; rw [List.getElem?_map, h]; rfl

theorem isPa_few {p : Pa} (h : p.els.length < 1) : isPaB p = false := by rw [isPaB, decide_eq_false (by omega : ¬ 1 ≤ p.els.length)]; rfl
theorem isPa_many {p : Pa} (h : 5 < p.els.length) : isPaB p = false := by rw [isPaB, decide_eq_false (by omega : ¬ p.els.length ≤ 5)]; simp
theorem isPa_first {p : Pa} (h : ntAt p.els 0 = true) : isPaB p = false := by rw [isPaB, h]; simp
theorem isPa_last {p : Pa} (h : ntAt p.els (p.els.length - 1) = true) : isPaB p = false := by rw [isPaB, h]; simp
theorem isPa_w0 {p : Pa} (h : p.within < 0) : isPaB p = false := by rw [isPaB, decide_eq_false (by omega : ¬ 0 ≤ p.within)]; simp
theorem isPa_w1 {p : Pa} (h : 1000 < p.within) : isPaB p = false := by rw [isPaB, decide_eq_false (by omega : ¬ p.within ≤ 1000)]; simp
theorem isPa_by {p : Pa} (h : p.by_ ≠ []) (h' : isNm p.by_ = false) : isPaB p = false := by rw [isPaB, h', decide_eq_false h]; simp
theorem isPa_el {p : Pa} {i : Nat} {e : El} (h : p.els[i]? = some e) (h' : okAtB p.els i e = false) : isPaB p = false := by
  have : ((List.range p.els.length).all fun i => okAtB p.els i (p.els.getD i el0)) = false :=
    List.all_eq_false.2 ⟨i, List.mem_range.2 (List.getElem?_eq_some_iff.1 h).1, by rw [getDx h, h']; simp⟩
  rw [isPaB, this]; simp
theorem isPa_end {p : Pa} (h1 : 1 ≤ p.els.length) (h2 : p.els.length ≤ 5) (h3 : ntAt p.els 0 = false) (h4 : ntAt p.els (p.els.length - 1) = false) (h5 : 0 ≤ p.within) (h6 : p.within ≤ 1000) (h7 : p.by_ = [] ∨ isNm p.by_ = true)
    (h8 : ((List.range p.els.length).all fun i => okAtB p.els i (p.els.getD i el0)) = true) : isPaB p = true := by
  rw [isPaB, decide_eq_true h1, decide_eq_true h2, h3, h4, decide_eq_true h5, decide_eq_true h6, h8]
  rcases h7 with h7 | h7 <;> simp [h7]
theorem okAt_el {l : List El} {i : Nat} {e : El} (h : isElB e = false) : okAtB l i e = false := by rw [okAtB, h]; rfl
theorem okAt_twice {l : List El} {i : Nat} {e : El} (h : twiceB l i e.al = true) : okAtB l i e = false := by rw [okAtB, h]; simp
theorem okAt_nt {l : List El} {i : Nat} {e : El} (h : e.nt = true) (h0 : 0 < i) (h' : ntAt l (i - 1) = true) : okAtB l i e = false := by rw [okAtB, h, h', decide_eq_true h0]; simp
theorem okAt_end {l : List El} {i : Nat} {e : El} (h1 : isElB e = true) (h2 : twiceB l i e.al = false) (h3 : (e.nt && (decide (0 < i) && ntAt l (i - 1))) = false) : okAtB l i e = true := by rw [okAtB, h1, h2, h3]; rfl
theorem take_els (l : List El) (n : Nat) : (l.map elV).take n = (l.take n).map elV := by rw [List.map_take]
end Go.Sv
/- What a pattern is: the program's. -/
namespace Go.Sv
open Go Go.Proofs

theorem elsV_take (l : List El) (n : Nat) : V.sl (some 11) ((l.map elV).take n) .no = elsV (l.take n) := by rw [elsV, List.map_take]
theorem nilS_ne {l : List UInt8} : (!((S l).toList == (⟨#[]⟩ : ByteArray).toList)) = !decide (l = []) := by rw [nilS]

set_option maxRecDepth 100000 in
theorem pattern_call (p : Pa) (h : PaBd p) : PCall Tryz.prog 21 [.agg (paC p)] (bV (isPaB p)) := by
  obtain ⟨hl, he, hb, hw1, hw2⟩ := h
  have fb := name_call p.by_ (by omega)
  refine scall_of (live := []) (ords := []) Tryz.func21 rfl (by kernel_rfl) (by kernel_rfl) (Nat.le_of_ble_eq_true rfl) ?_
  (conv => arg 2; whnf); refine wp_ite (fun h1 => ?_) (fun h1 => ?_)
  · have h1 : p.els.length < 1 := by have := of_decide_eq_true h1; rw [List.length_map] at this; omega
    (repeat ((conv => arg 2; whnf); first | refine wp_ite (fun _ => ?_) (fun h => Bool.noConfusion h) | refine wp_ite (fun h => Bool.noConfusion h) (fun _ => ?_)))
    (conv => arg 2; whnf); refine w_retp rfl (Vle.eq (cBool (isPa_few h1).symm))
  have h1 : 1 ≤ p.els.length := by have := of_decide_eq_false h1; rw [List.length_map] at this; omega
  (conv => arg 2; whnf); refine wp_ite (fun h2 => ?_) (fun h2 => ?_)
  · have h2 : 5 < p.els.length := by have := of_decide_eq_true h2; rw [List.length_map] at this; omega
    (repeat ((conv => arg 2; whnf); first | refine wp_ite (fun _ => ?_) (fun h => Bool.noConfusion h) | refine wp_ite (fun h => Bool.noConfusion h) (fun _ => ?_)))
    (conv => arg 2; whnf); refine w_retp rfl (Vle.eq (cBool (isPa_many h2).symm))
  have h2 : p.els.length ≤ 5 := by have := of_decide_eq_false h2; rw [List.length_map] at this; omega
  obtain ⟨e0, he0⟩ : ∃ e, p.els[0]? = some e := ⟨_, List.getElem?_eq_getElem (by omega)⟩
  obtain ⟨e1, he1⟩ : ∃ e, p.els[p.els.length - 1]? = some e := ⟨_, List.getElem?_eq_getElem (by omega)⟩
  (conv => arg 2; whnf); refine wp_elem 0 (.agg (elC e0)) rfl (els_at he0) (Vle.refl _) ?_
  (conv => arg 2; whnf); refine wp_ite (fun h3 => ?_) (fun h3 => ?_)
  · have h3 : ntAt p.els 0 = true := (ntAt_of he0).trans h3
    (repeat ((conv => arg 2; whnf); first | refine wp_ite (fun _ => ?_) (fun h => Bool.noConfusion h) | refine wp_ite (fun h => Bool.noConfusion h) (fun _ => ?_)))
    (conv => arg 2; whnf); refine w_retp rfl (Vle.eq (cBool (isPa_first h3).symm))
  have h3 : ntAt p.els 0 = false := (ntAt_of he0).trans h3
  have ws : IntKind.i64.wrap (((p.els.map elV).length : Int) - 1) = ((p.els.length - 1 : Nat) : Int) := by
    rw [List.length_map]; exact wsub (by omega) (by omega) (by omega)
  (conv => arg 2; whnf); refine wp_elem (p.els.length - 1) (.agg (elC e1)) ws (els_at he1) (Vle.refl _) ?_
  (conv => arg 2; whnf); refine wp_ite (fun h4 => ?_) (fun h4 => ?_)
  · have h4 : ntAt p.els (p.els.length - 1) = true := (ntAt_of he1).trans h4
    (repeat ((conv => arg 2; whnf); first | refine wp_ite (fun _ => ?_) (fun h => Bool.noConfusion h) | refine wp_ite (fun h => Bool.noConfusion h) (fun _ => ?_)))
    (conv => arg 2; whnf); refine w_retp rfl (Vle.eq (cBool (isPa_last h4).symm))
  have h4 : ntAt p.els (p.els.length - 1) = false := (ntAt_of he1).trans h4
  (conv => arg 2; whnf); refine wp_ite (fun h5 => ?_) (fun h5 => ?_)
  · have h5 : p.within < 0 := of_decide_eq_true h5
    (repeat ((conv => arg 2; whnf); first | refine wp_ite (fun _ => ?_) (fun h => Bool.noConfusion h) | refine wp_ite (fun h => Bool.noConfusion h) (fun _ => ?_)))
    (conv => arg 2; whnf); refine w_retp rfl (Vle.eq (cBool (isPa_w0 h5).symm))
  have h5 : 0 ≤ p.within := by have := of_decide_eq_false h5; omega
  (conv => arg 2; whnf); refine wp_ite (fun h6 => ?_) (fun h6 => ?_)
  · have h6 : 1000 < p.within := of_decide_eq_true h6
    (repeat ((conv => arg 2; whnf); first | refine wp_ite (fun _ => ?_) (fun h => Bool.noConfusion h) | refine wp_ite (fun h => Bool.noConfusion h) (fun _ => ?_)))
    (conv => arg 2; whnf); refine w_retp rfl (Vle.eq (cBool (isPa_w1 h6).symm))
  have h6 : p.within ≤ 1000 := by have := of_decide_eq_false h6; omega
  (conv => arg 2; whnf); refine wp_ite (fun hq => ?_) (fun hq => ?_)
  · have hq : p.by_ ≠ [] := fun e => by
      have := (nilS_ne (l := p.by_)).symm.trans hq
      rw [e] at this; cases this
    (conv => arg 2; whnf); refine wp_pcall fb ?_
    (conv => arg 2; whnf); refine wp_ite (fun hr => ?_) (fun hr => ?_)
    · have hr : isNm p.by_ = false := by simpa using hr
      (repeat ((conv => arg 2; whnf); first | refine wp_ite (fun _ => ?_) (fun h => Bool.noConfusion h) | refine wp_ite (fun h => Bool.noConfusion h) (fun _ => ?_)))
      (conv => arg 2; whnf); refine w_retp rfl (Vle.eq (cBool (isPa_by hq hr).symm))
    have hr : isNm p.by_ = true := by simpa using hr
    have h7 : p.by_ = [] ∨ isNm p.by_ = true := .inr hr
    (repeat ((conv => arg 2; whnf); first | refine wp_ite (fun _ => ?_) (fun h => Bool.noConfusion h) | refine wp_ite (fun h => Bool.noConfusion h) (fun _ => ?_)))
    (conv => arg 2; whnf); refine wp_loop (fun m fr R => ∃ n : Nat, m = p.els.length - n ∧ n ≤ p.els.length ∧ R = [] ∧ ((List.range n).all fun i => okAtB p.els i (p.els.getD i el0)) = true ∧ fr = frL [(1, .pt (some 4) (.agg (paC p)) 0), (54, elsV p.els), (55, i64V p.els.length), (56, i64V n)])
      p.els.length _ _ (.cons (.refl _) (.cons (.refl _) (.cons (Vle.eq ?_) (.cons (.refl _) (.nil _))))) (List.Sublist.refl _) ⟨0, rfl, Nat.zero_le _, rfl, rfl, rfl⟩ ?_
    · show V.c (.int .i64 (p.els.map elV).length) = _
      rw [List.length_map]; rfl
    rintro m fr R ⟨n, rfl, hn, rfl, hall, rfl⟩
    (conv => arg 2; whnf); refine wp_ite (fun h => ?_) (fun h => ?_)
    · have h : n < p.els.length := by have := of_decide_eq_true h; omega
      obtain ⟨e, hen⟩ : ∃ e, p.els[n]? = some e := ⟨_, List.getElem?_eq_getElem h⟩
      have fe := iselem_call e (he e (List.mem_of_getElem? hen))
      (conv => arg 2; whnf); refine wp_elem n (.agg (elC e)) rfl (els_at hen) (Vle.refl _) ?_
      (conv => arg 2; whnf); refine wp_allocE elZ rfl fun b => ?_
      (conv => arg 2; whnf); refine wp_storeE (cs := elZ) 0 0 (elC e) rfl rfl (VleL.refl _) (Nat.le_refl _) rfl (R' := [.obj b (elC e)]) rfl ?_
      have fh := hasel_call b e (p.els.take n) (by rw [List.length_take]; omega)
      (conv => arg 2; whnf); refine wp_need (by rw [List.length_map]; omega) ?_
      (conv => arg 2; whnf); refine wp_callV [] [.obj b (elC e)] [] rfl (.cons (Vle.eq (elsV_take p.els n)) (.cons (.refl _) .nil)) fh ?_
      rintro v R1 ⟨rfl, rfl⟩
      (conv => arg 2; whnf); refine wp_load (cs := elC e) 0 rfl rfl ?_
      (conv => arg 2; whnf); refine wp_pcall fe ?_
      (conv => arg 2; whnf); refine wp_ite (fun g1 => ?_) (fun g1 => ?_)
      · have g1 : isElB e = false := by simpa using g1
        (repeat ((conv => arg 2; whnf); first | refine wp_ite (fun _ => ?_) (fun h => Bool.noConfusion h) | refine wp_ite (fun h => Bool.noConfusion h) (fun _ => ?_)))
        (conv => arg 2; whnf)
        refine wp_leaf (loop_ret ?_)
        (conv => arg 2; whnf); refine w_retp rfl (Vle.eq (cBool (isPa_el hen (okAt_el g1)).symm))
      have g1 : isElB e = true := by simpa using g1
      (conv => arg 2; whnf); refine wp_ite (fun g2 => ?_) (fun g2 => ?_)
      · have g2 : twiceB p.els n e.al = true := g2
        (repeat ((conv => arg 2; whnf); first | refine wp_ite (fun _ => ?_) (fun h => Bool.noConfusion h) | refine wp_ite (fun h => Bool.noConfusion h) (fun _ => ?_)))
        (conv => arg 2; whnf)
        refine wp_leaf (loop_ret ?_)
        (conv => arg 2; whnf); refine w_retp rfl (Vle.eq (cBool (isPa_el hen (okAt_twice g2)).symm))
      have g2 : twiceB p.els n e.al = false := g2
      have next : (e.nt && (decide (0 < n) && ntAt p.els (n - 1))) = false → ((List.range (n + 1)).all fun i => okAtB p.els i (p.els.getD i el0)) = true := fun g3 => by
        rw [List.range_succ, List.all_append, hall]
        simp only [List.all_cons, List.all_nil]
        rw [getDx hen, okAt_end g1 g2 g3]; rfl
      (conv => arg 2; whnf); refine wp_load (cs := elC e) 0 rfl rfl ?_
      (conv => arg 2; whnf); refine wp_ite (fun g3 => ?_) (fun g3 => ?_)
      · have g3 : e.nt = true := g3
        have n0 : 0 < n := by
          rcases Nat.eq_zero_or_pos n with n0 | n0
          · subst n0
            rw [ntAt_of hen, g3] at h3; cases h3
          · exact n0
        obtain ⟨y, hy⟩ : ∃ e, p.els[n - 1]? = some e := ⟨_, List.getElem?_eq_getElem (by omega)⟩
        (conv => arg 2; whnf); refine wp_elem (n - 1) (.agg (elC y)) ((wsub (by omega : ((n : Nat) : Int) - 1 = ((n - 1 : Nat) : Int)) (by omega) (by omega))) (els_at hy) (Vle.refl _) ?_
        (conv => arg 2; whnf); refine wp_ite (fun g4 => ?_) (fun g4 => ?_)
        · have g4 : ntAt p.els (n - 1) = true := (ntAt_of hy).trans g4
          (repeat ((conv => arg 2; whnf); first | refine wp_ite (fun _ => ?_) (fun h => Bool.noConfusion h) | refine wp_ite (fun h => Bool.noConfusion h) (fun _ => ?_)))
          (conv => arg 2; whnf)
          refine wp_leaf (loop_ret ?_)
          (conv => arg 2; whnf); refine w_retp rfl (Vle.eq (cBool (isPa_el hen (okAt_nt g3 n0 g4)).symm))
        · have g4 : ntAt p.els (n - 1) = false := (ntAt_of hy).trans g4
          (repeat ((conv => arg 2; whnf); first | refine wp_ite (fun _ => ?_) (fun h => Bool.noConfusion h) | refine wp_ite (fun h => Bool.noConfusion h) (fun _ => ?_)))
          (conv => arg 2; whnf)
          refine wp_leaf (loop_next (p.els.length - (n + 1)) _ _ (by omega) (.cons (.refl _) (.cons (.refl _) (.cons (.refl _) (.cons (Vle.inc n rfl (by omega)) (.nil _))))) (List.nil_sublist _) ⟨n + 1, rfl, h, rfl, next (by rw [g4]; simp), rfl⟩)
      · have g3 : e.nt = false := g3
        (repeat ((conv => arg 2; whnf); first | refine wp_ite (fun _ => ?_) (fun h => Bool.noConfusion h) | refine wp_ite (fun h => Bool.noConfusion h) (fun _ => ?_)))
        (conv => arg 2; whnf)
        refine wp_leaf (loop_next (p.els.length - (n + 1)) _ _ (by omega) (.cons (.refl _) (.cons (.refl _) (.cons (.refl _) (.cons (Vle.inc n rfl (by omega)) (.nil _))))) (List.nil_sublist _) ⟨n + 1, rfl, h, rfl, next (by rw [g3]; rfl), rfl⟩)
    · have h : n = p.els.length := by have := of_decide_eq_false h; omega
      subst h
      (conv => arg 2; whnf)
      refine wp_leaf (loop_exit ?_)
      (conv => arg 2; whnf); refine w_retp rfl (Vle.eq (cBool (isPa_end h1 h2 h3 h4 h5 h6 h7 hall).symm))
  · have hq : p.by_ = [] := Classical.byContradiction fun e => by
      have := (nilS_ne (l := p.by_)).symm.trans hq
      rw [decide_eq_false e] at this; cases this
    have h7 : p.by_ = [] ∨ isNm p.by_ = true := .inl hq
    (repeat ((conv => arg 2; whnf); first | refine wp_ite (fun _ => ?_) (fun h => Bool.noConfusion h) | refine wp_ite (fun h => Bool.noConfusion h) (fun _ => ?_)))
    (conv => arg 2; whnf); refine wp_loop (fun m fr R => ∃ n : Nat, m = p.els.length - n ∧ n ≤ p.els.length ∧ R = [] ∧ ((List.range n).all fun i => okAtB p.els i (p.els.getD i el0)) = true ∧ fr = frL [(1, .pt (some 4) (.agg (paC p)) 0), (54, elsV p.els), (55, i64V p.els.length), (56, i64V n)])
      p.els.length _ _ (.cons (.refl _) (.cons (.refl _) (.cons (Vle.eq ?_) (.cons (.refl _) (.nil _))))) (List.Sublist.refl _) ⟨0, rfl, Nat.zero_le _, rfl, rfl, rfl⟩ ?_
    · show V.c (.int .i64 (p.els.map elV).length) = _
      rw [List.length_map]; rfl
    rintro m fr R ⟨n, rfl, hn, rfl, hall, rfl⟩
    (conv => arg 2; whnf); refine wp_ite (fun h => ?_) (fun h => ?_)
    · have h : n < p.els.length := by have := of_decide_eq_true h; omega
      obtain ⟨e, hen⟩ : ∃ e, p.els[n]? = some e := ⟨_, List.getElem?_eq_getElem h⟩
      have fe := iselem_call e (he e (List.mem_of_getElem? hen))
      (conv => arg 2; whnf); refine wp_elem n (.agg (elC e)) rfl (els_at hen) (Vle.refl _) ?_
      (conv => arg 2; whnf); refine wp_allocE elZ rfl fun b => ?_
      (conv => arg 2; whnf); refine wp_storeE (cs := elZ) 0 0 (elC e) rfl rfl (VleL.refl _) (Nat.le_refl _) rfl (R' := [.obj b (elC e)]) rfl ?_
      have fh := hasel_call b e (p.els.take n) (by rw [List.length_take]; omega)
      (conv => arg 2; whnf); refine wp_need (by rw [List.length_map]; omega) ?_
      (conv => arg 2; whnf); refine wp_callV [] [.obj b (elC e)] [] rfl (.cons (Vle.eq (elsV_take p.els n)) (.cons (.refl _) .nil)) fh ?_
      rintro v R1 ⟨rfl, rfl⟩
      (conv => arg 2; whnf); refine wp_load (cs := elC e) 0 rfl rfl ?_
      (conv => arg 2; whnf); refine wp_pcall fe ?_
      (conv => arg 2; whnf); refine wp_ite (fun g1 => ?_) (fun g1 => ?_)
      · have g1 : isElB e = false := by simpa using g1
        (repeat ((conv => arg 2; whnf); first | refine wp_ite (fun _ => ?_) (fun h => Bool.noConfusion h) | refine wp_ite (fun h => Bool.noConfusion h) (fun _ => ?_)))
        (conv => arg 2; whnf)
        refine wp_leaf (loop_ret ?_)
        (conv => arg 2; whnf); refine w_retp rfl (Vle.eq (cBool (isPa_el hen (okAt_el g1)).symm))
      have g1 : isElB e = true := by simpa using g1
      (conv => arg 2; whnf); refine wp_ite (fun g2 => ?_) (fun g2 => ?_)
      · have g2 : twiceB p.els n e.al = true := g2
        (repeat ((conv => arg 2; whnf); first | refine wp_ite (fun _ => ?_) (fun h => Bool.noConfusion h) | refine wp_ite (fun h => Bool.noConfusion h) (fun _ => ?_)))
        (conv => arg 2; whnf)
        refine wp_leaf (loop_ret ?_)
        (conv => arg 2; whnf); refine w_retp rfl (Vle.eq (cBool (isPa_el hen (okAt_twice g2)).symm))
      have g2 : twiceB p.els n e.al = false := g2
      have next : (e.nt && (decide (0 < n) && ntAt p.els (n - 1))) = false → ((List.range (n + 1)).all fun i => okAtB p.els i (p.els.getD i el0)) = true := fun g3 => by
        rw [List.range_succ, List.all_append, hall]
        simp only [List.all_cons, List.all_nil]
        rw [getDx hen, okAt_end g1 g2 g3]; rfl
      (conv => arg 2; whnf); refine wp_load (cs := elC e) 0 rfl rfl ?_
      (conv => arg 2; whnf); refine wp_ite (fun g3 => ?_) (fun g3 => ?_)
      · have g3 : e.nt = true := g3
        have n0 : 0 < n := by
          rcases Nat.eq_zero_or_pos n with n0 | n0
          · subst n0
            rw [ntAt_of hen, g3] at h3; cases h3
          · exact n0
        obtain ⟨y, hy⟩ : ∃ e, p.els[n - 1]? = some e := ⟨_, List.getElem?_eq_getElem (by omega)⟩
        (conv => arg 2; whnf); refine wp_elem (n - 1) (.agg (elC y)) ((wsub (by omega : ((n : Nat) : Int) - 1 = ((n - 1 : Nat) : Int)) (by omega) (by omega))) (els_at hy) (Vle.refl _) ?_
        (conv => arg 2; whnf); refine wp_ite (fun g4 => ?_) (fun g4 => ?_)
        · have g4 : ntAt p.els (n - 1) = true := (ntAt_of hy).trans g4
          (repeat ((conv => arg 2; whnf); first | refine wp_ite (fun _ => ?_) (fun h => Bool.noConfusion h) | refine wp_ite (fun h => Bool.noConfusion h) (fun _ => ?_)))
          (conv => arg 2; whnf)
          refine wp_leaf (loop_ret ?_)
          (conv => arg 2; whnf); refine w_retp rfl (Vle.eq (cBool (isPa_el hen (okAt_nt g3 n0 g4)).symm))
        · have g4 : ntAt p.els (n - 1) = false := (ntAt_of hy).trans g4
          (repeat ((conv => arg 2; whnf); first | refine wp_ite (fun _ => ?_) (fun h => Bool.noConfusion h) | refine wp_ite (fun h => Bool.noConfusion h) (fun _ => ?_)))
          (conv => arg 2; whnf)
          refine wp_leaf (loop_next (p.els.length - (n + 1)) _ _ (by omega) (.cons (.refl _) (.cons (.refl _) (.cons (.refl _) (.cons (Vle.inc n rfl (by omega)) (.nil _))))) (List.nil_sublist _) ⟨n + 1, rfl, h, rfl, next (by rw [g4]; simp), rfl⟩)
      · have g3 : e.nt = false := g3
        (repeat ((conv => arg 2; whnf); first | refine wp_ite (fun _ => ?_) (fun h => Bool.noConfusion h) | refine wp_ite (fun h => Bool.noConfusion h) (fun _ => ?_)))
        (conv => arg 2; whnf)
        refine wp_leaf (loop_next (p.els.length - (n + 1)) _ _ (by omega) (.cons (.refl _) (.cons (.refl _) (.cons (.refl _) (.cons (Vle.inc n rfl (by omega)) (.nil _))))) (List.nil_sublist _) ⟨n + 1, rfl, h, rfl, next (by rw [g3]; rfl), rfl⟩)
    · have h : n = p.els.length := by have := of_decide_eq_false h; omega
      subst h
      (conv => arg 2; whnf)
      refine wp_leaf (loop_exit ?_)
      (conv => arg 2; whnf); refine w_retp rfl (Vle.eq (cBool (isPa_end h1 h2 h3 h4 h5 h6 h7 hall).symm))
end Go.Sv
/- What a pattern is: the reference's. -/
namespace Go.Sv
open Go Go.Proofs

def aliasI (l : List El) (a : List UInt8) : Int := if l.any (fun x => decide (x.al = a)) then (l.findIdx (fun x => decide (x.al = a)) : Nat) else -1
theorem aliasI_hit {l : List El} {a : List UInt8} {n : Nat} {e : El} (h : l[n]? = some e) (ha : (l.take n).any (fun x => decide (x.al = a)) = false) (he : e.al = a) : aliasI l a = n := by
  have hi := (List.getElem?_eq_some_iff.1 h).1
  have hany : l.any (fun x => decide (x.al = a)) = true := List.any_eq_true.2 ⟨e, List.mem_of_getElem? h, decide_eq_true he⟩
  rw [aliasI, if_pos hany, (List.findIdx_eq hi).2]
  refine ⟨?_, fun j hj => ?_⟩
  · rw [(List.getElem?_eq_some_iff.1 h).2]; exact decide_eq_true he
  · have hj' : l[j]? = some l[j] := List.getElem?_eq_getElem (by omega)
    have hm : l[j] ∈ l.take n := by
      have : (l.take n)[j]? = some l[j] := by rw [List.getElem?_take, if_pos hj, hj']
      exact List.mem_of_getElem? this
    exact Bool.eq_false_iff.2 (fun h1 => List.any_eq_false.1 ha _ hm h1)
theorem aliasI_miss {l : List El} {a : List UInt8} (ha : l.any (fun x => decide (x.al = a)) = false) : aliasI l a = -1 := by rw [aliasI, ha]; rfl
theorem aliasI_iff {l : List El} {n : Nat} {e : El} (h : l[n]? = some e) : aliasI l e.al = n ↔ twiceB l n e.al = false := by
  have hi := (List.getElem?_eq_some_iff.1 h).1
  constructor
  · intro ha
    have hany : l.any (fun x => decide (x.al = e.al)) = true := List.any_eq_true.2 ⟨e, List.mem_of_getElem? h, decide_eq_true rfl⟩
    rw [aliasI, if_pos hany] at ha
    have ha : l.findIdx (fun x => decide (x.al = e.al)) = n := by omega
    obtain ⟨_, h2⟩ := (List.findIdx_eq hi).1 ha
    rw [twiceB, List.any_eq_false]
    intro y hy
    obtain ⟨j, hj⟩ := List.mem_iff_getElem?.1 hy
    rw [List.getElem?_take] at hj
    split at hj
    · rename_i hjn
      have := h2 j hjn
      have e3 := (List.getElem?_eq_some_iff.1 hj).2
      rw [e3] at this
      rw [this]; exact Bool.noConfusion
    · cases hj
  · intro ht
    exact aliasI_hit h ht rfl

set_option maxRecDepth 100000 in
theorem alias_call (l : List El) (a : List UInt8) (hl : l.length < 2 ^ 60) : PCall Tryz.prog 26 [elsV l, str a] (i64V (aliasI l a)) := by
  refine scall_of (live := []) (ords := []) Tryz.func26 rfl (by kernel_rfl) (by kernel_rfl) (Nat.le_of_ble_eq_true rfl) ?_
  (conv => arg 2; whnf); refine wp_loop (fun m fr R => ∃ n : Nat, m = l.length - n ∧ n ≤ l.length ∧ R = [] ∧ (l.take n).any (fun x => decide (x.al = a)) = false ∧ fr = frL [(0, elsV l), (1, str a), (5, i64V n)])
    l.length _ _ (.cons (.refl _) (.cons (.refl _) (.cons (.refl _) (.nil _)))) (List.Sublist.refl _) ⟨0, rfl, Nat.zero_le _, rfl, rfl, rfl⟩ ?_
  rintro m fr R ⟨n, rfl, hn, rfl, ha, rfl⟩
  (conv => arg 2; whnf); refine wp_ite (fun h => ?_) (fun h => ?_)
  · have h : n < l.length := by have := of_decide_eq_true h; rw [List.length_map] at this; omega
    obtain ⟨y, hy⟩ : ∃ y, l[n]? = some y := ⟨_, List.getElem?_eq_getElem h⟩
    (conv => arg 2; whnf); refine wp_elem n (.agg (elC y)) rfl (els_at hy) (Vle.refl _) ?_
    (conv => arg 2; whnf); refine wp_ite (fun h1 => ?_) (fun h1 => ?_)
    · have h1 : y.al = a := of_decide_eq_true ((strEq y.al a).symm.trans h1)
      (conv => arg 2; whnf)
      refine wp_leaf (loop_ret ?_)
      (conv => arg 2; whnf); refine w_retp rfl (Vle.eq (congrArg i64V (aliasI_hit hy ha h1).symm))
    · have h1 : y.al ≠ a := of_decide_eq_false ((strEq y.al a).symm.trans h1)
      (conv => arg 2; whnf)
      refine wp_leaf (loop_next (l.length - (n + 1)) _ _ (by omega) (.cons (.refl _) (.cons (.refl _) (.cons (Vle.inc n rfl (by omega)) (.nil _)))) (List.Sublist.refl _) ⟨n + 1, rfl, h, rfl, ?_, rfl⟩)
      rw [List.take_add_one, hy, List.any_append, ha]
      simp [h1]
  · have h : n = l.length := by have := of_decide_eq_false h; rw [List.length_map] at this; omega
    subst h
    rw [List.take_length] at ha
    (conv => arg 2; whnf)
    refine wp_leaf (loop_exit ?_)
    (conv => arg 2; whnf); refine w_retp rfl (Vle.eq (congrArg i64V (aliasI_miss ha).symm))
end Go.Sv
