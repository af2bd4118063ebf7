/- pasternlaw27.DiskKept. -/
import Derived.Test.YtgkfpgkpdkmjbaaDCrash
namespace Go.Sv
open Go Go.Proofs

def wSynced : List UInt8 := [115, 121, 110, 99, 101, 100]

/-- At a cut: of a truth value it is not told which. -/
theorem wp_cutB {P : Program} {R : List Res} {Q : Exit → Fr → List Res → Prop} {fr : Fr} {k : Fr → Tree} (s : Nat) (l : List (Nat × V)) (R1 : List Res) {b : Bool} (h : fr s = bV b) (h1 : Weak fr (frL l)) (h2 : R1.Sublist R) (h3 : ∀ b, (k (frL ((s, bV b) :: l))).wp P R1 Q) : (Tree.cut fr k).wp P R Q :=
  wp_cutR _ R1 (.cons (Vle.eq h) h1) h2 (h3 b)

theorem tmod_nat3 (a b : Nat) : ((a : Int).tmod (b : Int)) = ((a % b : Nat) : Int) := by rw [Int.tmod_eq_emod_of_nonneg (by omega)]; exact (Int.natCast_emod a b).symm

theorem kept_congr {f g : Nat → Bool} : ∀ (ws : List (Nat × List UInt8)) (k : Nat), (∀ i, k ≤ i → i < k + ws.length → f i = g i) → kept f k ws = kept g k ws
  | [], _, _ => rfl
  | w :: ws, k, h => by
    rw [kept, kept, h k (Nat.le_refl _) (by simp), kept_congr ws (k + 1) fun i h1 h2 => h i (by omega) (by simp; omega)]

/-- What is there when just those writes stay. -/
def stays (D : Dk) (b : List Bool) : List (List UInt8) := laidW D.sure (kept (fun k => b.getD k false) 0 D.loose)

structure KeptAt (i : Nat) (D : Dk) (b : List Bool) (W : List (List UInt8)) : Prop where
  ok : DOk D
  len : D.loose.length = i
  gone : D.gone = false
  left : D.left = 0
  blen : b.length = i
  wlen : W.length = 6
  small : ∀ w ∈ W, w.length ≤ 6
  at_ : ∀ j, j < 6 → (stays D b).getD j [] = pad (W.getD j [])

theorem stays_next {D : Dk} {b : List Bool} (x : Bool) (k : Nat) (c : List UInt8) (h : b.length = D.loose.length) :
    stays (dWritten D k c) (b ++ [x]) = if x then (stays D b).set k (pad c) else stays D b := by
  have e1 : kept (fun i => (b ++ [x]).getD i false) 0 D.loose = kept (fun i => b.getD i false) 0 D.loose := kept_congr _ _ fun i _ hi => by
    simp only [List.getD_eq_getElem?_getD]
    rw [List.getElem?_append_left (by omega)]
  show laidW D.sure (kept _ 0 (D.loose ++ [(k, pad c)])) = _
  rw [kept_append, e1, laidW_append]
  have e2 : (b ++ [x]).getD (0 + D.loose.length) false = x := by
    rw [Nat.zero_add, ← h]; simp
  cases x with
  | true =>
    rw [kept, if_pos e2, if_pos rfl]; rfl
  | false =>
    rw [kept, if_neg (by rw [e2]; decide), if_neg (by decide)]; rfl

theorem keptAt_next {i : Nat} {D : Dk} {b : List Bool} {W : List (List UInt8)} (h : KeptAt i D b W) (x : Bool) {k : Nat} (hk : k < 6) {c : List UInt8} (hc : c.length ≤ 6) :
    KeptAt (i + 1) (dWritten D k c) (b ++ [x]) (if x then W.set k c else W) := by
  have hn : (stays D b).length = 400 := by rw [stays, laidW_length, h.ok.n]
  refine ⟨dWrite_ok h.ok (dWrite_ok' h.gone (by omega) (by omega)), by simp [dWritten, h.len], by simp [dWritten, h.left, h.gone], by simp [dWritten, h.left], by simp [h.blen], by split <;> simp [h.wlen], ?_, fun j hj => ?_⟩
  · intro w hw
    split at hw
    · rcases List.mem_or_eq_of_mem_set hw with h1 | rfl
      · exact h.small w h1
      · exact hc
    · exact h.small w hw
  · rw [stays_next x k c (by rw [h.len, h.blen])]
    have h0 := h.at_ j hj
    have hwl := h.wlen
    cases x with
    | false => exact h0
    | true =>
      simp only [if_true]
      by_cases hjk : k = j
      · subst hjk
        rw [List.getD_eq_getElem?_getD, List.getElem?_set_self (by omega), List.getD_eq_getElem?_getD, List.getElem?_set_self (by omega)]; rfl
      · rw [List.getD_eq_getElem?_getD, List.getElem?_set_ne hjk, List.getD_eq_getElem?_getD, List.getElem?_set_ne hjk, ← List.getD_eq_getElem?_getD, ← List.getD_eq_getElem?_getD]; exact h0

/-- So many blocks were written. -/
structure Wrote (i : Nat) (t : Option Nat) (D : Dk) : Prop where
  ht : t = none → D.loose = []
  ok : DOk D
  len : D.loose.length = i
  gone : D.gone = false
  left : D.left = 0
  at_ : ∀ j, j < i → (dNow D).getD j [] = pad wSynced
theorem wrote_next {i t : Nat} {t0 : Option Nat} {D : Dk} (h : Wrote i t0 D) (hi : i < 6) : Wrote (i + 1) (some t) (dWritten D i wSynced) := by
  have hn : (dNow D).length = 400 := h.ok.now.1
  refine ⟨(fun e => by cases e), dWrite_ok h.ok (dWrite_ok' h.gone (by omega) (by decide)), by simp [dWritten, h.len], by simp [dWritten, h.left, h.gone], by simp [dWritten, h.left], fun j hj => ?_⟩
  have e : dNow (dWritten D i wSynced) = (dNow D).set i (pad wSynced) := by
    show laidW D.sure (D.loose ++ [(i, pad wSynced)]) = _
    rw [laidW_append]; rfl
  rw [e]
  by_cases hij : i = j
  · subst hij
    rw [List.getD_eq_getElem?_getD, List.getElem?_set_self (by omega)]; rfl
  · rw [List.getD_eq_getElem?_getD, List.getElem?_set_ne hij, ← List.getD_eq_getElem?_getD]
    exact h.at_ j (by omega)
theorem kept_start {D : Dk} (h : DOk D) (hl : D.loose = []) (hg : D.gone = false) (h0 : D.left = 0) (ha : ∀ j, j < 6 → (dNow D).getD j [] = pad wSynced) : KeptAt 0 D [] [wSynced, wSynced, wSynced, wSynced, wSynced, wSynced] := by
  refine ⟨h, by rw [hl]; rfl, hg, h0, rfl, rfl, by decide, fun j hj => ?_⟩
  have e : stays D [] = dNow D := by rw [stays, dNow, hl]; rfl
  rw [e, ha j hj]
  have : j = 0 ∨ j = 1 ∨ j = 2 ∨ j = 3 ∨ j = 4 ∨ j = 5 := by omega
  rcases this with rfl | rfl | rfl | rfl | rfl | rfl <;> rfl

set_option maxRecDepth 100000 in
set_option maxHeartbeats 2000000 in
theorem dkept_law (at_ : List UInt8) (keep : Nat) (hk : keep < 65536) : PCall Try.prog 11 [.sl none (at_.map byteV) .no, .c (.int .u16 keep)] (bV true) := by
  refine scall_of (live := [96, 101, 108]) (ords := [(13, []), (22, [])]) Try.func11 rfl (by kernel_rfl) (by kernel_rfl) (Nat.le_of_ble_eq_true rfl) ?_
  (conv => arg 2; whnf); refine wp_pcall known27_call ?_
  (conv => arg 2; whnf); refine wp_ite (fun h => by first | cases h | (simp at h; done)) (fun _ => ?_)
  (conv => arg 2; whnf); refine wp_ite (fun h1 => ?_) (fun h1 => ?_)
  · (conv => arg 2; whnf); refine w_retp rfl (.refl _)
  have h1 : at_.length ≤ 14 := by have := of_decide_eq_false h1; simp only [List.length_map] at this; omega
  (conv => arg 2; whnf); refine wp_callF [] [] [] rfl dnew_call ?_
  rintro v R' ⟨d, rfl, rfl⟩
  (conv => arg 2; whnf); refine wp_loop (fun ms fr R => ∃ i t D, ms = 6 - i ∧ i ≤ 6 ∧ R = DRes d t D ∧ Wrote i t D ∧ fr = frL [(0, .sl none (at_.map byteV) .no), (1, .c (.int .u16 keep)), (5, .loc d 0), (6, i64V (i : Nat))])
    6 _ _ (.cons (.refl _) (.cons (.refl _) (.cons (.refl _) (.cons (.refl _) (.nil _))))) (by simp) ⟨0, none, dNew, rfl, Nat.zero_le _, rfl, ⟨fun _ => rfl, dNew_ok, rfl, rfl, rfl, fun j hj => by omega⟩, rfl⟩ ?_
  rintro ms fr R ⟨i, t, D, rfl, hi, rfl, hC, rfl⟩
  (conv => arg 2; whnf); refine wp_ite (fun h => ?_) (fun h => ?_)
  · have h : i < 6 := by have := of_decide_eq_true h; omega
    have f1 := dwrite_call d t D (i : Nat) wSynced hC.ht (by rw [hC.len]; omega) (by rw [hC.left]; omega) (by decide)
    rw [dWrite_ok' hC.gone (by omega) (by decide)] at f1
    (conv => arg 2; whnf); refine wp_callF [] (DRes d t D) [] (by simp) f1 ?_
    rintro v R' ⟨rfl, t', rfl⟩
    (repeat ((conv => arg 2; whnf); first | refine wp_ite (fun _ => ?_) (fun h => Bool.noConfusion h) | refine wp_ite (fun h => Bool.noConfusion h) (fun _ => ?_)))
    (conv => arg 2; whnf)
    exact wp_leaf (loop_next (6 - (i + 1)) _ (DRes d (some t') (dWritten D i wSynced)) (by omega) (.cons (.refl _) (.cons (.refl _) (.cons (.refl _) (.cons (Vle.inc i rfl (by omega)) (.nil _))))) (by simp) ⟨i + 1, some t', _, rfl, by omega, rfl, wrote_next hC h, rfl⟩)
  have h : i = 6 := by have := of_decide_eq_false h; omega
  subst h
  (conv => arg 2; whnf)
  refine wp_leaf (loop_exit ?_)
  have f1 := dsync_call d t D hC.ht (by rw [hC.len]; decide) hC.ok
  have e1 : dSync D = .ok { D with sure := dNow D, loose := [] } := by rw [dSync, if_neg (by simp [hC.gone])]
  have hk1 := dSync_ok hC.ok e1
  have hs := kept_start (D := { D with sure := dNow D, loose := [] }) hk1 rfl hC.gone hC.left hC.at_
  rw [e1] at f1
  (conv => arg 2; whnf); refine wp_callF [] (DRes d t D) [] (by simp) f1 ?_
  rintro v R' ⟨rfl, rfl⟩
  generalize ({ D with sure := dNow D, loose := [] } : Dk) = D at *
  (repeat ((conv => arg 2; whnf); first | refine wp_ite (fun _ => ?_) (fun h => Bool.noConfusion h) | refine wp_ite (fun h => Bool.noConfusion h) (fun _ => ?_)))
  (conv => arg 2; whnf); refine wp_cutR (frL [(0, .sl none (at_.map byteV) .no), (1, .c (.int .u16 keep)), (5, .loc d 0)]) (DRes d none D) (.cons (.refl _) (.cons (.refl _) (.cons (.refl _) (.nil _)))) (by simp) ?_
  (conv => arg 2; whnf); refine wp_allocE (List.replicate 6 (str [])) rfl fun a => ?_
  (conv => arg 2; whnf); refine wp_storeE 1 0 (R' := DRes d none D ++ [.obj a ([wSynced, wSynced, wSynced, wSynced, wSynced, wSynced].map str)]) [str wSynced, str wSynced, str wSynced, str wSynced, str wSynced, str wSynced] rfl rfl (VleL.refl _) (Nat.le_of_ble_eq_true rfl) rfl rfl ?_
  (conv => arg 2; whnf); refine wp_loop (fun ms fr R => ∃ i t tb D b W, ms = at_.length - i ∧ i ≤ at_.length ∧ R = DRes d t D ++ [.obj a (W.map str)] ++ tokR none tb ∧ (t = none → D.loose = []) ∧ (tb = none → b = []) ∧ KeptAt i D b W ∧
      fr = frL [(0, .sl none (at_.map byteV) .no), (1, .c (.int .u16 keep)), (5, .loc d 0), (7, .loc a 0), (8, .sl none (b.map bV) (tkOf tb)), (9, i64V (i : Nat))])
    at_.length _ _ (.cons (.refl _) (.cons (.refl _) (.cons (.refl _) (.cons (.refl _) (.cons (.refl _) (.cons (.refl _) (.nil _))))))) (List.Sublist.refl _) ⟨0, none, none, D, [], _, rfl, Nat.zero_le _, rfl, fun _ => List.eq_nil_of_length_eq_zero hs.len, fun _ => rfl, hs, rfl⟩ ?_
  rintro ms fr R ⟨i, t, tb, D, b, W, rfl, hi, rfl, ht, htb, hC, rfl⟩
  (conv => arg 2; whnf); refine wp_ite (fun h => ?_) (fun h => ?_)
  · have h : i < at_.length := by have := of_decide_eq_true h; simp only [List.length_map] at this; omega
    obtain ⟨x, hx⟩ : ∃ x, at_[i]? = some x := ⟨_, List.getElem?_eq_getElem h⟩
    have hg : (at_.map byteV)[i]? = some (byteV x) := by rw [List.getElem?_map, hx]; rfl
    have c1 : IntKind.u8.wrap (IntKind.i64.wrap (97 + (i : Int))) = ((UInt8.ofNat (97 + i)).toNat : Int) := by
      rw [w_i64_small (by omega) (by omega), w_u8, UInt8.toNat_ofNat']; omega
    have c2 : IntKind.i64.wrap ((x.toNat : Int).tmod 6) = ((x.toNat % 6 : Nat) : Int) := by
      have a1 : IntKind.i64.wrap ((x.toNat % 6 : Nat) : Int) = ((x.toNat % 6 : Nat) : Int) := w_i64_small (by omega) (by omega)
      rw [show (6 : Int) = ((6 : Nat) : Int) from rfl, tmod_nat3, a1]
    have hx6 : x.toNat % 6 < 6 := by omega
    have c5 : (x.toNat : Int).tmod 6 = ((x.toNat % 6 : Nat) : Int) := tmod_nat3 _ 6
    generalize x.toNat % 6 = k at c2 c5 hx6
    obtain ⟨c, hc⟩ : ∃ c, c = [119, UInt8.ofNat (97 + i)] := ⟨_, rfl⟩
    have hc6 : c.length ≤ 6 := by rw [hc]; exact Nat.le_of_ble_eq_true rfl
    have c3 : (⟨#[119]⟩ : ByteArray) ++ ⟨([V.c (.int .u8 (IntKind.u8.wrap (IntKind.i64.wrap (97 + (i : Int)))))].map byteOf).toArray⟩ = S c := by
      rw [c1, hc]
      show S [119] ++ S [UInt8.ofNat (((UInt8.ofNat (97 + i)).toNat : Int).toNat)] = _
      rw [S_append, Int.toNat_natCast, UInt8.ofNat_toNat]; rfl
    have c4 : (⟨#[119]⟩ : ByteArray).size + (⟨([V.c (.int .u8 (IntKind.u8.wrap (IntKind.i64.wrap (97 + (i : Int)))))].map byteOf).toArray⟩ : ByteArray).size ≤ 4611686018427387904 := Nat.le_of_ble_eq_true rfl
    have f1 := dwrite_call d t D (k : Nat) c ht (by rw [hC.len]; omega) (by rw [hC.left]; omega) (by omega)
    rw [dWrite_ok' hC.gone (by omega) (by omega)] at f1
    (conv => arg 2; whnf); refine wp_need (fun v hv => ⟨UInt8.ofNat (97 + i), (List.mem_singleton.1 hv).trans (cU8 c1)⟩) ?_
    (conv => arg 2; whnf); refine wp_need c4 ?_
    (conv => arg 2; whnf); refine wp_elem i (byteV x) rfl hg (Vle.refl _) ?_
    (conv => arg 2; whnf); refine wp_callV [] (DRes d t D) ([.obj a (W.map str)] ++ tokR none tb) (by simp) (.cons (.refl _) (.cons (Vle.i64 _ rfl c2) (.cons (Vle.eq (cStr c3)) .nil))) f1 ?_
    rintro v R' ⟨rfl, t', rfl⟩
    have hn := fun x => keptAt_next hC x hx6 hc6
    generalize dWritten D k c = D2 at *
    have hnl : D2.loose.length = i + 1 := (hn true).len
    have f2 : SCall Try.prog 35 [.loc d 0] (DRes d (some t') D2) fun v R' => v = i64V ((i + 1 : Nat) : Int) ∧ R' = DRes d (some t') D2 := (dloose_call d (some t') D2 (fun h => by cases h)).mono fun v R' h => by rw [hnl] at h; exact h
    (repeat ((conv => arg 2; whnf); first | refine wp_ite (fun _ => ?_) (fun h => Bool.noConfusion h) | refine wp_ite (fun h => Bool.noConfusion h) (fun _ => ?_)))
    (conv => arg 2; whnf); refine wp_callF [] (DRes d (some t') D2) ([.obj a (W.map str)] ++ tokR none tb) (by simp) f2 ?_
    rintro v R' ⟨rfl, rfl⟩
    (conv => arg 2; whnf); refine wp_ite (fun h => ?_) (fun _ => ?_)
    · exfalso
      have e : IntKind.i64.wrap ((i : Int) + 1) = ((i + 1 : Nat) : Int) := by rw [w_i64_small (by omega) (by omega)]; rfl
      rw [e] at h
      simp at h
    (conv => arg 2; whnf); refine wp_need (by rw [w_u64]; omega) ?_
    (conv => arg 2; whnf)
    refine wp_cutB 11 [(0, .sl none (at_.map byteV) .no), (1, .c (.int .u16 keep)), (5, .loc d 0), (7, .loc a 0), (8, .sl none (b.map bV) (tkOf tb)), (9, i64V (i : Nat)), (10, str c)] (DRes d (some t') D2 ++ [.obj a (W.map str)] ++ tokR none tb) rfl
      (.cons (.refl _) (.cons (.refl _) (.cons (.refl _) (.cons (.refl _) (.cons (.refl _) (.cons (.refl _) (.cons (Vle.eq (cStr c3)) (.nil _)))))))) (by simp) (fun st => ?_)
    have hn := hn st
    (conv => arg 2; whnf); refine wp_append_w (sh := none) (sh' := none) (A := DRes d (some t') D2 ++ [.obj a (W.map str)]) (t := tb) (xs := b.map bV) (ys := [bV st]) (by rintro rfl; simp [htb rfl]) (fun _ => rfl) (by intro y hy; rw [List.mem_singleton.1 hy]; rfl) (show (_ + 1) * 1 ≤ _ by simp [hC.blen]; omega) (fun t2 => ?_)
    cases st with
    | false =>
      (repeat ((conv => arg 2; whnf); first | refine wp_ite (fun _ => ?_) (fun h => Bool.noConfusion h) | refine wp_ite (fun h => Bool.noConfusion h) (fun _ => ?_)))
      (conv => arg 2; whnf)
      refine wp_leaf (loop_next (at_.length - (i + 1)) _ (DRes d (some t') D2 ++ [.obj a (W.map str)] ++ tokR none (some t2)) (by omega) (.cons (.refl _) (.cons (.refl _) (.cons (.refl _) (.cons (.refl _) (.cons (Vle.eq ?_) (.cons (Vle.inc i rfl (by omega)) (.nil _))))))) (List.Sublist.refl _)
        ⟨i + 1, some t', some t2, D2, b ++ [false], W, rfl, h, rfl, (fun e => by cases e), (fun e => by cases e), hn, rfl⟩)
      rw [List.map_append]; rfl
    | true =>
      (repeat ((conv => arg 2; whnf); first | refine wp_ite (fun _ => ?_) (fun h => Bool.noConfusion h) | refine wp_ite (fun h => Bool.noConfusion h) (fun _ => ?_)))
      (conv => arg 2; whnf); refine wp_elem i (byteV x) rfl hg (Vle.refl _) ?_
      (conv => arg 2; whnf); refine wp_need (by rw [c5]; omega) ?_
      (conv => arg 2; whnf); refine wp_storeE (cs := W.map str) (DRes d (some t') D2).length k [str c] (R' := DRes d (some t') D2 ++ [.obj a ((W.set k c).map str)] ++ tokR none (some t2)) (by simp) (by show 0 + _ * 1 = _; rw [c5]; simp) (VleL.refl _) (by have := hC.wlen; simp; omega) rfl ?_ ?_
      · have h1 : k < (W.map str).length := by have := hC.wlen; simp; omega
        have h2 := splice_one (sp := []) (v := str c) h1
        rw [List.append_nil, List.append_nil] at h2
        rw [h2, List.map_set]
        simp [tokR]
      (conv => arg 2; whnf)
      refine wp_leaf (loop_next (at_.length - (i + 1)) _ (DRes d (some t') D2 ++ [.obj a ((W.set k c).map str)] ++ tokR none (some t2)) (by omega) (.cons (.refl _) (.cons (.refl _) (.cons (.refl _) (.cons (.refl _) (.cons (Vle.eq ?_) (.cons (Vle.inc i rfl (by omega)) (.nil _))))))) (List.Sublist.refl _)
        ⟨i + 1, some t', some t2, D2, b ++ [true], W.set k c, rfl, h, rfl, (fun e => by cases e), (fun e => by cases e), hn, rfl⟩)
      rw [List.map_append]; rfl
  have h : i = at_.length := by have := of_decide_eq_false h; simp only [List.length_map] at this; omega
  subst h
  (conv => arg 2; whnf)
  refine wp_leaf (loop_exit ?_)
  have f3 : SCall Try.prog 33 [.loc d 0, .sl none (b.map bV) (tkOf tb)] (DRes d t D) fun _ R' => R' = DRes d none (dCrash D b) := (dcrash_call d t D b ht (by rw [hC.len]; omega) hC.ok).vle (.cons (.refl _) (.cons (Vle.sl _ _ _) .nil))
  have hok := dCrash_ok b hC.ok
  have hat : ∀ j, j < 6 → dRead (dCrash D b) (j : Nat) = pad (W.getD j []) := fun j hj => by
    rw [dRead_now _ (by omega)]; exact hC.at_ j hj
  (conv => arg 2; whnf); refine wp_callF [] (DRes d t D) ([.obj a (W.map str)] ++ tokR none tb) (by simp) f3 ?_
  rintro v R' rfl
  have hlo : (dCrash D b).loose = [] := rfl
  generalize dCrash D b = E at *
  (conv => arg 2; whnf); refine wp_loop (fun ms fr R => ∃ i, ms = 6 - i ∧ i ≤ 6 ∧ R = DRes d none E ++ [.obj a (W.map str)] ∧ fr = frL [(5, .loc d 0), (7, .loc a 0), (12, i64V (i : Nat))])
    6 _ (DRes d none E ++ [.obj a (W.map str)]) (.cons (.refl _) (.cons (.refl _) (.cons (.refl _) (.nil _)))) (by simp) ⟨0, rfl, Nat.zero_le _, rfl, rfl⟩ ?_
  rintro ms fr R ⟨j, rfl, hj, rfl, rfl⟩
  (conv => arg 2; whnf); refine wp_ite (fun h => ?_) (fun h => ?_)
  · have h : j < 6 := by have := of_decide_eq_true h; omega
    have hw := hC.wlen
    obtain ⟨w, hwj⟩ : ∃ w, W[j]? = some w := ⟨_, List.getElem?_eq_getElem (by omega)⟩
    have hws : w.length ≤ 6 := hC.small w (List.mem_of_getElem? hwj)
    have hgj : (W.map str)[j]? = some (str w) := by rw [List.getElem?_map, hwj]; rfl
    have e1 : dRead E (j : Nat) = pad w := by rw [hat j h, List.getD_eq_getElem?_getD, hwj]; rfl
    have hpl : (pad w).length = 64 := pad_length (by omega)
    have f4 := dread_call d none E (j : Nat) (fun _ => hlo) (by rw [hlo]; decide) hok
    rw [e1] at f4
    (conv => arg 2; whnf); refine wp_callF [] (DRes d none E) [.obj a (W.map str)] (by simp) f4 ?_
    rintro v R' ⟨rfl, rfl⟩
    (conv => arg 2; whnf); refine wp_ite (fun h => ?_) (fun _ => ?_)
    · exfalso
      simp [hpl] at h
    (conv => arg 2; whnf); refine wp_need (by omega) ?_
    (conv => arg 2; whnf); refine wp_load (DRes d none E).length (cs := W.map str) (v := str w) (by simp) (by show (W.map str)[0 + (j : Int).toNat * 1]? = _; rw [Nat.mul_one, Nat.zero_add, Int.toNat_natCast]; exact hgj) ?_
    (conv => arg 2; whnf); refine wp_need (by simp [hpl]; omega) ?_
    (conv => arg 2; whnf); refine wp_need (by omega) ?_
    (conv => arg 2; whnf); refine wp_load (DRes d none E).length (cs := W.map str) (v := str w) (by simp) (by show (W.map str)[0 + (j : Int).toNat * 1]? = _; rw [Nat.mul_one, Nat.zero_add, Int.toNat_natCast]; exact hgj) ?_
    (conv => arg 2; whnf); refine wp_ite (fun h => ?_) (fun _ => ?_)
    · exfalso
      have e : (S (pad w)).extract 0 (Int.toNat ((S w).size : Int)) = S w := by
        rw [S_extract, S_size, Int.toNat_natCast, List.drop_zero]
        simp [pad]
      rw [e, strEq] at h
      simp at h
    (conv => arg 2; whnf); refine wp_need (by omega) ?_
    (conv => arg 2; whnf); refine wp_load (DRes d none E).length (cs := W.map str) (v := str w) (by simp) (by show (W.map str)[0 + (j : Int).toNat * 1]? = _; rw [Nat.mul_one, Nat.zero_add, Int.toNat_natCast]; exact hgj) ?_
    (conv => arg 2; whnf); refine wp_need (by simp [hpl]; omega) ?_
    (conv => arg 2; whnf); refine wp_ite (fun h => ?_) (fun _ => ?_)
    · exfalso
      have e : byteAt (S (pad w)) (Int.toNat ((S w).size : Int)) = 0 := by
        rw [S_byteAt, S_size, Int.toNat_natCast, pad, List.getD_eq_getElem?_getD, List.getElem?_append_right (Nat.le_refl _), Nat.sub_self, List.getElem?_replicate, if_pos (by omega)]; rfl
      rw [e] at h
      exact absurd h (by decide)
    (conv => arg 2; whnf)
    exact wp_leaf (loop_next (6 - (j + 1)) _ (DRes d none E ++ [.obj a (W.map str)]) (by omega) (.cons (.refl _) (.cons (.refl _) (.cons (Vle.inc j rfl (by omega)) (.nil _)))) (by simp) ⟨j + 1, rfl, by omega, rfl, rfl⟩)
  have h : j = 6 := by have := of_decide_eq_false h; omega
  subst h
  (conv => arg 2; whnf)
  refine wp_leaf (loop_exit ?_)
  have f5 : SCall Try.prog 35 [.loc d 0] (DRes d none E) fun v R' => v = i64V 0 ∧ R' = DRes d none E := (dloose_call d none E (fun _ => hlo)).mono fun v R' h => by rw [hlo] at h; exact h
  (conv => arg 2; whnf); refine wp_callF [] (DRes d none E) [.obj a (W.map str)] (by simp) f5 ?_
  rintro v R' ⟨rfl, rfl⟩
  (conv => arg 2; whnf); refine w_retp rfl (.refl _)
end Go.Sv
