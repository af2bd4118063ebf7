/- Heads. -/
import Derived.Test.YtgkfpgkpdkmjbaaDisk3
import Derived.Test.YtgkfpgkpdkmjbaaDiskFns2
namespace Go.Sv
open Go Go.Proofs

theorem strEq (l m : List UInt8) : ((S l).toList == (S m).toList) = decide (l = m) := by
  rw [S_toList, S_toList, Bool.eq_iff_iff]; simp

section
variable {P : Program} {R : List Res}
theorem w_retCT {fn : Func} {K : V → List Res → Prop} {fr : Fr} {x t ty : Nat} (i b off : Nat) {sh : Option Nat} {cs : List V} (v1 v2 : V) {R' : List Res} (h : fn.results.toList = [.cell x ty, .tmp t]) (hx : fr x = .loc b off) (hsh : shapeOf P ty = some sh) (hR : R[i]? = some (.obj b cs)) (hp : partOf sh cs off = some v1)
    (hv : Vle (fr t) v2) (hs : R'.Sublist R) (hK : K (.tup [v1, v2]) R') : (Tree.leaf .ret fr).wp P R (Ends P fn K) :=
  ⟨.inr rfl, [v1, fr t], .tup [v1, v2], R', by rw [h]; exact ⟨b, off, sh, i, cs, v1, [fr t], hx, hsh, hR, hp, rfl, [], rfl, rfl⟩, UpdV.vle (Vle.tup (.cons (Vle.refl _) (.cons hv .nil))) hs, hK⟩
theorem w_retC {fn : Func} {K : V → List Res → Prop} {fr : Fr} {x ty : Nat} (i b off : Nat) {sh : Option Nat} {cs : List V} (v : V) {R' : List Res} (h : fn.results.toList = [.cell x ty]) (hx : fr x = .loc b off) (hsh : shapeOf P ty = some sh) (hR : R[i]? = some (.obj b cs)) (hp : partOf sh cs off = some v)
    (hs : R'.Sublist R) (hK : K v R') : (Tree.leaf .ret fr).wp P R (Ends P fn K) :=
  ⟨.inr rfl, [v], v, R', by rw [h]; exact ⟨b, off, sh, i, cs, v, [], hx, hsh, hR, hp, rfl, rfl⟩, UpdV.vle (Vle.refl _) hs, hK⟩
end

def hdL (h : Hd) : List V := [u64V h.1, u64V h.2.1, u64V h.2.2]

set_option maxRecDepth 100000 in
theorem hbytes_call (t s l : Nat) (ht : t < 18446744073709551616) (hs : s < 18446744073709551616) (hl : l < 18446744073709551616) :
    PCall Try.prog 52 [.agg [u64V t, u64V s, u64V l]] (str (hdB t s l)) := by
  refine scall_of (live := [20]) (ords := []) Try.func52 rfl (by kernel_rfl) (by kernel_rfl) (Nat.le_of_ble_eq_true rfl) ?_
  (conv => arg 2; whnf); refine wp_callF [] [] [] rfl new_call ?_
  rintro v R' ⟨w, rfl, rfl⟩
  (conv => arg 2; whnf); refine wp_callF [] (WRes w none []) [] (by simp) (wnum_call w none [] t (fun _ => rfl) ht (by simp)) ?_
  rintro v R' ⟨t1, rfl⟩
  (conv => arg 2; whnf); refine wp_callF [] (WRes w (some t1) ([] ++ enc t)) [] (by simp) (wnum_call w (some t1) ([] ++ enc t) s (fun h => by cases h) hs (by have := enc_length t; simp; omega)) ?_
  rintro v R' ⟨t2, rfl⟩
  (conv => arg 2; whnf); refine wp_callF [] (WRes w (some t2) ([] ++ enc t ++ enc s)) [] (by simp) (wnum_call w (some t2) ([] ++ enc t ++ enc s) l (fun h => by cases h) hl (by have := enc_length t; have := enc_length s; simp; omega)) ?_
  rintro v R' ⟨t3, rfl⟩
  (conv => arg 2; whnf); refine wp_need (fun v hv => by rw [List.mem_singleton.1 hv]; exact ⟨7, rfl⟩) ?_
  (conv => arg 2; whnf); refine wp_callF [] (WRes w (some t3) ([] ++ enc t ++ enc s ++ enc l)) [] (by simp) (wstring_call w (some t3) ([] ++ enc t ++ enc s ++ enc l)) ?_
  rintro v R' ⟨rfl, rfl⟩
  (conv => arg 2; whnf); refine wp_need (show (S [7]).size + (S ([] ++ enc t ++ enc s ++ enc l)).size ≤ _ from ?_) ?_
  · have h1 := enc_length t
    have h2 := enc_length s
    have h3 := enc_length l
    simp only [S_size, List.length_append, List.length_cons, List.length_nil]
    omega
  (conv => arg 2; whnf); refine w_retp rfl (Vle.eq ?_)
  show V.c (.string (S [7] ++ S ([] ++ enc t ++ enc s ++ enc l))) = _
  simp [str, hdB]

theorem DRes0 (d : Nat) (t : Option Nat) (D : Dk) : (DRes d t D)[0]? = some (.obj d (dkC t D)) := by simp [DRes]
def z3 : List V := [u64V 0, u64V 0, u64V 0]
set_option maxRecDepth 100000 in
theorem ishead_call (d : Nat) (t : Option Nat) (D : Dk) (block : Nat) (hb : block < 2) (ht : t = none → D.loose = []) (hl : D.loose.length < 2 ^ 40) (hD : DOk D) :
    SCall Try.prog 64 [.loc d 0, i64V block] (DRes d t D) fun v R' => v = .tup [.agg (hdL (isHd (dRead D block) block).1), bV (isHd (dRead D block) block).2] ∧ R' = DRes d t D := by
  have hs : (dRead D block).length = 64 := dRead_length hD (by omega) (by omega)
  have hrd := dread_call d t D block ht hl hD
  generalize dRead D block = s at hs hrd
  refine scall_of (live := [49]) (ords := []) Try.func64 rfl (by kernel_rfl) (by kernel_rfl) (Nat.le_of_ble_eq_true rfl) ?_
  (conv => arg 2; whnf); refine wp_allocE z3 rfl fun e => ?_
  (conv => arg 2; whnf); refine wp_callF [] (DRes d t D) [.obj e z3] (by simp) hrd ?_
  rintro v R' ⟨rfl, rfl⟩
  (conv => arg 2; whnf); refine wp_need (by simp only [S_size]; omega) ?_
  (conv => arg 2; whnf); refine wp_callV (DRes d t D ++ [.obj e z3]) [] [] (by simp) (.cons (Vle.eq ?_) .nil) (of_call (s.drop 1)) ?_
  · show V.c (.string ((S s).extract 1 (S s).size)) = _
    rw [S_extract, S_size, List.take_length]; rfl
  rintro v R' ⟨r, rfl, rfl⟩
  have hl1 : (s.drop 1).length < 2 ^ 60 := by simp; omega
  have n1 := rdN_lt 1099511627776 (by omega) (s.drop 1) none
  (conv => arg 2; whnf); refine wp_callF (DRes d t D ++ [.obj e z3]) (RRes r (s.drop 1) none) [] (by simp) (rdN_call r (s.drop 1) none 1099511627776 hl1) ?_
  rintro v R' ⟨rfl, rfl⟩
  have hl2 : (rdA s).2.1.length < 2 ^ 60 := by have := n1.2; show (rdN 1099511627776 (s.drop 1) none).2.1.length < _; omega
  (conv => arg 2; whnf); refine wp_allocE z3 rfl fun h => ?_
  (conv => arg 2; whnf); refine wp_storeE (cs := z3) ((DRes d t D).length + 2) 0 [u64V (rdA s).1, u64V 0, u64V 0] (by simp [RRes]) rfl (VleL.refl _) (Nat.le_refl _) rfl (R' := DRes d t D ++ [.obj e z3] ++ RRes r (rdA s).2.1 (rdA s).2.2 ++ [.obj h [u64V (rdA s).1, u64V 0, u64V 0]]) (by simp [RRes, splice, z3, rdA]) ?_
  (conv => arg 2; whnf); refine wp_callF (DRes d t D ++ [.obj e z3]) (RRes r (rdA s).2.1 (rdA s).2.2) [.obj h [u64V (rdA s).1, u64V 0, u64V 0]] (by simp) (rdN_call r (rdA s).2.1 (rdA s).2.2 1 hl2) ?_
  rintro v R' ⟨rfl, rfl⟩
  have n2 := rdN_lt 1 (by omega) (rdA s).2.1 (rdA s).2.2
  have hl3 : (rdB s).2.1.length < 2 ^ 60 := by have := n2.2; show (rdN 1 (rdA s).2.1 (rdA s).2.2).2.1.length < _; omega
  (conv => arg 2; whnf); refine wp_storeE (cs := [u64V (rdA s).1, u64V 0, u64V 0]) ((DRes d t D).length + 2) 1 [u64V (rdB s).1] (by simp [RRes]) rfl (VleL.refl _) (Nat.le_of_ble_eq_true rfl) rfl (R' := DRes d t D ++ [.obj e z3] ++ RRes r (rdB s).2.1 (rdB s).2.2 ++ [.obj h [u64V (rdA s).1, u64V (rdB s).1, u64V 0]]) (by simp [RRes, splice, rdB]) ?_
  (conv => arg 2; whnf); refine wp_callF (DRes d t D ++ [.obj e z3]) (RRes r (rdB s).2.1 (rdB s).2.2) [.obj h [u64V (rdA s).1, u64V (rdB s).1, u64V 0]] (by simp) (rdN_call r (rdB s).2.1 (rdB s).2.2 12672 hl3) ?_
  rintro v R' ⟨rfl, rfl⟩
  have n3 := rdN_lt 12672 (by omega) (rdB s).2.1 (rdB s).2.2
  (conv => arg 2; whnf); refine wp_storeE (cs := [u64V (rdA s).1, u64V (rdB s).1, u64V 0]) ((DRes d t D).length + 2) 2 [u64V (rdC s).1] (by simp [RRes]) rfl (VleL.refl _) (Nat.le_of_ble_eq_true rfl) rfl (R' := DRes d t D ++ [.obj e z3] ++ RRes r (rdC s).2.1 (rdC s).2.2 ++ [.obj h (hdL ((rdA s).1, (rdB s).1, (rdC s).1))]) (by simp [RRes, splice, rdC, hdL]) ?_
  (conv => arg 2; whnf); refine wp_need (by simp only [S_size]; omega) ?_
  have sub : (DRes d t D).Sublist (DRes d t D ++ [.obj e z3] ++ RRes r (rdC s).2.1 (rdC s).2.2 ++ [.obj h (hdL ((rdA s).1, (rdB s).1, (rdC s).1))]) :=
    ((List.sublist_append_left _ _).trans (List.sublist_append_left _ _)).trans (List.sublist_append_left _ _)
  have hb0 : byteAt (S s) (Int.toNat 0) = s.headD 0 := by cases s <;> rfl
  rw [hb0]
  (conv => arg 2; whnf); refine wp_ite (fun h1 => ?_) (fun h1 => ?_)
  · (repeat ((conv => arg 2; whnf); first | refine wp_ite (fun _ => ?_) (fun h => Bool.noConfusion h) | refine wp_ite (fun h => Bool.noConfusion h) (fun _ => ?_)))
    (conv => arg 2; whnf); refine wp_storeE (cs := z3) (DRes d t D).length 0 z3 (by simp [RRes]) rfl (VleL.refl _) (Nat.le_of_ble_eq_true rfl) rfl (R' := DRes d t D ++ [.obj e z3] ++ RRes r (rdC s).2.1 (rdC s).2.2 ++ [.obj h (hdL ((rdA s).1, (rdB s).1, (rdC s).1))]) (by simp [splice, z3]) ?_
    (conv => arg 2; whnf); refine w_retCT (cs := z3) (sh := some 3) (DRes d t D).length e 0 (.agg z3) (bV false) rfl rfl rfl (by simp) rfl (Vle.refl _) sub ⟨?_, rfl⟩
    rw [isHd, if_pos (.inl (by intro h; rw [h] at h1; revert h1; decide))]; rfl
  have h1' : s.headD 0 = 7 := by
    have : ((s.headD 0).toNat : Int) = 7 := by simpa using h1
    exact UInt8.toNat_inj.1 (by show _ = 7; omega)
  (conv => arg 2; whnf); refine wp_callF (DRes d t D ++ [.obj e z3]) (RRes r (rdC s).2.1 (rdC s).2.2) [.obj h (hdL ((rdA s).1, (rdB s).1, (rdC s).1))] (by simp) (err_call r _ _) ?_
  rintro v R' ⟨hv, rfl⟩
  have h2' : (rdC s).2.2 ≠ none ∨ (rdC s).2.2 = none := by cases (rdC s).2.2 <;> simp
  rcases h2' with h2 | h2
  · obtain ⟨c, h2'⟩ := Option.ne_none_iff_exists'.1 h2
    rw [h2'] at hv
    subst hv
    (repeat ((conv => arg 2; whnf); first | refine wp_ite (fun _ => ?_) (fun h => Bool.noConfusion h) | refine wp_ite (fun h => Bool.noConfusion h) (fun _ => ?_)))
    (conv => arg 2; whnf); refine wp_storeE (cs := z3) (DRes d t D).length 0 z3 (by simp [RRes]) rfl (VleL.refl _) (Nat.le_of_ble_eq_true rfl) rfl (R' := DRes d t D ++ [.obj e z3] ++ RRes r (rdC s).2.1 (rdC s).2.2 ++ [.obj h (hdL ((rdA s).1, (rdB s).1, (rdC s).1))]) (by simp [splice, z3]) ?_
    (conv => arg 2; whnf); refine w_retCT (cs := z3) (sh := some 3) (DRes d t D).length e 0 (.agg z3) (bV false) rfl rfl rfl (by simp) rfl (Vle.refl _) sub ⟨?_, rfl⟩
    rw [isHd, if_pos (.inr (.inl h2))]; rfl
  rw [h2] at hv
  subst hv
  (repeat ((conv => arg 2; whnf); first | refine wp_ite (fun _ => ?_) (fun h => Bool.noConfusion h) | refine wp_ite (fun h => Bool.noConfusion h) (fun _ => ?_)))
  (conv => arg 2; whnf); refine wp_load (cs := hdL ((rdA s).1, (rdB s).1, (rdC s).1)) ((DRes d t D).length + 2) (by simp [RRes]) rfl ?_
  (conv => arg 2; whnf); refine wp_ite (fun h3 => ?_) (fun h3 => ?_)
  · (repeat ((conv => arg 2; whnf); first | refine wp_ite (fun _ => ?_) (fun h => Bool.noConfusion h) | refine wp_ite (fun h => Bool.noConfusion h) (fun _ => ?_)))
    (conv => arg 2; whnf); refine wp_storeE (cs := z3) (DRes d t D).length 0 z3 (by simp [RRes]) rfl (VleL.refl _) (Nat.le_of_ble_eq_true rfl) rfl (R' := DRes d t D ++ [.obj e z3] ++ RRes r (rdC s).2.1 (rdC s).2.2 ++ [.obj h (hdL ((rdA s).1, (rdB s).1, (rdC s).1))]) (by simp [splice, z3]) ?_
    (conv => arg 2; whnf); refine w_retCT (cs := z3) (sh := some 3) (DRes d t D).length e 0 (.agg z3) (bV false) rfl rfl rfl (by simp) rfl (Vle.refl _) sub ⟨?_, rfl⟩
    rw [isHd, if_pos (.inr (.inr (.inl (by have := of_decide_eq_true h3; omega))))]; rfl
  have h3 : ¬ (rdA s).1 < 1 := by have := of_decide_eq_false h3; omega
  (repeat ((conv => arg 2; whnf); first | refine wp_ite (fun _ => ?_) (fun h => Bool.noConfusion h) | refine wp_ite (fun h => Bool.noConfusion h) (fun _ => ?_)))
  (conv => arg 2; whnf); refine wp_load (cs := hdL ((rdA s).1, (rdB s).1, (rdC s).1)) ((DRes d t D).length + 2) (by simp [RRes]) rfl ?_
  have ew : IntKind.u64.wrap (block : Int) = block := by rw [w_u64]; omega
  have em : ((rdA s).1 : Int).tmod 2 = (((rdA s).1 % 2 : Nat) : Int) := by rw [Int.tmod_eq_emod_of_nonneg (by omega)]; omega
  (conv => arg 2; whnf); refine wp_ite (fun h4 => ?_) (fun h4 => ?_)
  · simp only [ew, em] at h4
    (repeat ((conv => arg 2; whnf); first | refine wp_ite (fun _ => ?_) (fun h => Bool.noConfusion h) | refine wp_ite (fun h => Bool.noConfusion h) (fun _ => ?_)))
    (conv => arg 2; whnf); refine wp_storeE (cs := z3) (DRes d t D).length 0 z3 (by simp [RRes]) rfl (VleL.refl _) (Nat.le_of_ble_eq_true rfl) rfl (R' := DRes d t D ++ [.obj e z3] ++ RRes r (rdC s).2.1 (rdC s).2.2 ++ [.obj h (hdL ((rdA s).1, (rdB s).1, (rdC s).1))]) (by simp [splice, z3]) ?_
    (conv => arg 2; whnf); refine w_retCT (cs := z3) (sh := some 3) (DRes d t D).length e 0 (.agg z3) (bV false) rfl rfl rfl (by simp) rfl (Vle.refl _) sub ⟨?_, rfl⟩
    rw [isHd, if_pos (.inr (.inr (.inr (by intro h; rw [h] at h4; simp at h4))))]; rfl
  simp only [ew, em] at h4
  have h4 : (rdA s).1 % 2 = block := by
    have : (((rdA s).1 % 2 : Nat) : Int) = block := by simpa using h4
    omega
  (repeat ((conv => arg 2; whnf); first | refine wp_ite (fun _ => ?_) (fun h => Bool.noConfusion h) | refine wp_ite (fun h => Bool.noConfusion h) (fun _ => ?_)))
  (conv => arg 2; whnf); refine wp_load (cs := hdL ((rdA s).1, (rdB s).1, (rdC s).1)) ((DRes d t D).length + 2) (by simp [RRes]) rfl ?_
  (conv => arg 2; whnf); refine wp_pcallV (VleL.refl _) (hbytes_call (rdA s).1 (rdB s).1 (rdC s).1 n1.1 n2.1 n3.1) ?_
  (conv => arg 2; whnf); refine wp_load (cs := hdL ((rdA s).1, (rdB s).1, (rdC s).1)) ((DRes d t D).length + 2) (by simp [RRes]) rfl ?_
  have hbl := hdB_length (rdA s).1 (rdB s).1 (rdC s).1
  have e1 : IntKind.i64.wrap (64 - ((S (hdB (rdA s).1 (rdB s).1 (rdC s).1)).size : Int)) = ((64 - (hdB (rdA s).1 (rdB s).1 (rdC s).1).length : Nat) : Int) := by rw [S_size, w_i64]; omega
  (conv => arg 2; whnf); refine wp_pcV (.cons (.refl _) (.cons (Vle.eq (cI64 e1)) .nil)) (repeat_call (64 - (hdB (rdA s).1 (rdB s).1 (rdC s).1).length) (by omega)) ?_
  (conv => arg 2; whnf); refine wp_need (by simp only [S_size, List.length_replicate]; omega) ?_
  (conv => arg 2; whnf); refine wp_storeE (cs := z3) (DRes d t D).length 0 (hdL ((rdA s).1, (rdB s).1, (rdC s).1)) (by simp [RRes]) rfl (VleL.refl _) (Nat.le_of_ble_eq_true rfl) rfl (R' := DRes d t D ++ [.obj e (hdL ((rdA s).1, (rdB s).1, (rdC s).1))] ++ RRes r (rdC s).2.1 (rdC s).2.2 ++ [.obj h (hdL ((rdA s).1, (rdB s).1, (rdC s).1))]) (by simp [splice, z3, hdL]) ?_
  (conv => arg 2; whnf); refine w_retCT (cs := hdL ((rdA s).1, (rdB s).1, (rdC s).1)) (sh := some 3) (DRes d t D).length e 0 (.agg (hdL ((rdA s).1, (rdB s).1, (rdC s).1))) (bV (decide (pad (hdB (rdA s).1 (rdB s).1 (rdC s).1) = s))) rfl rfl rfl (by simp) rfl (Vle.eq (cBool ?_)) (((List.sublist_append_left _ _).trans (List.sublist_append_left _ _)).trans (List.sublist_append_left _ _)) ⟨?_, rfl⟩
  · rw [S_append]; exact strEq _ _
  · rw [isHd, if_neg (by rintro (h | h | h | h); exact h h1'; exact h h2; exact h3 h; exact h h4)]

set_option maxRecDepth 100000 in
theorem counts_call (d : Nat) (t : Option Nat) (D : Dk) (ht : t = none → D.loose = []) (hl : D.loose.length < 2 ^ 40) (hD : DOk D) :
    SCall Try.prog 50 [.loc d 0] (DRes d t D) fun v R' => v = .tup [.agg (hdL (cntF D 2)), bV (decide (0 < (cntF D 2).1))] ∧ R' = DRes d t D := by
  refine scall_of (live := [27, 29, 3000002]) (ords := []) Try.func50 rfl (by kernel_rfl) (by kernel_rfl) (Nat.le_of_ble_eq_true rfl) ?_
  (conv => arg 2; whnf); refine wp_allocE z3 rfl fun e => ?_
  (conv => arg 2; whnf); refine wp_allocD z3 rfl fun o ho => ?_
  have heo : e ≠ o := ho (DRes d t D).length e z3 (by simp) (by simp [z3])
  (conv => arg 2; whnf); refine wp_loop (fun m fr R => ∃ n : Nat, m = 2 - n ∧ n ≤ 2 ∧ R = DRes d t D ++ [.obj e z3, .obj o (hdL (cntF D n))] ∧ fr = frL [(0, .loc d 0), (2, .loc e 0), (4, .loc o 0), (8, i64V (n : Nat))])
    2 _ _ (.cons (.refl _) (.cons (.refl _) (.cons (.refl _) (.cons (.refl _) (.nil _))))) (by rw [show hdL (cntF D 0) = z3 from rfl]; simp) ⟨0, rfl, Nat.zero_le _, rfl, rfl⟩ ?_
  rintro m fr R ⟨n, rfl, hn, rfl, rfl⟩
  (conv => arg 2; whnf); refine wp_ite (fun h => ?_) (fun h => ?_)
  · have h : n < 2 := by have := of_decide_eq_true h; omega
    (conv => arg 2; whnf); refine wp_callF [] (DRes d t D) [.obj e z3, .obj o (hdL (cntF D n))] (by simp) (ishead_call d t D n h ht hl hD) ?_
    rintro v R' ⟨rfl, rfl⟩
    have hc : cntF D (n + 1) = if (isHd (dRead D n) n).2 = true ∧ (cntF D n).1 < (isHd (dRead D n) n).1.1 then (isHd (dRead D n) n).1 else cntF D n := rfl
    generalize isHd (dRead D n) n = hd at hc
    (conv => arg 2; whnf); refine wp_allocE z3 rfl fun b => ?_
    (conv => arg 2; whnf); refine wp_storeE (cs := z3) ((DRes d t D).length + 2) 0 (hdL hd.1) (by simp) rfl (VleL.refl _) (Nat.le_of_ble_eq_true rfl) rfl (R' := DRes d t D ++ [.obj e z3, .obj o (hdL (cntF D n)), .obj b (hdL hd.1)]) (by simp [splice, z3, hdL]) ?_
    (conv => arg 2; whnf); refine wp_ite (fun h1 => ?_) (fun h1 => ?_)
    · (conv => arg 2; whnf); refine wp_load (cs := hdL hd.1) ((DRes d t D).length + 2) (by simp) rfl ?_
      (conv => arg 2; whnf); refine wp_load (cs := hdL (cntF D n)) ((DRes d t D).length + 1) (by simp) rfl ?_
      (conv => arg 2; whnf); refine wp_ite (fun h2 => ?_) (fun h2 => ?_)
      · (conv => arg 2; whnf); refine wp_load (cs := hdL hd.1) ((DRes d t D).length + 2) (by simp) rfl ?_
        have h2 := of_decide_eq_true h2
        rw [if_pos ⟨h1, by simpa using h2⟩] at hc
        (conv => arg 2; whnf); refine wp_storeE (cs := hdL (cntF D n)) ((DRes d t D).length + 1) 0 (hdL (cntF D (n + 1))) (by simp) rfl (by rw [hc]; exact VleL.refl _) (Nat.le_of_ble_eq_true rfl) rfl (R' := DRes d t D ++ [.obj e z3, .obj o (hdL (cntF D (n + 1))), .obj b (hdL hd.1)]) (by simp [splice, hdL]) ?_
        (conv => arg 2; whnf)
        refine wp_leaf (loop_next (2 - (n + 1)) _ _ (by omega) (.cons (.refl _) (.cons (.refl _) (.cons (.refl _) (.cons (Vle.inc n rfl (by omega)) (.nil _))))) (by simp) ⟨n + 1, rfl, h, rfl, rfl⟩)
      · have h2 := of_decide_eq_false h2
        rw [if_neg (by rintro ⟨_, h⟩; exact h2 (by simpa using h))] at hc
        (conv => arg 2; whnf)
        refine wp_leaf (loop_next (2 - (n + 1)) _ _ (by omega) (.cons (.refl _) (.cons (.refl _) (.cons (.refl _) (.cons (Vle.inc n rfl (by omega)) (.nil _))))) (by simp [hc]) ⟨n + 1, rfl, h, rfl, rfl⟩)
    · (repeat ((conv => arg 2; whnf); first | refine wp_ite (fun _ => ?_) (fun h => Bool.noConfusion h) | refine wp_ite (fun h => Bool.noConfusion h) (fun _ => ?_)))
      rw [if_neg (by rintro ⟨h, _⟩; rw [h1] at h; cases h)] at hc
      (conv => arg 2; whnf)
      refine wp_leaf (loop_next (2 - (n + 1)) _ _ (by omega) (.cons (.refl _) (.cons (.refl _) (.cons (.refl _) (.cons (Vle.inc n rfl (by omega)) (.nil _))))) (by simp [hc]) ⟨n + 1, rfl, h, rfl, rfl⟩)
  · have h : n = 2 := by have := of_decide_eq_false h; omega
    subst h
    (conv => arg 2; whnf)
    refine wp_leaf (loop_exit ?_)
    (conv => arg 2; whnf); refine wp_load (cs := hdL (cntF D 2)) ((DRes d t D).length + 1) (by simp) rfl ?_
    (conv => arg 2; whnf); refine wp_need (lates1 o 0 e 0 rfl rfl rfl heo.symm) ?_
    (conv => arg 2; whnf); refine wp_load (cs := hdL (cntF D 2)) ((DRes d t D).length + 1) (by simp) rfl ?_
    (conv => arg 2; whnf); refine wp_storeE (cs := z3) (DRes d t D).length 0 (hdL (cntF D 2)) (by simp) rfl (VleL.refl _) (Nat.le_of_ble_eq_true rfl) rfl (R' := DRes d t D ++ [.obj e (hdL (cntF D 2)), .obj o (hdL (cntF D 2))]) (by simp [splice, z3, hdL]) ?_
    (conv => arg 2; whnf); refine w_retCT (cs := hdL (cntF D 2)) (sh := some 3) (DRes d t D).length e 0 (.agg (hdL (cntF D 2))) (bV (decide (0 < (cntF D 2).1))) rfl rfl rfl (by simp) rfl (Vle.eq (cBool ?_)) (List.sublist_append_left _ _) ⟨rfl, rfl⟩
    show decide (((cntF D 2).1 : Int) > 0) = _
    rw [decide_eq_decide]; omega
end Go.Sv
