/- Rows cut in pieces, saving, loading. -/
import Derived.Test.YtgkfpgkpdkmjbaaDisk4
namespace Go.Sv
open Go Go.Proofs

theorem wp_yldV {P : Program} {R : List Res} {Q : Exit → Fr → List Res → Prop} {l : Nat} {args args' : List V} {k : V → Tree} {K : Bool → List Res → Prop} (ha : VleL args args') (h : YCall P l args' R K) (hk : ∀ b R', K b R' → (k (.c (.bool b))).wp P R' Q) : (Tree.yld l args k).wp P R Q := ⟨args', ha, h.mono hk⟩

def chV (s : List UInt8) : V := .fn (.func 65) [] [.pt none (.sl none (s.map byteV) .no) 0, .pt none (i64V 64) 0]
set_option maxRecDepth 100000 in
theorem chunk_call (s : List UInt8) : PCall Try.prog 51 [.sl none (s.map byteV) .no, i64V 64] (chV s) := by
  refine scall_of (live := []) (ords := []) Try.func51 rfl (by kernel_rfl) (by kernel_rfl) (Nat.le_of_ble_eq_true rfl) ?_
  (conv => arg 2; whnf); refine wp_ite (fun h => by first | cases h | (simp at h; done)) (fun _ => ?_)
  (conv => arg 2; whnf); refine w_retp rfl (Vle.eq ?_)
  rfl

theorem chunk_at {s : List UInt8} {k : Nat} (h : 64 * k < s.length) : (chunk s)[k]? = some ((s.drop (64 * k)).take 64) := by
  rw [chunk, List.getElem?_map, List.getElem?_range (by omega)]; rfl

set_option maxRecDepth 100000 in
theorem chunk_iter (s : List UInt8) (hs : s.length < 2 ^ 60) : Iter Try.prog 65 [] [.pt none (.sl none (s.map byteV) .no) 0, .pt none (i64V 64) 0] ((chunk s).map fun c => [.sl none (c.map byteV) .no]) := by
  refine ⟨⟨_, _, Try.func65, rfl, by kernel_rfl⟩, fun l I E R0 h0 hy => ?_⟩
  refine scall_of (live := []) (ords := []) Try.func65 rfl (by kernel_rfl) (by kernel_rfl) (Nat.le_of_ble_eq_true rfl) ?_
  (conv => arg 2; whnf); refine wp_loop (fun m fr R => ∃ n, m = (chunk s).length - n ∧ n ≤ (chunk s).length ∧ I n R ∧
      fr = frL [(0, .fn (.yield l) [] []), (1, .pt none (.sl none (s.map byteV) .no) 0), (2, .pt none (i64V 64) 0), (4, i64V ((64 * n : Nat) : Int))])
    (chunk s).length _ _ (.cons (.refl _) (.cons (.refl _) (.cons (.refl _) (.cons (.refl _) (.nil _))))) (List.Sublist.refl _) ⟨0, rfl, Nat.zero_le _, h0, rfl⟩ ?_
  rintro m fr R ⟨n, rfl, hn, hI, rfl⟩
  (conv => arg 2; whnf); refine wp_ite (fun h => ?_) (fun h => ?_)
  · have h : 64 * n < s.length := by have := of_decide_eq_true h; simp only [List.length_map] at this; omega
    (conv => arg 2; whnf); refine wp_need ⟨by omega, by simp; omega⟩ ?_
    have hc := chunk_at h
    have hn1 : n + 1 ≤ (chunk s).length := by rw [chunk_length]; omega
    have ew : IntKind.i64.wrap (((64 * n : Nat) : Int) + min 64 (((s.map byteV).drop ((64 * n : Nat) : Int).toNat).length : Int)) = ((min (64 * n + 64) s.length : Nat) : Int) := by
      rw [List.length_drop, List.length_map, w_i64, Int.toNat_natCast]; omega
    (conv => arg 2; whnf); refine wp_need (by rw [ew, List.length_map]; omega) ?_
    (conv => arg 2; whnf); refine wp_yldV (args' := [.sl none (((s.drop (64 * n)).take 64).map byteV) .no]) (.cons (Vle.eq ?_) .nil) (hy n _ _ (by rw [List.getElem?_map, hc]; rfl) hI) ?_
    · show V.sl none (((s.map byteV).take (IntKind.i64.wrap (((64 * n : Nat) : Int) + min 64 (((s.map byteV).drop ((64 * n : Nat) : Int).toNat).length : Int))).toNat).drop ((64 * n : Nat) : Int).toNat) .no = _
      rw [ew, Int.toNat_natCast, Int.toNat_natCast, ← List.map_take, ← List.map_drop, List.drop_take]
      congr 2
      rcases Nat.le_total (64 * n + 64) s.length with h1 | h1
      · rw [Nat.min_eq_left h1]; congr 1; omega
      · rw [Nat.min_eq_right h1, List.take_of_length_le (by simp), List.take_of_length_le (by simp; omega)]
    rintro b R' (⟨rfl, hI2⟩ | ⟨rfl, hE⟩)
    · (conv => arg 2; whnf); refine wp_ite (fun h => by first | cases h | (simp at h; done)) (fun _ => ?_)
      (conv => arg 2; whnf)
      refine wp_leaf (loop_next ((chunk s).length - (n + 1)) _ _ (by omega) (.cons (.refl _) (.cons (.refl _) (.cons (.refl _) (.cons (Vle.i64 (IntKind.i64.wrap (((64 * n : Nat) : Int) + 64)) rfl (by rw [w_i64]; omega)) (.nil _))))) (List.Sublist.refl _) ⟨n + 1, rfl, hn1, hI2, rfl⟩)
    · (conv => arg 2; whnf); refine wp_ite (fun _ => ?_) (fun h => by first | cases h | (simp at h; done))
      (conv => arg 2; whnf)
      refine wp_leaf (loop_ret ?_)
      (conv => arg 2; whnf); refine w_ret0 rfl (List.Sublist.refl _) (.inr hE)
  · have h : n = (chunk s).length := by
      have := of_decide_eq_false h
      simp only [List.length_map] at this
      rw [chunk_length] at hn ⊢; omega
    subst h
    (conv => arg 2; whnf)
    refine wp_leaf (loop_exit ?_)
    (conv => arg 2; whnf); refine w_norm0 rfl (List.Sublist.refl _) (.inl ?_)
    rw [List.length_map]
    exact hI

theorem roundEnd_ret {B : List Res → Prop} {E : Exit → List Res → Prop} {fr : Fr} {R : List Res} (h : E .ret R) : roundEnd B E .ret fr R := h
theorem roundEnd_norm {B : List Res → Prop} {E : Exit → List Res → Prop} {fr : Fr} {R : List Res} (h : B R) : roundEnd B E .normal fr R := h
theorem wp_ite_join {P : Program} {R : List Res} {Q : Exit → Fr → List Res → Prop} {b : Bool} {t f : Tree} {T : Prop} (h1 : T → b = true → t.wp P R Q) (h2 : T → b = false → f.wp P R Q) (rest : T) : (Tree.ite b t f).wp P R Q := ⟨h1 rest, h2 rest⟩

theorem bytesStr (c : List UInt8) : V.c (.string ⟨((c.map byteV).map byteOf).toArray⟩) = str c := by
  have : (c.map byteV).map byteOf = c := by
    induction c with
    | nil => rfl
    | cons b c ih =>
      simp only [List.map_cons, ih]
      congr 1
      simp [byteOf, byteV]
  rw [this]; rfl
theorem dWrite_size {D D' : Dk} {i : Int} {s : List UInt8} (h : dWrite D i s = .ok D') : D'.loose.length = D.loose.length + 1 ∧ D'.left ≤ D.left := by
  unfold dWrite at h
  (repeat' split at h) <;> cases h
  exact ⟨by simp [dWritten], by simp [dWritten]⟩
theorem dSync_size {D D' : Dk} (h : dSync D = .ok D') : D'.loose = [] ∧ D'.left ≤ D.left := by
  unfold dSync at h
  split at h <;> cases h
  exact ⟨rfl, Nat.le_refl _⟩

set_option maxRecDepth 100000 in
theorem save_call (d : Nat) (t : Option Nat) (D : Dk) (s : List UInt8) (ht : t = none → D.loose = []) (hl : D.loose.length < 2 ^ 30) (hlf : D.left < 2 ^ 62) (hD : DOk D) (hs : s.length < 2 ^ 60) :
    SCall Try.prog 31 [.loc d 0, str s] (DRes d t D) fun v R' => v = .c (errV (dSave D s).1) ∧ ∃ t', R' = DRes d t' (dSave D s).2 ∧ (t' = none → (dSave D s).2.loose = []) := by
  have hcl := cntF_le D 2
  refine scall_of (live := [60, 63, 65]) (ords := [(7, [])]) Try.func31 rfl (by kernel_rfl) (by kernel_rfl) (Nat.le_of_ble_eq_true rfl) ?_
  (conv => arg 2; whnf); refine wp_allocE [.c .nilIface] rfl fun e => ?_
  (conv => arg 2; whnf); refine wp_ite (fun h => ?_) (fun h => ?_)
  · have h := of_decide_eq_true h
    simp only [S_size] at h
    (conv => arg 2; whnf); refine wp_storeE (cs := [.c .nilIface]) (DRes d t D).length 0 [.c (errV (some 12))] (by simp) rfl (VleL.refl _) (Nat.le_refl _) rfl (R' := DRes d t D ++ [.obj e [.c (errV (some 12))]]) (by simp [splice]) ?_
    have e1 : dSave D s = (some 12, D) := by rw [dSave, if_pos (by omega)]
    rw [e1]
    (conv => arg 2; whnf); refine w_retC (cs := [.c (errV (some 12))]) (sh := none) (DRes d t D).length e 0 (.c (errV (some 12))) rfl rfl rfl (by simp) rfl (List.sublist_append_left _ _) ⟨rfl, t, rfl, ht⟩
  have h := of_decide_eq_false h
  simp only [S_size] at h
  have hs2 : s.length ≤ 12672 := by omega
  (conv => arg 2; whnf); refine wp_callF [] (DRes d t D) [.obj e [.c .nilIface]] (by simp) (counts_call d t D ht (by omega) hD) ?_
  rintro v R' ⟨rfl, rfl⟩
  have hsv : dSave D s = dSave1 (cntF D 2) s.length (dWrites D (2 + slotOf (cntF D 2) * 198) (chunk s)) := by rw [dSave, if_neg (by omega)]
  generalize cntF D 2 = c at hcl hsv
  obtain ⟨T, sl, ln⟩ := c
  simp only at hcl
  (conv => arg 2; whnf); refine wp_allocE z3 rfl fun hd => ?_
  (conv => arg 2; whnf); refine wp_storeE (cs := z3) ((DRes d t D).length + 1) 0 (hdL (T, sl, ln)) (by simp) rfl (VleL.refl _) (Nat.le_of_ble_eq_true rfl) rfl (R' := DRes d t D ++ [.obj e [.c .nilIface], .obj hd (hdL (T, sl, ln))]) (by simp [splice, z3, hdL]) ?_
  (conv => arg 2; whnf); refine wp_load (cs := hdL (T, sl, ln)) ((DRes d t D).length + 1) (by simp) rfl ?_
  have w1 : IntKind.u64.wrap ((T : Int) + 1) = ((T + 1 : Nat) : Int) := by rw [w_u64]; omega
  have w2 : IntKind.u64.wrap ((S s).size : Int) = (s.length : Nat) := by rw [S_size, w_u64]; omega
  (conv => arg 2; whnf); refine wp_allocE z3 rfl fun nn => ?_
  (conv => arg 2; whnf); refine wp_storeE (cs := z3) ((DRes d t D).length + 2) 0 [u64V (T + 1), u64V 0, u64V s.length] (by simp) rfl (.cons (Vle.eq (congrArg (fun z => V.c (.int .u64 z)) w1)) (.cons (.refl _) (.cons (Vle.eq (congrArg (fun z => V.c (.int .u64 z)) w2)) .nil))) (Nat.le_of_ble_eq_true rfl) rfl (R' := DRes d t D ++ [.obj e [.c .nilIface], .obj hd (hdL (T, sl, ln)), .obj nn [u64V (T + 1), u64V 0, u64V s.length]]) (by simp [splice, z3]) ?_
  have w3a : 0 < T → IntKind.u64.wrap (1 - (sl : Int)) = ((slotOf (T, sl, ln) : Nat) : Int) := by intro h1; rw [slotOf, if_pos h1, w_u64]; simp only; omega
  have w3b : ¬ 0 < T → slotOf (T, sl, ln) = 0 := by intro h1; rw [slotOf, if_neg h1]
  (conv => arg 2; whnf); apply wp_ite_join
  case h1 =>
    intro rest h1
    replace h1 : 0 < T := of_decide_eq_true h1
    (conv => arg 2; whnf); refine wp_load (cs := hdL (T, sl, ln)) ((DRes d t D).length + 1) (by simp) rfl ?_
    have w3 := w3a h1
    (conv => arg 2; whnf); refine wp_storeE (cs := [u64V (T + 1), u64V 0, u64V s.length]) ((DRes d t D).length + 2) 1 [u64V (slotOf (T, sl, ln))] (by simp) rfl (.cons (Vle.eq (congrArg (fun z => V.c (.int .u64 z)) w3)) .nil) (Nat.le_of_ble_eq_true rfl) rfl (R' := DRes d t D ++ [.obj e [.c .nilIface], .obj hd (hdL (T, sl, ln)), .obj nn [u64V (T + 1), u64V (slotOf (T, sl, ln)), u64V s.length]]) (by simp [splice]) ?_
    (conv => arg 2; whnf); exact wp_cutR (frL [(0, .loc d 0), (1, str s), (2, .pt none (.loc d 0) 0), (4, .loc e 0), (7, .loc nn 0)]) (DRes d t D ++ [.obj e [.c .nilIface], .obj nn [u64V (T + 1), u64V (slotOf (T, sl, ln)), u64V s.length]])
      (.cons (.refl _) (.cons (.refl _) (.cons (.refl _) (.cons (.refl _) (.cons (.refl _) (.nil _)))))) (by simp) rest
  case h2 =>
    intro rest h1
    replace h1 : ¬ 0 < T := of_decide_eq_false h1
    have w3 := w3b h1
    (conv => arg 2; whnf); exact wp_cutR (frL [(0, .loc d 0), (1, str s), (2, .pt none (.loc d 0) 0), (4, .loc e 0), (7, .loc nn 0)]) (DRes d t D ++ [.obj e [.c .nilIface], .obj nn [u64V (T + 1), u64V (slotOf (T, sl, ln)), u64V s.length]])
      (.cons (.refl _) (.cons (.refl _) (.cons (.refl _) (.cons (.refl _) (.cons (.refl _) (.nil _)))))) (by rw [w3]; simp) rest
  case rest =>
    have hq : slotOf (T, sl, ln) ≤ 1 := by unfold slotOf; split
                                           · show 1 - sl ≤ 1; omega
                                           · omega
    clear w3a w3b
    have hs3 : ∀ n D', dSave3 (T, sl, ln) n D' = match dWrite D' (((T + 1) % 2 : Nat) : Int) (hdB (T + 1) (slotOf (T, sl, ln)) n) with | .error e => (some e, D') | .ok D' => dSave4 D' := fun _ _ => rfl
    generalize slotOf (T, sl, ln) = q at hq hsv hs3 ⊢
    (conv => arg 2; whnf); refine wp_load (cs := [u64V (T + 1), u64V q, u64V s.length]) ((DRes d t D).length + 1) (by simp) rfl ?_
    have w4 : IntKind.i64.wrap (2 + IntKind.i64.wrap (IntKind.i64.wrap (q : Int) * 198)) = ((2 + q * 198 : Nat) : Int) := by
      have : q = 0 ∨ q = 1 := by omega
      rcases this with rfl | rfl <;> rfl
    obtain ⟨base, hb⟩ : ∃ base, base = 2 + q * 198 := ⟨_, rfl⟩
    rw [← hb] at w4 hsv
    have hb2 : base ≤ 200 := by omega
    (conv => arg 2; whnf); refine wp_allocE [i64V 0] rfl fun ii => ?_
    (conv => arg 2; whnf); refine wp_storeE (cs := [i64V 0]) ((DRes d t D).length + 2) 0 [i64V (base : Int)] (by simp) rfl (.cons (Vle.eq (cI64 w4)) .nil) (Nat.le_refl _) rfl (R' := DRes d t D ++ [.obj e [.c .nilIface], .obj nn [u64V (T + 1), u64V q, u64V s.length], .obj ii [i64V (base : Int)]]) (by simp [splice]) ?_
    (conv => arg 2; whnf); refine wp_pcallV (.cons (Vle.eq (show V.sl none ((S s).data.toList.map fun b => V.c (.int .u8 b.toNat)) .no = V.sl none (s.map byteV) .no from rfl)) (.cons (.refl _) .nil)) (chunk_call s) ?_
    have hcl2 := chunk_length s
    (conv => arg 2; whnf); refine wp_range (chunk_iter s hs) (fun i R1 => ∃ t' D', dWrites D base ((chunk s).take i) = (none, D') ∧ R1 = DRes d t' D' ++ [.obj e [.c .nilIface], .obj nn [u64V (T + 1), u64V q, u64V s.length], .obj ii [i64V ((base + i : Nat) : Int)]] ∧ (t' = none → D'.loose = []) ∧ DOk D' ∧ D'.loose.length ≤ D.loose.length + i ∧ D'.left ≤ D.left)
      ⟨t, D, rfl, rfl, ht, hD, Nat.le_refl _, Nat.le_refl _⟩ ?_ ?_ ?_
    · intro i args hi
      rw [List.getElem?_map, Option.map_eq_some_iff] at hi
      obtain ⟨w, _, rfl⟩ := hi
      rfl
    · rintro i args R1 hi ⟨t', D', hw, rfl, ht', hD', hl', hlf'⟩
      rw [List.getElem?_map, Option.map_eq_some_iff] at hi
      obtain ⟨c, hi, rfl⟩ := hi
      have hi2 : i < (chunk s).length := (List.getElem?_eq_some_iff.1 hi).1
      have hcm := chunk_mem (List.mem_of_getElem? hi)
      (conv => arg 2; whnf); refine wp_load (cs := [i64V ((base + i : Nat) : Int)]) ((DRes d t' D').length + 2) (by simp) rfl ?_
      (conv => arg 2; whnf); refine wp_need (by intro v hv; obtain ⟨b, _, rfl⟩ := List.mem_map.1 hv; exact ⟨b, rfl⟩) ?_
      (conv => arg 2; whnf); refine wp_callV [] (DRes d t' D') [.obj e [.c .nilIface], .obj nn [u64V (T + 1), u64V q, u64V s.length], .obj ii [i64V ((base + i : Nat) : Int)]] (by simp) (.cons (.refl _) (.cons (.refl _) (.cons (Vle.eq (bytesStr c)) .nil))) (dwrite_call d t' D' ((base + i : Nat) : Int) c ht' (by omega) (by omega) (by omega)) ?_
      have hrest : dWrites D base (chunk s) = dWrites D' (base + i) (c :: (chunk s).drop (i + 1)) := by
        have e1 : chunk s = (chunk s).take i ++ (c :: (chunk s).drop (i + 1)) := by
          have e2 : c :: (chunk s).drop (i + 1) = (chunk s).drop i := by
            rw [List.drop_eq_getElem_cons hi2]
            rw [List.getElem?_eq_getElem hi2] at hi
            rw [Option.some.inj hi]
          rw [e2, List.take_append_drop]
        conv => lhs; rw [e1]
        rw [dWrites_append _ _ hw, List.length_take, Nat.min_eq_left (by omega)]
      cases hdw : dWrite D' ((base + i : Nat) : Int) c with
      | error k =>
        rintro v R1 ⟨rfl, rfl⟩
        (conv => arg 2; whnf); refine wp_ite (fun _ => ?_) (fun h => by first | cases h | (simp at h; done))
        (conv => arg 2; whnf); refine wp_storeE (cs := [.c .nilIface]) (DRes d t' D').length 0 [.c (errV (some k))] (by simp) rfl (VleL.refl _) (Nat.le_refl _) rfl (R' := DRes d t' D' ++ [.obj e [.c (errV (some k))], .obj nn [u64V (T + 1), u64V q, u64V s.length], .obj ii [i64V ((base + i : Nat) : Int)]]) (by simp [splice]) ?_
        (conv => arg 2; whnf)
        refine wp_leaf (roundEnd_ret (show Tree.wp _ _ _ _ from ?_))
        have hfin : dSave D s = (some k, D') := by rw [hsv, hrest, dWrites, hdw]; rfl
        (conv => arg 2; whnf); refine w_retC (cs := [.c (errV (some k))]) (sh := none) (DRes d t' D').length e 0 (.c (errV (some k))) rfl rfl rfl (by simp) rfl (List.sublist_append_left _ _) ⟨by rw [hfin], t', by rw [hfin], by rw [hfin]; exact ht'⟩
      | ok D2 =>
        rintro v R1 ⟨rfl, t2, rfl⟩
        obtain ⟨hz1, hz2⟩ := dWrite_size hdw
        (conv => arg 2; whnf); refine wp_ite (fun h => by first | cases h | (simp at h; done)) (fun _ => ?_)
        (conv => arg 2; whnf); refine wp_load (cs := [i64V ((base + i : Nat) : Int)]) ((DRes d (some t2) D2).length + 2) (by simp) rfl ?_
        (conv => arg 2; whnf); refine wp_storeE (cs := [i64V ((base + i : Nat) : Int)]) ((DRes d (some t2) D2).length + 2) 0 [i64V ((base + (i + 1) : Nat) : Int)] (by simp) rfl (.cons (Vle.i64 (IntKind.i64.wrap (((base + i : Nat) : Int) + 1)) rfl (by rw [w_i64]; omega)) .nil) (Nat.le_refl _) rfl (R' := DRes d (some t2) D2 ++ [.obj e [.c .nilIface], .obj nn [u64V (T + 1), u64V q, u64V s.length], .obj ii [i64V ((base + (i + 1) : Nat) : Int)]]) (by simp [splice]) ?_
        (conv => arg 2; whnf)
        refine wp_leaf (roundEnd_norm ⟨some t2, D2, ?_, rfl, (fun h => by cases h), dWrite_ok hD' hdw, by omega, by omega⟩)
        rw [List.take_add_one, hi, dWrites_append _ _ hw, List.length_take, Nat.min_eq_left (by omega)]
        show dWrites D' (base + i) [c] = _
        rw [dWrites, hdw]; rfl
    · rintro R1 ⟨t', D', hw, rfl, ht', hD', hl', hlf'⟩
      rw [List.length_map] at hl'
      have hw2 : dWrites D base (chunk s) = (none, D') := by rw [List.length_map, List.take_length] at hw; exact hw
      (conv => arg 2; whnf); refine wp_callF [] (DRes d t' D') [.obj e [.c .nilIface], .obj nn [u64V (T + 1), u64V q, u64V s.length], .obj ii [i64V ((base + ((chunk s).map fun c => [V.sl none (c.map byteV) .no]).length : Nat) : Int)]] (by simp) (dsync_call d t' D' ht' (by omega) hD') ?_
      cases hsy : dSync D' with
      | error k =>
        rintro v R1 ⟨rfl, rfl⟩
        (conv => arg 2; whnf); refine wp_ite (fun _ => ?_) (fun h => by first | cases h | (simp at h; done))
        (conv => arg 2; whnf); refine wp_storeE (cs := [.c .nilIface]) (DRes d t' D').length 0 [.c (errV (some k))] (by simp) rfl (VleL.refl _) (Nat.le_refl _) rfl (R' := DRes d t' D' ++ [.obj e [.c (errV (some k))], .obj nn [u64V (T + 1), u64V q, u64V s.length], .obj ii [i64V ((base + ((chunk s).map fun c => [V.sl none (c.map byteV) .no]).length : Nat) : Int)]]) (by simp [splice]) ?_
        have hfin : dSave D s = (some k, D') := by rw [hsv, hw2, dSave1, dSave2, hsy]
        (conv => arg 2; whnf); refine w_retC (cs := [.c (errV (some k))]) (sh := none) (DRes d t' D').length e 0 (.c (errV (some k))) rfl rfl rfl (by simp) rfl (List.sublist_append_left _ _) ⟨by rw [hfin], t', by rw [hfin], by rw [hfin]; exact ht'⟩
      | ok D2 =>
        rintro v R1 ⟨rfl, rfl⟩
        obtain ⟨hz1, hz2⟩ := dSync_size hsy
        have hD2 := dSync_ok hD' hsy
        have hbl := hdB_length (T + 1) q s.length
        have w5 : IntKind.i64.wrap (((T + 1 : Nat) : Int).tmod 2) = (((T + 1) % 2 : Nat) : Int) := by rw [Int.tmod_eq_emod_of_nonneg (by omega), w_i64]; omega
        (conv => arg 2; whnf); refine wp_ite (fun h => by first | cases h | (simp at h; done)) (fun _ => ?_)
        (conv => arg 2; whnf); refine wp_load (cs := [u64V (T + 1), u64V q, u64V s.length]) ((DRes d none D2).length + 1) (by simp) rfl ?_
        (conv => arg 2; whnf); refine wp_load (cs := [u64V (T + 1), u64V q, u64V s.length]) ((DRes d none D2).length + 1) (by simp) rfl ?_
        (conv => arg 2; whnf); refine wp_pcV (VleL.refl _) (hbytes_call (T + 1) q s.length (by omega) (by omega) (by omega)) ?_
        (conv => arg 2; whnf); refine wp_callV [] (DRes d none D2) [.obj e [.c .nilIface], .obj nn [u64V (T + 1), u64V q, u64V s.length], .obj ii [i64V ((base + ((chunk s).map fun c => [V.sl none (c.map byteV) .no]).length : Nat) : Int)]] (by simp) (.cons (.refl _) (.cons (Vle.eq (cI64 w5)) (.cons (.refl _) .nil))) (dwrite_call d none D2 (((T + 1) % 2 : Nat) : Int) (hdB (T + 1) q s.length) (fun _ => hz1) (by rw [hz1]; exact Nat.lt_of_sub_eq_succ rfl) (by omega) (by omega)) ?_
        cases hwr : dWrite D2 (((T + 1) % 2 : Nat) : Int) (hdB (T + 1) q s.length) with
        | error k =>
          rintro v R1 ⟨rfl, rfl⟩
          (conv => arg 2; whnf); refine wp_ite (fun _ => ?_) (fun h => by first | cases h | (simp at h; done))
          (conv => arg 2; whnf); refine wp_storeE (cs := [.c .nilIface]) (DRes d none D2).length 0 [.c (errV (some k))] (by simp) rfl (VleL.refl _) (Nat.le_refl _) rfl (R' := DRes d none D2 ++ [.obj e [.c (errV (some k))], .obj nn [u64V (T + 1), u64V q, u64V s.length], .obj ii [i64V ((base + ((chunk s).map fun c => [V.sl none (c.map byteV) .no]).length : Nat) : Int)]]) (by simp [splice]) ?_
          have hfin : dSave D s = (some k, D2) := by rw [hsv, hw2, dSave1, dSave2, hsy]; simp only; rw [hs3, hwr]
          (conv => arg 2; whnf); refine w_retC (cs := [.c (errV (some k))]) (sh := none) (DRes d none D2).length e 0 (.c (errV (some k))) rfl rfl rfl (by simp) rfl (List.sublist_append_left _ _) ⟨by rw [hfin], none, by rw [hfin], by rw [hfin]; exact fun _ => hz1⟩
        | ok D3 =>
          rintro v R1 ⟨rfl, t3, rfl⟩
          obtain ⟨hz3, hz4⟩ := dWrite_size hwr
          have hD3 := dWrite_ok hD2 hwr
          (conv => arg 2; whnf); refine wp_ite (fun h => by first | cases h | (simp at h; done)) (fun _ => ?_)
          (conv => arg 2; whnf); refine wp_callF [] (DRes d (some t3) D3) [.obj e [.c .nilIface], .obj nn [u64V (T + 1), u64V q, u64V s.length], .obj ii [i64V ((base + ((chunk s).map fun c => [V.sl none (c.map byteV) .no]).length : Nat) : Int)]] (by simp) (dsync_call d (some t3) D3 (fun h => by cases h) (by rw [hz3, hz1]; exact Nat.lt_of_sub_eq_succ rfl) hD3) ?_
          cases hsz : dSync D3 with
          | error k =>
            rintro v R1 ⟨rfl, rfl⟩
            (conv => arg 2; whnf); refine wp_storeE (cs := [.c .nilIface]) (DRes d (some t3) D3).length 0 [.c (errV (some k))] (by simp) rfl (VleL.refl _) (Nat.le_refl _) rfl (R' := DRes d (some t3) D3 ++ [.obj e [.c (errV (some k))], .obj nn [u64V (T + 1), u64V q, u64V s.length], .obj ii [i64V ((base + ((chunk s).map fun c => [V.sl none (c.map byteV) .no]).length : Nat) : Int)]]) (by simp [splice]) ?_
            have hfin : dSave D s = (some k, D3) := by rw [hsv, hw2, dSave1, dSave2, hsy]; simp only; rw [hs3, hwr]; simp only; rw [dSave4, hsz]
            (conv => arg 2; whnf); refine w_retC (cs := [.c (errV (some k))]) (sh := none) (DRes d (some t3) D3).length e 0 (.c (errV (some k))) rfl rfl rfl (by simp) rfl (List.sublist_append_left _ _) ⟨by rw [hfin], some t3, by rw [hfin], by rw [hfin]; exact (fun h => by cases h)⟩
          | ok D4 =>
            rintro v R1 ⟨rfl, rfl⟩
            (conv => arg 2; whnf); refine wp_storeE (cs := [.c .nilIface]) (DRes d none D4).length 0 [.c .nilIface] (by simp) rfl (VleL.refl _) (Nat.le_refl _) rfl (R' := DRes d none D4 ++ [.obj e [.c .nilIface], .obj nn [u64V (T + 1), u64V q, u64V s.length], .obj ii [i64V ((base + ((chunk s).map fun c => [V.sl none (c.map byteV) .no]).length : Nat) : Int)]]) (by simp [splice]) ?_
            have hfin : dSave D s = (none, D4) := by rw [hsv, hw2, dSave1, dSave2, hsy]; simp only; rw [hs3, hwr]; simp only; rw [dSave4, hsz]
            (conv => arg 2; whnf); refine w_retC (cs := [.c (.nilIface)]) (sh := none) (DRes d none D4).length e 0 (.c (.nilIface)) rfl rfl rfl (by simp) rfl (List.sublist_append_left _ _) ⟨by rw [hfin]; rfl, none, by rw [hfin], by rw [hfin]; exact fun _ => (dSync_size hsz).1⟩

def loadPost (d : Nat) (t : Option Nat) (D : Dk) (r : Except Nat (List UInt8)) (v : V) (R' : List Res) : Prop :=
  R' = DRes d t D ∧ match r with
  | .error c => v = .tup [str [], .c (errV (some c))]
  | .ok l => v = .tup [str l, .c .nilIface]

set_option maxRecDepth 100000 in
theorem load_call (d : Nat) (t : Option Nat) (D : Dk) (ht : t = none → D.loose = []) (hl : D.loose.length < 2 ^ 40) (hD : DOk D) :
    SCall Try.prog 34 [.loc d 0] (DRes d t D) (loadPost d t D (dLoad D)) := by
  have hcl := cntF_le D 2
  refine scall_of (live := []) (ords := []) Try.func34 rfl (by kernel_rfl) (by kernel_rfl) (Nat.le_of_ble_eq_true rfl) ?_
  (conv => arg 2; whnf); refine wp_callF [] (DRes d t D) [] (by simp) (counts_call d t D ht hl hD) ?_
  rintro v R' ⟨rfl, rfl⟩
  have hsv : dLoad D = if 0 < (cntF D 2).1 then .ok ((rdK D (2 + (cntF D 2).2.1 * 198) (((cntF D 2).2.2 + 63) / 64)).take (cntF D 2).2.2) else .error 20 := rfl
  generalize cntF D 2 = c at hcl hsv ⊢
  obtain ⟨T, sl, ln⟩ := c
  simp only at hcl hsv
  (conv => arg 2; whnf); refine wp_allocE z3 rfl fun hd => ?_
  (conv => arg 2; whnf); refine wp_storeE (cs := z3) (DRes d t D).length 0 (hdL (T, sl, ln)) (by simp) rfl (VleL.refl _) (Nat.le_of_ble_eq_true rfl) rfl (R' := DRes d t D ++ [.obj hd (hdL (T, sl, ln))]) (by simp [splice, z3, hdL]) ?_
  (conv => arg 2; whnf); refine wp_ite (fun h1 => ?_) (fun h1 => ?_)
  · have h1 : ¬ 0 < T := by simpa using h1
    rw [if_neg h1] at hsv
    (conv => arg 2; whnf); refine w_ret2 rfl (.refl _) (.refl _) (List.sublist_append_left _ _) ?_
    rw [hsv]; exact ⟨rfl, rfl⟩
  have h1 : 0 < T := by simpa using h1
  rw [if_pos h1] at hsv
  (conv => arg 2; whnf); refine wp_load (cs := hdL (T, sl, ln)) (DRes d t D).length (by simp) rfl ?_
  have w4 : IntKind.i64.wrap (2 + IntKind.i64.wrap (IntKind.i64.wrap (sl : Int) * 198)) = ((2 + sl * 198 : Nat) : Int) := by
    have : sl = 0 ∨ sl = 1 := by omega
    rcases this with rfl | rfl <;> rfl
  obtain ⟨base, hb⟩ : ∃ base, base = 2 + sl * 198 := ⟨_, rfl⟩
  rw [← hb] at w4 hsv
  have hb2 : base ≤ 200 := by omega
  (conv => arg 2; whnf); refine wp_loop (fun m fr R => ∃ n, m = (ln + 63) / 64 - n ∧ n ≤ (ln + 63) / 64 ∧ R = DRes d t D ++ [.obj hd (hdL (T, sl, ln))] ∧ fr = frL [(0, .loc d 0), (4, .loc hd 0), (6, str (rdK D base n)), (7, i64V ((base + n : Nat) : Int))])
    ((ln + 63) / 64) _ _ (.cons (.refl _) (.cons (.refl _) (.cons (.refl _) (.cons (Vle.i64 (IntKind.i64.wrap (2 + IntKind.i64.wrap (IntKind.i64.wrap (sl : Int) * 198))) rfl w4) (.nil _))))) (List.Sublist.refl _) ⟨0, rfl, Nat.zero_le _, rfl, rfl⟩ ?_
  rintro m fr R ⟨n, rfl, hn, rfl, rfl⟩
  have hln := rdK_length hD (i := base) n (by omega)
  have w5 : IntKind.u64.wrap ((S (rdK D base n)).size : Int) = ((64 * n : Nat) : Int) := by rw [S_size, hln, w_u64]; omega
  (conv => arg 2; whnf); refine wp_load (cs := hdL (T, sl, ln)) (DRes d t D).length (by simp) rfl ?_
  (conv => arg 2; whnf); refine wp_ite (fun h => ?_) (fun h => ?_)
  · have h : 64 * n < ln := by have := of_decide_eq_true h; rw [w5] at this; simp only at this; omega
    (conv => arg 2; whnf); refine wp_callF [] (DRes d t D) [.obj hd (hdL (T, sl, ln))] (by simp) (dread_call d t D ((base + n : Nat) : Int) ht hl hD) ?_
    rintro v R' ⟨rfl, rfl⟩
    have hrl := dRead_length (i := ((base + n : Nat) : Int)) hD (by omega) (by omega)
    (conv => arg 2; whnf); refine wp_need (by simp only [S_size]; omega) ?_
    (conv => arg 2; whnf)
    refine wp_leaf (loop_next ((ln + 63) / 64 - (n + 1)) _ _ (by omega) (.cons (.refl _) (.cons (.refl _) (.cons (Vle.eq ?_) (.cons (Vle.inc (base + n) rfl (by omega)) (.nil _))))) (List.Sublist.refl _) ⟨n + 1, rfl, by omega, rfl, rfl⟩)
    show V.c (.string (S (rdK D base n) ++ S (dRead D ((base + n : Nat) : Int)))) = str (rdK D base (n + 1))
    rw [S_append]; rfl
  · have h : n = (ln + 63) / 64 := by have := of_decide_eq_false h; rw [w5] at this; simp only at this; omega
    (conv => arg 2; whnf)
    refine wp_leaf (loop_exit ?_)
    (conv => arg 2; whnf); refine wp_load (cs := hdL (T, sl, ln)) (DRes d t D).length (by simp) rfl ?_
    (conv => arg 2; whnf); refine wp_need (by simp only [S_size]; omega) ?_
    (conv => arg 2; whnf); refine w_ret2 rfl (a := str ((rdK D base n).take ln)) (Vle.eq ?_) (.refl _) (List.sublist_append_left _ _) ?_
    · show V.c (.string ((S (rdK D base n)).extract 0 (ln : Int).toNat)) = _
      rw [S_extract, List.drop_zero]; rfl
    · rw [hsv, ← h]; exact ⟨rfl, rfl⟩
end Go.Sv
