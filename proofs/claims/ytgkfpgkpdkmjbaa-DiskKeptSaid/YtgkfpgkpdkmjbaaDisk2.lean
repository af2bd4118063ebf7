/- Rows laid, writes that are wanted: reading, syncing, crashing. -/
import Derived.Test.YtgkfpgkpdkmjbaaDisk
namespace Go.Sv
open Go Go.Proofs

theorem Vle.inc {v : V} (n : Nat) (h : v = .c (.int .i64 (IntKind.i64.wrap ((n : Int) + 1)))) (hn : n < 2 ^ 62) : Vle v (i64V ((n + 1 : Nat) : Int)) :=
  Vle.eq (h.trans (cI64 (by rw [w_i64]; omega)))
theorem Vle.i64 {v : V} {y : Int} (x : Int) (h : v = .c (.int .i64 x)) (e : x = y) : Vle v (i64V y) := Vle.eq (h.trans (cI64 e))

theorem FrzR.left {b : Nat} {cs : List V} : ∀ (A B : List Res), FrzR b cs (A ++ B) A
  | [], B => FrzR.drops B
  | x :: A, B => .keep x (FrzR.left A B)

set_option maxRecDepth 100000 in
theorem clone_call (xs : List V) (h0 : xs ≠ []) (hok : ∀ y ∈ xs, okE none y) (hn : xs.length * 16 ≤ 140737488355328) : SCall Try.prog 66 [.sl none xs .no] [] fun v R' => ∃ b sp, v = .lsl none b 0 xs.length (xs.length + sp.length) ∧ R' = [.obj b (xs ++ sp)] := by
  refine scall_of (live := [7]) (ords := []) Try.func66 rfl (by kernel_rfl) (by kernel_rfl) (Nat.le_of_ble_eq_true rfl) ?_
  (conv => arg 2; whnf); refine wp_nilcmp (fun e he => ?_)
  have e0 : e = false := by
    cases e with
    | false => rfl
    | true => exact absurd (he rfl) h0
  subst e0
  (conv => arg 2; whnf); refine wp_ite (fun h => by cases h) (fun _ => ?_)
  (conv => arg 2; whnf); refine wp_appN xs (VleL.refl _) hok hn (fun b cap sp hl hc => ?_)
  (conv => arg 2; whnf); refine w_ret1 rfl (.refl _) (List.Sublist.refl _) ⟨b, sp, ?_, rfl⟩
  have : cap = xs.length + sp.length := by simpa [width] using hl.symm
  rw [this]
  rfl

set_option maxRecDepth 100000 in
theorem laid_call (l : List (List UInt8)) (ws : List (Nat × List UInt8)) (A : List Res) (gf : FuncId) (first caps : List V) (h0 : l ≠ []) (hlen : l.length < 2 ^ 40) (hw : ∀ w ∈ ws, w.1 < l.length)
    (h : IterR Try.prog A gf first caps (ws.map fun w => [i64V w.1, str w.2])) : SCall Try.prog 53 [slS l, .fn (.func gf) first caps] A fun v R' => v = slS (laidW l ws) ∧ R' = A := by
  refine scall_of (live := [9, 13]) (ords := []) Try.func53 rfl (by kernel_rfl) (by kernel_rfl) (Nat.le_of_ble_eq_true rfl) ?_
  (conv => arg 2; whnf); refine wp_callF A [] [] (by simp) (clone_call (l.map str) (by simpa using h0) (by intro y hy; obtain ⟨s, _, rfl⟩ := List.mem_map.1 hy; rfl) (by rw [List.length_map]; omega)) ?_
  rintro v R1 ⟨b, sp, rfl, rfl⟩
  (conv => arg 2; whnf); refine wp_allocE [.sl none [] .zero] rfl fun o => ?_
  (conv => arg 2; whnf); refine wp_storeE (cs := [V.sl none [] .zero]) (A.length + 1) 0 [.lsl none b 0 (l.map str).length ((l.map str).length + sp.length)] (by simp) rfl (VleL.refl _) (Nat.le_refl _) rfl (R' := A ++ [.obj b (l.map str ++ sp), .obj o [.lsl none b 0 (l.map str).length ((l.map str).length + sp.length)]]) (by simp [splice]) ?_
  (conv => arg 2; whnf); refine wp_rangeR h rfl (fun i R1 => R1 = [.obj b ((laidW l (ws.take i)).map str ++ sp), .obj o [.lsl none b 0 (l.map str).length ((l.map str).length + sp.length)]]) rfl ?_ ?_ ?_
  · intro i args hi
    rw [List.getElem?_map, Option.map_eq_some_iff] at hi
    obtain ⟨w, _, rfl⟩ := hi
    rfl
  · rintro i args R1 hi rfl
    rw [List.getElem?_map, Option.map_eq_some_iff] at hi
    obtain ⟨w, hi, rfl⟩ := hi
    have hw1 := hw w (List.mem_of_getElem? hi)
    (conv => arg 2; whnf); refine wp_load 1 rfl rfl ?_
    (conv => arg 2; whnf); refine wp_need ⟨by omega, by rw [List.length_map]; omega⟩ ?_
    have e1 : laidW l (ws.take (i + 1)) = (laidW l (ws.take i)).set w.1 w.2 := by
      rw [List.take_add_one, hi, laidW_append]; rfl
    (conv => arg 2; whnf); refine wp_storeE 0 w.1 [str w.2] rfl ?_ (VleL.refl _) (by simp [laidW_length]; omega) rfl (R' := [.obj b ((laidW l (ws.take (i + 1))).map str ++ sp), .obj o [.lsl none b 0 (l.map str).length ((l.map str).length + sp.length)]]) ?_ ?_
    · simp [width]
    · rw [e1, splice_one (by simp [laidW_length]; omega), List.map_set]; rfl
    (conv => arg 2; whnf)
    exact wp_leaf rfl
  · rintro R1 rfl
    (conv => arg 2; whnf); refine wp_load (cs := [.lsl none b 0 (l.map str).length ((l.map str).length + sp.length)]) (A.length + 1) (by simp) rfl ?_
    (conv => arg 2; whnf); refine w_ret1F (b := b) (cs := (laidW l ws).map str ++ sp) A.length rfl (by simp) ?_ ?_ ⟨rfl, rfl⟩
    · show Frz b _ (V.lsl none b 0 (l.map str).length ((l.map str).length + sp.length)) (slS (laidW l ws))
      rw [show (l.map str).length = ((laidW l ws).map str).length by simp [laidW_length]]
      exact Frz.all1
    · rw [List.eraseIdx_append_of_length_le (Nat.le_refl _)]
      exact FrzR.left A _

set_option maxRecDepth 100000 in
theorem writes_call (d : Nat) (gw : FuncId) (cw : List V) : PCall Try.prog 54 [.loc d 0, .fn (.func gw) [] cw] (.fn (.func 67) [] [.pt none (.loc d 0) 0, .pt none (.fn (.func gw) [] cw) 0]) := by
  refine scall_of (live := []) (ords := []) Try.func54 rfl (by kernel_rfl) (by kernel_rfl) (Nat.le_of_ble_eq_true rfl) ?_
  (conv => arg 2; whnf); refine w_retp rfl (Vle.eq ?_)
  rfl

set_option maxRecDepth 100000 in
theorem writes_iter (d : Nat) (t : Option Nat) (D : Dk) (ht : t = none → D.loose = []) (hl : D.loose.length < 2 ^ 40) (gw : FuncId) (cw : List V) (want : Nat → Bool) (hw : ∀ k, k < D.loose.length → PCall Try.prog gw ([i64V k] ++ cw) (bV (want k))) :
    IterR Try.prog (DRes d t D) 67 [] [.pt none (.loc d 0) 0, .pt none (.fn (.func gw) [] cw) 0] ((kept want 0 D.loose).map fun w => [i64V w.1, str w.2]) := by
  refine ⟨⟨_, _, Try.func67, rfl, by kernel_rfl⟩, fun l I E R0 h0 hy => ?_⟩
  have e0 := DRes_eq (d := d) ht
  refine e0 ▸ ?_
  refine scall_of (live := []) (ords := []) Try.func67 rfl (by kernel_rfl) (by kernel_rfl) (Nat.le_of_ble_eq_true rfl) ?_
  (conv => arg 2; whnf); refine wp_load (cs := dkL t D) 0 (by rfl) rfl ?_
  (conv => arg 2; whnf); refine wp_loop (fun m fr R => ∃ n R1, m = D.loose.length - n ∧ n ≤ D.loose.length ∧ R = ([.obj d (dkL t D)] ++ tokR (some 2) t) ++ R1 ∧ I (kept want 0 (D.loose.take n)).length R1 ∧
      fr = frL [(0, .fn (.yield l) [] []), (1, .pt none (.loc d 0) 0), (2, .pt none (.fn (.func gw) [] cw) 0), (9, .sl (shOf (some 2) t) (D.loose.map wV) (tkOf t)), (10, i64V D.loose.length), (11, i64V (n : Nat))])
    D.loose.length _ _ (.cons (.refl _) (.cons (.refl _) (.cons (.refl _) (.cons (.refl _) (.cons (Vle.eq ?_) (.cons (.refl _) (.nil _))))))) (List.Sublist.refl _) ⟨0, R0, rfl, Nat.zero_le _, rfl, h0, rfl⟩ ?_
  · show V.c (.int .i64 (D.loose.map wV).length) = _
    rw [List.length_map]; rfl
  rintro m fr R ⟨n, R1, rfl, hn, rfl, hI, rfl⟩
  (conv => arg 2; whnf); refine wp_ite (fun h => ?_) (fun h => ?_)
  · have h : n < D.loose.length := by have := of_decide_eq_true h; omega
    cases t with
    | none => rw [ht rfl] at h; cases h
    | some t =>
    have hg : D.loose[n]? = some D.loose[n] := List.getElem?_eq_getElem h
    obtain ⟨k1, k2⟩ := kept_at (want := want) hg
    generalize D.loose[n] = w at hg k1
    obtain ⟨wi, ws⟩ := w
    (conv => arg 2; whnf); refine wp_elem n (.agg [i64V wi, str ws]) rfl (by rw [List.getElem?_map, hg]; rfl) (Vle.refl _) ?_
    (conv => arg 2; whnf); refine wp_allocE [i64V 0, str []] rfl fun b => ?_
    (conv => arg 2; whnf); refine wp_storeE (cs := [i64V 0, str []]) (([Res.obj d (dkL (some t) D)] ++ tokR (some 2) (some t)) ++ R1).length 0 [i64V wi, str ws] (by simp) rfl (VleL.refl _) (Nat.le_refl _) rfl (R' := (([.obj d (dkL (some t) D)] ++ tokR (some 2) (some t)) ++ R1) ++ [.obj b [i64V wi, str ws]]) (by simp [splice]) ?_
    (conv => arg 2; whnf); refine wp_pcallV (VleL.refl _) (hw n h) ?_
    (conv => arg 2; whnf); refine wp_ite (fun hwn => ?_) (fun hwn => ?_)
    · (conv => arg 2; whnf); refine wp_load (cs := [i64V wi, str ws]) (([Res.obj d (dkL (some t) D)] ++ tokR (some 2) (some t)) ++ R1).length (by simp) rfl ?_
      (conv => arg 2; whnf); refine wp_load (cs := [i64V wi, str ws]) (([Res.obj d (dkL (some t) D)] ++ tokR (some 2) (some t)) ++ R1).length (by simp) rfl ?_
      (conv => arg 2; whnf); refine wp_yld (hy _ _ _ (by rw [List.getElem?_map, (k1 hwn).1]; rfl) hI).frame ?_
      rintro b' R' ⟨R2, ⟨rfl, hI2⟩ | ⟨rfl, hE⟩, rfl⟩
      · (conv => arg 2; whnf); refine wp_ite (fun h => by first | cases h | (simp at h; done)) (fun _ => ?_)
        (conv => arg 2; whnf)
        refine wp_leaf (loop_next (D.loose.length - (n + 1)) _ _ (by omega) (.cons (.refl _) (.cons (.refl _) (.cons (.refl _) (.cons (.refl _) (.cons (.refl _) (.cons (Vle.inc n rfl (by omega)) (.nil _))))))) (List.sublist_append_left _ _) ⟨n + 1, R2, rfl, h, rfl, ?_, rfl⟩)
        rw [(k1 hwn).2]; exact hI2
      · (conv => arg 2; whnf); refine wp_ite (fun _ => ?_) (fun h => by first | cases h | (simp at h; done))
        (conv => arg 2; whnf)
        refine wp_leaf (loop_ret ?_)
        (conv => arg 2; whnf); refine w_ret0 rfl (List.sublist_append_left _ _) ⟨R2, rfl, .inr hE⟩
    · (conv => arg 2; whnf); refine wp_ite (fun h => by first | cases h | (simp at h; done)) (fun _ => ?_)
      (conv => arg 2; whnf)
      refine wp_leaf (loop_next (D.loose.length - (n + 1)) _ _ (by omega) (.cons (.refl _) (.cons (.refl _) (.cons (.refl _) (.cons (.refl _) (.cons (.refl _) (.cons (Vle.inc n rfl (by omega)) (.nil _))))))) (List.sublist_append_left _ _) ⟨n + 1, R1, rfl, h, rfl, ?_, rfl⟩)
      rw [k2 hwn]; exact hI
  · have h : n = D.loose.length := by have := of_decide_eq_false h; omega
    subst h
    (conv => arg 2; whnf)
    refine wp_leaf (loop_exit ?_)
    (conv => arg 2; whnf); refine w_norm0 rfl (List.Sublist.refl _) ⟨R1, rfl, .inl ?_⟩
    rw [List.length_map]
    rw [List.take_length] at hI
    exact hI
end Go.Sv
