/- pasternlaw16: StepQuota, walked. -/
import Derived.Test.YtonnbjcbjjigiaaGreatMgRowStepQuota9
import Derived.Test.YtonnbjcbjjigiaaGreatMgRowStepQuota5
namespace Go.Sv
open Go Go.Proofs
theorem Pin.aggC {L : List Res} {a b : V} {cs : List V} (h : Pin L a b) : Pin L (.agg (a :: cs)) (.agg (b :: cs)) := by
  intro g g' w x hp hP hx
  simp only [RelV, RelL] at hx ⊢
  obtain ⟨l, rfl, y, ys, e, h1, h2⟩ := hx
  exact ⟨l, rfl, y, ys, e, h _ _ _ _ hp hP h1, RelL.mono hp _ _ h2⟩
def evsQ (n : Nat) : List Ev := List.replicate n evQ
theorem evsQ_next (n : Nat) : evsQ (n + 1) = evsQ n ++ [evQ] := by rw [evsQ, evsQ, List.replicate_succ']
theorem evsQ_get {n i : Nat} (h : i < n) : (evsQ n).getD i ev0 = evQ := by
  rw [evsQ, List.getD_eq_getElem?_getD, List.getElem?_replicate, if_pos h]; rfl
theorem evsQ_len (n : Nat) : (evsQ n).length = n := by rw [evsQ, List.length_replicate]
theorem isEvQ : isEvI baseS evQ = 0 := by kernel_rfl
theorem strmQ (n : Nat) : strmB (evsQ n) = true := by
  unfold strmB
  rw [List.all_eq_true]
  intro i hi
  have hi := List.mem_range.1 hi
  rw [evsQ_len] at hi
  unfold strm1
  rw [evsQ_get hi, evsQ_get (show i - 1 < n by omega), isEvQ]
  simp
theorem keptQ_eq (n : Nat) : keptE 0 (evsQ n) = keptQ n := by
  unfold keptE keptQ
  rw [evsQ_len]
  refine List.map_congr_left fun i hi => ?_
  rw [evsQ_get (List.mem_range.1 hi), Int.zero_add]
theorem keptQ_take {n m : Nat} (h : n ≤ m) : (keptQ m).take n = keptQ n := by
  unfold keptQ
  rw [← List.map_take, List.take_range, Nat.min_eq_left h]
theorem keptQ_len (n : Nat) : (keptQ n).length = n := by rw [keptQ, List.length_map, List.length_range]
theorem okE_ev (l : List Ev) : ∀ y ∈ l.map evV, okE (some 3) y := by
  intro y hy
  obtain ⟨b, _, rfl⟩ := List.mem_map.1 hy
  exact ⟨_, rfl, rfl, fun c hc => by
    have : c = str b.ty ∨ c = i64V b.ts ∨ c = valsV b.vals := by simpa [evC] using hc
    rcases this with rfl | rfl | rfl <;> rfl⟩
theorem evsQ_bd (n : Nat) : ∀ e ∈ evsQ n, EvBd e := fun e he => by
  rw [List.eq_of_mem_replicate he]
  exact evBd_T _ (by decide)
theorem okE_el2 (l : List El) : ∀ y ∈ l.map elV, okE (some 11) y := by
  intro y hy
  obtain ⟨b, _, rfl⟩ := List.mem_map.1 hy
  refine ⟨_, rfl, rfl, fun c hc => ?_⟩
  have : c = str b.al ∨ c = .sl none (b.ty.map str) .no ∨ c = bV b.plus ∨ c = bV b.nt ∨ c = i64V b.cond.op ∨ c = i64V b.cond.val.kind ∨ c = i64V b.cond.val.n ∨ c = str b.cond.val.s ∨ c = str b.cond.al ∨ c = str b.cond.fd ∨ c = exsV b.cond.kids := by
    simpa [elC, exC] using hc
  rcases this with h | h | h | h | h | h | h | h | h | h | h <;> subst h <;> rfl
theorem pQ_ok : StOkP pQ := elemE_ok (by decide) fun e he => by
  have : e = elemE [97] [116] ∨ e = elemE [98] [117] := by simpa [pQ] using he
  rcases this with rfl | rfl <;> exact ⟨_, _, rfl⟩
theorem condQ_ok : ExOk 20 condQ := by
  refine ⟨by decide, by decide, by decide, by decide, fun y hy => ?_⟩
  have : y = .mk 2 val0 [97] [110] [] ∨ y = .mk 1 ⟨1, 0, []⟩ [] [] [] := by simpa [condQ, Ex.kids] using hy
  rcases this with rfl | rfl <;> exact ⟨by decide, by decide, by decide, by decide, fun y hy => by cases hy⟩
theorem condQ_rg : exRg condQ := by
  refine (exRg_eq _).2 ⟨⟨by decide, by decide⟩, fun y hy => ?_⟩
  have : y = .mk 2 val0 [97] [110] [] ∨ y = .mk 1 ⟨1, 0, []⟩ [] [] [] := by simpa [condQ, Ex.kids] using hy
  rcases this with rfl | rfl <;> exact (exRg_eq _).2 ⟨⟨by decide, by decide⟩, fun y hy => by cases hy⟩
theorem pL_cases {e : El} (he : e ∈ pL.els) : e = elQ ∨ e = elemE [98] [117] := by simpa [pL] using he
theorem pL_all {Q : El → Prop} (h1 : Q elQ) (h2 : Q (elemE [98] [117])) : ∀ e ∈ pL.els, Q e := fun e he => by
  rcases pL_cases he with rfl | rfl
  · exact h1
  · exact h2
theorem pL_ok : StOkP pL := ⟨by decide, pL_all (by decide) (by decide), pL_all condQ_ok ex0_ok, pL_all condQ_rg ex0_rg, pL_all (by decide) (by decide)⟩
structure QOk (p : Pa) (M : Nat) (rows : Nat → List (List Bd)) : Prop where
  ok : StOkP p
  r0 : rows 0 = []
  len : ∀ i, (rows i).length = i
  step : ∀ i, i ≤ M → stepE baseS p (keptQ (i + 1)) (rows i) = if i < M then some (rows (i + 1), []) else none
theorem qQ : QOk pQ 60 rowsQ := ⟨pQ_ok, rfl, fun i => by rw [rowsQ, List.length_map, List.length_range], fun _ h => stepQ h⟩
theorem qL : QOk pL 30 rowsL := ⟨pL_ok, rfl, fun i => by rw [rowsL, List.length_map, List.length_range], fun _ h => stepL h⟩
theorem elsQ_vle : VleL [i64V 6, i64V 0, i64V 0, str [], str [], str [], .sl (some 7) [.agg [i64V 2, i64V 0, i64V 0, str [], str [97], str [110], .sl none [] .zero], .agg [i64V 1, i64V 1, i64V 0, str [], str [], str [], .sl none [] .zero]] .no] (exC condQ) :=
  .cons (.refl _) (.cons (.refl _) (.cons (.refl _) (.cons (.refl _) (.cons (.refl _) (.cons (.refl _) (.cons (Vle.xs (.cons (Vle.agg (.cons (.refl _) (.cons (.refl _) (.cons (.refl _) (.cons (.refl _) (.cons (.refl _) (.cons (.refl _) (.cons (Vle.nil _ _ _) .nil)))))))) (.cons (Vle.agg (.cons (.refl _) (.cons (.refl _) (.cons (.refl _) (.cons (.refl _) (.cons (.refl _) (.cons (.refl _) (.cons (Vle.nil _ _ _) .nil)))))))) .nil))) .nil))))))
set_option maxRecDepth 100000 in
set_option maxHeartbeats 8000000 in
theorem stepquota_call (hC : CountsUp) (u : Nat) (hu : u ≤ 255) (long : Bool) : PCall Tryz.prog 5 [.c (.int .u8 (u : Int)), bV long] (bV true) := by
  have f0 := known16_call hC
  obtain ⟨pat, M, rows, kk, hq, hkk, hM, hpat⟩ : ∃ pat M rows kk, QOk pat M rows ∧ kk < 100 ∧ (M = if long then 30 else 60) ∧ (pat = if long then pL else pQ) ∧ (kk = if long then u % 8 + 26 else u % 8 + 56) := by
    cases long with
    | true => exact ⟨pL, 30, rowsL, u % 8 + 26, qL, by omega, rfl, rfl, rfl⟩
    | false => exact ⟨pQ, 60, rowsQ, u % 8 + 56, qQ, by omega, rfl, rfl, rfl⟩
  obtain ⟨hpat, hkkE⟩ := hpat
  have hM60 : M ≤ 60 := by rw [hM]; split <;> omega
  have fs := stream_call (evsQ kk) (by rw [evsQ_len]; omega) (evsQ_bd kk) 0 (by decide) (by decide)
  rw [streamR, strmQ, if_pos rfl, keptQ_eq] at fs
  obtain ⟨hkf, _⟩ := kept_ok (l := evsQ kk) (at_ := 0) (by rw [evsQ_len]; omega) (evsQ_bd kk) (strmQ kk)
  rw [keptQ_eq] at hkf
  have hm8 : ((u : Int).tmod 8) = ((u % 8 : Nat) : Int) := rfl
  refine scall_of (live := [27, 30000000027]) (ords := [(4, []), (10, []), (15, []), (16, []), (21, []), (24, [])]) Tryz.func5 rfl (by kernel_rfl) (by kernel_rfl) (Nat.le_of_ble_eq_true rfl) ?_
  (conv=>arg 2;whnf);refine wp_pcall f0 ?_
  (repeat ((conv=>arg 2;whnf);first|refine wp_it rfl ?_|refine wp_if rfl ?_))
  (conv=>arg 2;whnf);refine wp_pcall base_call ?_
  (conv=>arg 2;whnf);refine wp_allocE scZ rfl fun d => ?_
  (conv=>arg 2;whnf);refine wp_storeE (cs := scZ) 0 0 (scC baseS) rfl rfl (VleL.refl _) (Nat.le_refl _) rfl (R' := [.obj d (scC baseS)]) rfl ?_
  (conv=>arg 2;whnf)
  refine wp_cutP (frL [(0, .c (.int .u8 (u : Int))), (1, bV long), (5, .pt (some 1) (scV baseS) 0)]) [] [.obj d (scC baseS)] (.cons (.refl _) (.cons (.refl _) (.cons (.all (List.Mem.head _) rfl (by decide) (VleL.refl _)) (.nil _)))) ?_
  have hw8 : IntKind.i64.wrap ((u : Int).tmod 8) = ((u % 8 : Nat) : Int) := by rw [hm8, w_i64_small (by omega) (by omega)]
  have hpel : ∀ (l : List El), ∀ x ∈ l.map elV, ∃ cs, x = .agg cs ∧ cs.length = 11 := fun l x hx => by
    obtain ⟨b, _, rfl⟩ := List.mem_map.1 hx
    exact ⟨_, rfl, rfl⟩
  apply wp_joinT
  case h1 =>
    intro rest
    (conv=>arg 2;whnf);refine wp_pcall (helem_call [97] [116]) ?_
    (conv=>arg 2;whnf);refine wp_pcall (helem_call [98] [117]) ?_
    (conv=>arg 2;whnf);refine wp_eff ⟨okE_el2 [elemE [97] [116], elemE [98] [117]], fun e => ?_⟩
    (conv=>arg 2;whnf);refine wp_allocE paZ16 rfl fun q => ?_
    (conv=>arg 2;whnf);refine wp_storeE (cs := paZ16) 1 0 [.lsl (some 11) e 0 2 2, i64V 100, str [], bV false] rfl rfl (VleL.refl _) (Nat.le_refl _) rfl (R' := [] ++ [.obj e (rowC (some 11) (pQ.els.map elV) ++ []), .obj q [.lsl (some 11) e 0 2 2, i64V 100, str [], bV false]]) rfl ?_
    by_cases hlong : long = true
    · rw [if_pos hlong] at hpat hkkE
      have hk1 : IntKind.i64.wrap (IntKind.i64.wrap ((u : Int).tmod 8) + 26) = (kk : Int) := by
        rw [hw8, w_i64_small] <;> clear rest <;> omega
      have hpin : Pin [.obj e (rowC (some 11) (pL.els.map elV) ++ []), .obj q [.lsl (some 11) e 0 2 2, i64V 100, str [], bV false]] (.loc q 0) (.pt (some 4) (.agg (paC pat)) 0) := by
        rw [hpat]
        exact Pin.ptP (o := 0) (off := 0) (List.Mem.tail _ (List.Mem.head _)) (by simp) rfl (Pin.aggC (Pin.alls (xs := pL.els.map elV) (List.Mem.head _) (by decide) (hpel _))) (Nat.le_refl _)
      (conv=>arg 2;whnf);refine wp_it hlong ?_
      (conv=>arg 2;whnf);refine wp_load 1 rfl rfl ?_
      (conv=>arg 2;whnf);refine wp_need (by decide) ?_
      (conv=>arg 2;whnf);refine wp_storeE 0 2 [bV true] rfl rfl (VleL.refl _) (Nat.le_of_ble_eq_true rfl) rfl (R' := [.obj e ([str [97], .sl none [str [116]] .no, bV true, bV false] ++ exC ex0 ++ elC (elemE [98] [117])), .obj q [.lsl (some 11) e 0 2 2, i64V 100, str [], bV false]]) rfl ?_
      (conv=>arg 2;whnf);refine wp_load 1 rfl rfl ?_
      (conv=>arg 2;whnf);refine wp_need (by decide) ?_
      (conv=>arg 2;whnf);refine wp_storeE 0 4 (exC condQ) rfl rfl elsQ_vle (Nat.le_of_ble_eq_true rfl) rfl (R' := [] ++ [.obj e (rowC (some 11) (pL.els.map elV) ++ []), .obj q [.lsl (some 11) e 0 2 2, i64V 100, str [], bV false]]) rfl ?_
      (conv=>arg 2;whnf)
      exact wp_cutP (frL [(1, bV long), (5, .pt (some 1) (scV baseS) 0), (6, i64V kk), (7, .pt (some 4) (.agg (paC pat)) 0)]) [] [.obj e (rowC (some 11) (pL.els.map elV) ++ []), .obj q [.lsl (some 11) e 0 2 2, i64V 100, str [], bV false]] (.cons (.refl _) (.cons (.refl _) (.cons (.vle (Vle.i64 _ rfl hk1)) (.cons hpin (.nil _))))) rest
    · have hlong : long = false := by simpa using hlong
      rw [hlong, if_neg (by decide)] at hpat hkkE
      have hk1 : IntKind.i64.wrap (IntKind.i64.wrap ((u : Int).tmod 8) + 56) = (kk : Int) := by
        rw [hw8, w_i64_small] <;> clear rest <;> omega
      have hpin : Pin [.obj e (rowC (some 11) (pQ.els.map elV) ++ []), .obj q [.lsl (some 11) e 0 2 2, i64V 100, str [], bV false]] (.loc q 0) (.pt (some 4) (.agg (paC pat)) 0) := by
        rw [hpat]
        exact Pin.ptP (o := 0) (off := 0) (List.Mem.tail _ (List.Mem.head _)) (by simp) rfl (Pin.aggC (Pin.alls (xs := pQ.els.map elV) (List.Mem.head _) (by decide) (hpel _))) (Nat.le_refl _)
      (conv=>arg 2;whnf);refine wp_if hlong ?_
      (conv=>arg 2;whnf)
      exact wp_cutP (frL [(1, bV long), (5, .pt (some 1) (scV baseS) 0), (6, i64V kk), (7, .pt (some 4) (.agg (paC pat)) 0)]) [] [.obj e (rowC (some 11) (pQ.els.map elV) ++ []), .obj q [.lsl (some 11) e 0 2 2, i64V 100, str [], bV false]] (.cons (.refl _) (.cons (.refl _) (.cons (.vle (Vle.i64 _ rfl hk1)) (.cons hpin (.nil _))))) rest
  case rest =>
    clear hpel hw8 hm8 hpat hkkE f0
    (conv=>arg 2;whnf);refine wp_loop (fun m fr R => ∃ (i : Nat) (t : Option Nat), m = kk - i ∧ i ≤ kk ∧ (t = none → evsQ i = []) ∧ R = [] ++ (tokR (some 3) t ++ []) ∧ fr = frL [(1, bV long), (5, .pt (some 1) (scV baseS) 0), (6, i64V kk), (7, .pt (some 4) (.agg (paC pat)) 0), (8, .sl (shOf (some 3) t) ((evsQ i).map evV) (tkOf t)), (9, i64V i)])
      kk _ _ (.cons (.refl _) (.cons (.refl _) (.cons (.refl _) (.cons (.refl _) (.cons (.refl _) (.cons (.refl _) (.nil _))))))) (List.Sublist.refl _) ⟨0, none, rfl, Nat.zero_le _, fun _ => rfl, rfl, rfl⟩ ?_
    rintro m fr R ⟨i, t, rfl, hi, ht, rfl, rfl⟩
    (conv=>arg 2;whnf);refine wp_ite (fun h => ?_) (fun h => ?_)
    · have h : i < kk := by have := of_decide_eq_true h; omega
      have hsz : (((evsQ i).map evV).length + 1) * 48 ≤ 140737488355328 := by rw [List.length_map, evsQ_len]; omega
      have hv : ∀ t', V.sl (some 3) ((evsQ i).map evV ++ [evV evQ]) (.t t') = .sl (shOf (some 3) (some t')) ((evsQ (i + 1)).map evV) (tkOf (some t')) := fun t' => by rw [evsQ_next, List.map_append]; rfl
      (conv=>arg 2;whnf);refine wp_pcall (evt_call 0 0) ?_
      (conv=>arg 2;whnf);refine wp_append_x (A := []) (B := []) (sh := some 3) (t := t) (xs := (evsQ i).map evV) (ys := [evV evQ]) (fun h => by rw [ht h]; rfl) (okE_ev [evQ]) hsz (fun t' S' hS => ?_)
      (conv=>arg 2;whnf)
      exact wp_leaf (loop_next (kk - (i + 1)) _ [.tok t' (some 3)] (by omega) (.cons (.refl _) (.cons (.refl _) (.cons (.refl _) (.cons (.refl _) (.cons (Vle.of (.sl (some 3) ((evsQ i).map evV ++ [evV evQ]) (.t t')) rfl (hv t')) (.cons (Vle.inc i rfl (by omega)) (.nil _))))))) hS ⟨i + 1, some t', rfl, h, (fun e => by cases e), rfl, rfl⟩)
    · have h : i = kk := by have := of_decide_eq_false h; omega
      subst h
      have hv : Vle (.sl (shOf (some 3) t) ((evsQ i).map evV) (tkOf t)) (evsV (evsQ i)) := by
        cases t with
        | none => rw [ht rfl]; exact Vle.nil _ _ _
        | some t => exact Vle.sl _ _ _
      (conv=>arg 2;whnf)
      refine wp_leaf (loop_exit ?_)
      refine wp_cutR (frL [(1, bV long), (5, .pt (some 1) (scV baseS) 0), (6, i64V i), (7, .pt (some 4) (.agg (paC pat)) 0), (8, evsV (evsQ i))]) [] (.cons (.refl _) (.cons (.refl _) (.cons (.refl _) (.cons (.refl _) (.cons hv (.nil _)))))) (List.nil_sublist _) ?_
      clear hv ht hi t
      obtain ⟨kk, hkE⟩ : ∃ kk, kk = i := ⟨_, rfl⟩
      rw [← hkE] at fs hkf hkk ⊢
      clear hkE
      have hklen := keptQ_len kk
      (conv=>arg 2;whnf);refine wp_pcall fs ?_
      (conv=>arg 2;whnf)
      refine wp_cutR (frL [(1, bV long), (5, .pt (some 1) (scV baseS) 0), (6, i64V kk), (7, .pt (some 4) (.agg (paC pat)) 0), (10, kpsV (keptQ kk))]) [] (.cons (.refl _) (.cons (.refl _) (.cons (.refl _) (.cons (.refl _) (.cons (.refl _) (.nil _)))))) (List.nil_sublist _) ?_
      (conv=>arg 2;whnf);refine wp_loop (fun m fr R => ∃ i : Nat, m = kk - i ∧ i ≤ kk ∧ i ≤ M ∧ R = [] ∧ RunsOk pat (rows i) ∧ fr = frL [(1, bV long), (5, .pt (some 1) (scV baseS) 0), (6, i64V kk), (7, .pt (some 4) (.agg (paC pat)) 0), (10, kpsV (keptQ kk)), (12, runsV (rows i)), (13, i64V i)])
        kk _ _ (.cons (.refl _) (.cons (.refl _) (.cons (.refl _) (.cons (.refl _) (.cons (.refl _) (.cons (Vle.gotL (a := .sl none [] .zero) (b := runsV (rows 0)) (by rw [hq.r0]; exact Vle.nil _ _ _) rfl) (.cons (.refl _) (.nil _)))))))) (List.Sublist.refl _) ⟨0, rfl, Nat.zero_le _, Nat.zero_le _, rfl, by rw [hq.r0]; exact runs_nil pat, rfl⟩ ?_
      rintro m fr R ⟨i, rfl, hi, hiM, rfl, hro, rfl⟩
      (conv=>arg 2;whnf);refine wp_ite (fun h => ?_) (fun h => ?_)
      · have h : i < kk := by have := of_decide_eq_true h; omega
        have hw1 : IntKind.i64.wrap ((i : Int) + 1) = ((i + 1 : Nat) : Int) := by rw [w_i64_small (by omega) (by omega)]; omega
        have hneed : (0 : Int) ≤ IntKind.i64.wrap ((i : Int) + 1) ∧ IntKind.i64.wrap ((i : Int) + 1) ≤ (((keptQ kk).map kpV).length : Int) := by rw [hw1, List.length_map, hklen]; omega
        have hsl : Vle (.sl (some 4) (((keptQ kk).map kpV).take (Int.toNat (IntKind.i64.wrap ((i : Int) + 1)))) .no) (kpsV (keptQ (i + 1))) := by rw [hw1, ← keptQ_take (show i + 1 ≤ kk from h)]; exact kps_take (keptQ kk) (i + 1)
        have hkl : StOkL (keptQ (i + 1)) := by rw [← keptQ_take (show i + 1 ≤ kk from h)]; exact hkf.toStOkL.take _
        have ft := step_call hC baseS base_ok pat hq.ok (keptQ (i + 1)) hkl (rows i) hro
        have hst := hq.step i hiM
        have hlt : kk - (i + 1) < kk - i := by omega
        have hi62 : i < 2 ^ 62 := by omega
        by_cases hiL : i < M
        · rw [if_pos hiL] at hst
          have hro2 := (step_runs hq.ok.n hro hst).1
          rw [hst] at ft
          have hd30 : long = true → decide ((i : Int) < 30) = true := fun e => by rw [hM, if_pos e] at hiL; exact decide_eq_true (by omega)
          have hd60 : long = false → decide ((i : Int) < 60) = true := fun e => by rw [hM, e] at hiL; exact decide_eq_true (by simp at hiL; omega)
          (conv=>arg 2;whnf);refine wp_need hneed ?_
          (conv=>arg 2;whnf);refine wp_pcV (.cons (.refl _) (.cons (.refl _) (.cons hsl (.cons (.refl _) .nil)))) ft ?_
          (conv=>arg 2;whnf)
          refine wp_cutR (frL [(1, bV long), (5, .pt (some 1) (scV baseS) 0), (6, i64V kk), (7, .pt (some 4) (.agg (paC pat)) 0), (10, kpsV (keptQ kk)), (13, i64V i), (14, runsV (rows (i + 1))), (16, .c (errV none))]) [] (.cons (.refl _) (.cons (.refl _) (.cons (.refl _) (.cons (.refl _) (.cons (.refl _) (.cons (.refl _) (.cons (.refl _) (.cons (.refl _) (.nil _))))))))) (List.nil_sublist _) ?_
          clear ft hst
          apply wp_joinT
          case h1 =>
            intro rest
            by_cases hlong : long = true
            · (conv=>arg 2;whnf);refine wp_it hlong ?_
              (conv=>arg 2;whnf)
              exact wp_cutR (frL [(1, bV long), (5, .pt (some 1) (scV baseS) 0), (6, i64V kk), (7, .pt (some 4) (.agg (paC pat)) 0), (10, kpsV (keptQ kk)), (13, i64V i), (14, runsV (rows (i + 1))), (16, .c (errV none)), (17, bV true)]) [] (.cons (.refl _) (.cons (.refl _) (.cons (.refl _) (.cons (.refl _) (.cons (.refl _) (.cons (.refl _) (.cons (.refl _) (.cons (.refl _) (.cons (Vle.gotL (Vle.eq (cBool (hd30 hlong))) rfl) (.nil _)))))))))) (List.nil_sublist _) rest
            · have hlong : long = false := by simpa using hlong
              (conv=>arg 2;whnf);refine wp_if hlong ?_
              (conv=>arg 2;whnf)
              exact wp_cutR (frL [(1, bV long), (5, .pt (some 1) (scV baseS) 0), (6, i64V kk), (7, .pt (some 4) (.agg (paC pat)) 0), (10, kpsV (keptQ kk)), (13, i64V i), (14, runsV (rows (i + 1))), (16, .c (errV none)), (17, bV true)]) [] (.cons (.refl _) (.cons (.refl _) (.cons (.refl _) (.cons (.refl _) (.cons (.refl _) (.cons (.refl _) (.cons (.refl _) (.cons (.refl _) (.cons (Vle.gotL (Vle.eq (cBool (hd60 hlong))) rfl) (.nil _)))))))))) (List.nil_sublist _) rest
          case rest =>
            (repeat ((conv=>arg 2;whnf);first|refine wp_it rfl ?_|refine wp_if rfl ?_))
            (conv=>arg 2;whnf)
            exact wp_leaf (loop_next (kk - (i + 1)) _ [] hlt (.cons (.refl _) (.cons (.refl _) (.cons (.refl _) (.cons (.refl _) (.cons (.refl _) (.cons (.refl _) (.cons (Vle.inc i rfl hi62) (.nil _)))))))) (List.nil_sublist _) ⟨i + 1, rfl, h, hiL, rfl, hro2, rfl⟩)
        · rw [if_neg hiL] at hst
          rw [hst] at ft
          have hd30 : long = true → decide ((i : Int) < 30) = false := fun e => by rw [hM, if_pos e] at hiL; exact decide_eq_false (by omega)
          have hd60 : long = false → decide ((i : Int) < 60) = false := fun e => by rw [hM, e] at hiL; exact decide_eq_false (by simp at hiL; omega)
          (conv=>arg 2;whnf);refine wp_need hneed ?_
          (conv=>arg 2;whnf);refine wp_pcV (.cons (.refl _) (.cons (.refl _) (.cons hsl (.cons (.refl _) .nil)))) ft ?_
          (conv=>arg 2;whnf)
          refine wp_cutR (frL [(1, bV long), (13, i64V i), (14, runsV []), (16, .c (errV (some 18)))]) [] (.cons (.refl _) (.cons (.refl _) (.cons (.refl _) (.cons (.refl _) (.nil _))))) (List.nil_sublist _) ?_
          clear ft hst
          apply wp_joinT
          case h1 =>
            intro rest
            by_cases hlong : long = true
            · (conv=>arg 2;whnf);refine wp_it hlong ?_
              (conv=>arg 2;whnf)
              exact wp_cutR (frL [(14, runsV []), (16, .c (errV (some 18))), (17, bV false)]) [] (.cons (.refl _) (.cons (.refl _) (.cons (Vle.gotL (Vle.eq (cBool (hd30 hlong))) rfl) (.nil _)))) (List.nil_sublist _) rest
            · have hlong : long = false := by simpa using hlong
              (conv=>arg 2;whnf);refine wp_if hlong ?_
              (conv=>arg 2;whnf)
              exact wp_cutR (frL [(14, runsV []), (16, .c (errV (some 18))), (17, bV false)]) [] (.cons (.refl _) (.cons (.refl _) (.cons (Vle.gotL (Vle.eq (cBool (hd60 hlong))) rfl) (.nil _)))) (List.nil_sublist _) rest
          case rest =>
            (repeat ((conv=>arg 2;whnf);first|refine wp_it rfl ?_|refine wp_if rfl ?_))
            (conv=>arg 2;whnf);refine wp_pcall (is_call (some 18) 18) ?_
            (repeat ((conv=>arg 2;whnf);first|refine wp_it rfl ?_|refine wp_if rfl ?_))
            (conv=>arg 2;whnf)
            refine wp_leaf (loop_ret ?_)
            (conv=>arg 2;whnf);refine w_ret1 rfl (Vle.refl _) (List.nil_sublist _) rfl
      · have h : i = kk := by have := of_decide_eq_false h; omega
        have hlen : ((((rows i).map runV).length : Int) == (kk : Int)) = true := by rw [List.length_map, hq.len, h]; simp
        (conv=>arg 2;whnf)
        refine wp_leaf (loop_exit ?_)
        (conv=>arg 2;whnf);refine w_ret1 rfl (Vle.eq (cBool hlen)) (List.nil_sublist _) rfl
theorem stepquota_law (u : Nat) (long : Bool) (hu : u ≤ 255) : PCall Tryz.prog 5 [.c (.int .u8 (u : Int)), bV long] (bV true) := stepquota_call trivial u hu long
end Go.Sv
