/- Parts of the proof, one behind the other. -/
import Derived.Test.YtjmkgippihpkoaaGreatDoorMgRowPTells12
import Derived.Test.YtjmkgippihpkoaaGreatDoorMgRowPTells9
/- The reference's parser: nodes. -/
namespace Go.Sv
open Go Go.Proofs

def RK {α : Type} (C : α → List V) (b : Nat) (s : List UInt8) (L : List Wd) (r : Got α) (v : V) (R' : List Res) : Prop := ∃ x l' e' n', v = .agg (C x) ∧ RSt b s L l' e' n' R' ∧ Sim r x l' e' n' ∧ e' ≠ some 0
theorem neF9 {a b : List UInt8} (e : a ≠ b) (h : ((S a).toList == (S b).toList) = true) : False := by rw [strEq, decide_eq_false e] at h; cases h
theorem eqR9 {a b : List UInt8} (e : a = b) (h : ((S a).toList == (S b).toList) = false) : False := by rw [strEq, decide_eq_true e] at h; cases h
theorem mustX_ne {l : List Wd} {e : Option Nat} {kind : Nat} {t : List UInt8} (he : e ≠ some 0) : mustX l e kind t ≠ some 0 := by
  unfold mustX
  split
  · exact he
  · exact failE_ne he (by decide)
theorem begins_no {s : List UInt8} {m : Nat} {l : List Wd} (hl : AllOk m l) (h : beginsW s l = false) : l = [] ∨ ∃ w r, l = w :: r ∧ ((w.kind = 2 ∧ plainW s w = false) ∨ (w.kind = 4 ∧ w.text ≠ trueL ∧ w.text ≠ falseL) ∨ (w.kind = 5 ∧ w.text ≠ [40])) := by
  cases l with
  | nil => exact .inl rfl
  | cons w r =>
    refine .inr ⟨w, r, rfl, ?_⟩
    have hk := (hl w (by simp)).nx.kind
    simp only [beginsW, hdK, hdT, List.headD_cons, Bool.or_eq_false_iff, Bool.and_eq_false_iff, decide_eq_false_iff_not] at h
    obtain ⟨h2, h3, h1, ht, hf, hp⟩ := h
    have hk : w.kind = 1 ∨ w.kind = 2 ∨ w.kind = 3 ∨ w.kind = 4 ∨ w.kind = 5 := hk
    rcases hk with hk | hk | hk | hk | hk
    · exact absurd hk h1
    · exact .inl ⟨hk, h2.resolve_left (fun h => h hk)⟩
    · exact absurd hk h3
    · exact .inr (.inl ⟨hk, ht.resolve_left (fun h => h hk), hf.resolve_left (fun h => h hk)⟩)
    · exact .inr (.inr ⟨hk, hp.resolve_left (fun h => h hk)⟩)
theorem begins_yes {s : List UInt8} {l : List Wd} (h : beginsW s l = true) : ∃ w r, l = w :: r ∧ ((w.kind = 2 ∧ plainW s w = true) ∨ w.kind = 3 ∨ w.kind = 1 ∨ (w.kind = 4 ∧ w.text = trueL) ∨ (w.kind = 4 ∧ w.text = falseL) ∨ (w.kind = 5 ∧ w.text = [40])) := by
  cases l with
  | nil => cases h
  | cons w r =>
    refine ⟨w, r, rfl, ?_⟩
    simpa only [beginsW, hdK, hdT, List.headD_cons, Bool.or_eq_true, Bool.and_eq_true, decide_eq_true_eq] using h
theorem fld2_vle (a f : List UInt8) : VleL [i64V 2, i64V 0, i64V 0, str [], str a, str f, .sl none [] .zero] (exC (.mk 2 val0 a f [])) :=
  .cons (.refl _) (.cons (.refl _) (.cons (.refl _) (.cons (.refl _) (.cons (.refl _) (.cons (.refl _) (.cons (Vle.nil _ _ _) .nil))))))
theorem field_sim {r : List Wd} {n : Nat} {a : List UInt8} : Sim (α := Ex) (thenE (mustE 5 [46] () r n) fun _ l1 n1 => thenE (takeE 1 l1 n1) fun f l2 n2 => .ok (Ex.mk 2 val0 a f.text [], l2, n2))
    (.mk 2 val0 a (takeW (mayL r none 5 [46]) (mustX r none 5 [46]) 1).text []) (mayL (mayL r none 5 [46]) (mustX r none 5 [46]) 1 []) (mustX (mayL r none 5 [46]) (mustX r none 5 [46]) 1 []) n := by
  refine Sim.bind (sim_must (by decide)) (fun m hm => by rw [hm, mustX_some]) fun h => ?_
  rw [h]
  exact Sim.bind sim_take (fun m hm => hm) fun h => by rw [h]; exact Sim.ok

set_option maxRecDepth 100000 in
set_option maxHeartbeats 1000000 in
theorem rexpr_err (b : Nat) (s : List UInt8) (L l : List Wd) (a m n deep : Nat) (hm0 : (some m : Option Nat) ≠ some 0) (ha : a ≤ L.length) (hl : L.drop a = l) : SCall Tryz.prog 33 [.loc b 0, i64V deep] [.obj b (rfL s L a (some m) n)] fun v R' => v = .agg (exC ex0) ∧ R' = [.obj b (rfL s L a (some m) n)] := by
  have h0 := eI_ne hm0
  have hp := peek_call b s L l a (some m) n ha hl
  refine scall_of (live := [137, 139, 13800000, 10013900000]) (ords := [(2, []), (3, []), (4, []), (7, []), (12, []), (23, [2, 0, 1, 3, 4, 5, 6]), (28, []), (30, []), (35, []), (38, [])]) Tryz.func33 rfl (by kernel_rfl) (by kernel_rfl) (Nat.le_of_ble_eq_true rfl) ?_
  (conv => arg 2; whnf); refine wp_allocE exZ rfl fun c => ?_
  (conv => arg 2; whnf); refine wp_callF [] [.obj b (rfL s L a (some m) n)] [.obj c exZ] rfl hp ?_
  rintro v R1 ⟨rfl, rfl⟩
  (conv => arg 2; whnf); refine wp_allocD (wdL wd0) rfl fun d hfr => ?_
  have hne : d ≠ b := fun e => hfr 0 b _ rfl (List.cons_ne_nil _ _) e.symm
  clear hfr
  (conv => arg 2; whnf); refine wp_storeE (cs := wdL wd0) 2 0 (wdL (l.headD wd0)) rfl rfl (VleL.refl _) (Nat.le_refl _) rfl (R' := [.obj b (rfL s L a (some m) n), .obj c exZ, .obj d (wdL (l.headD wd0))]) rfl ?_
  (conv => arg 2; whnf)
  refine wp_cutR (frL [(0, .loc b 0), (1, i64V deep), (4, .loc c 0), (5, .loc d 0)]) [.obj b (rfL s L a (some m) n), .obj c exZ, .obj d (wdL (l.headD wd0))] (.cons (.refl _) (.cons (.refl _) (.cons (.refl _) (.cons (.refl _) (.nil _))))) (List.Sublist.refl _) ?_
  (conv => arg 2; whnf); refine wp_load (cs := wdL (l.headD wd0)) 2 rfl rfl ?_
  apply wp_joinT
  case h1 =>
    intro rest
    (conv => arg 2; whnf); refine wp_ite (fun _ => ?_) (fun _ => ?_)
    · (conv => arg 2; whnf); refine wp_load (cs := wdL (l.headD wd0)) 2 rfl rfl ?_
      (conv => arg 2; whnf); refine wp_ite (fun _ => ?_) (fun _ => ?_)
      · skip
        (conv => arg 2; whnf)
        exact wp_cutR (frL [(0, .loc b 0), (1, i64V deep), (4, .loc c 0), (5, .loc d 0)]) [.obj b (rfL s L a (some m) n), .obj c exZ, .obj d (wdL (l.headD wd0))] (.cons (.refl _) (.cons (.refl _) (.cons (.refl _) (.cons (.refl _) (.nil _))))) (List.Sublist.refl _) rest
      · (conv => arg 2; whnf); refine wp_load (cs := wdL (l.headD wd0)) 2 rfl rfl ?_
        (conv => arg 2; whnf)
        exact wp_cutR (frL [(0, .loc b 0), (1, i64V deep), (4, .loc c 0), (5, .loc d 0)]) [.obj b (rfL s L a (some m) n), .obj c exZ, .obj d (wdL (l.headD wd0))] (.cons (.refl _) (.cons (.refl _) (.cons (.refl _) (.cons (.refl _) (.nil _))))) (List.Sublist.refl _) rest
    · skip
      (conv => arg 2; whnf)
      exact wp_cutR (frL [(0, .loc b 0), (1, i64V deep), (4, .loc c 0), (5, .loc d 0)]) [.obj b (rfL s L a (some m) n), .obj c exZ, .obj d (wdL (l.headD wd0))] (.cons (.refl _) (.cons (.refl _) (.cons (.refl _) (.cons (.refl _) (.nil _))))) (List.Sublist.refl _) rest
  case rest =>
  (conv => arg 2; whnf); refine wp_load (cs := wdL (l.headD wd0)) 2 rfl rfl ?_
  apply wp_joinT
  case h1 =>
    intro rest
    (conv => arg 2; whnf); refine wp_ite (fun _ => ?_) (fun _ => ?_)
    · (conv => arg 2; whnf); refine wp_load (cs := wdL (l.headD wd0)) 2 rfl rfl ?_
      (conv => arg 2; whnf)
      exact wp_cutR (frL [(0, .loc b 0), (1, i64V deep), (4, .loc c 0), (5, .loc d 0)]) [.obj b (rfL s L a (some m) n), .obj c exZ, .obj d (wdL (l.headD wd0))] (.cons (.refl _) (.cons (.refl _) (.cons (.refl _) (.cons (.refl _) (.nil _))))) (List.Sublist.refl _) rest
    · skip
      (conv => arg 2; whnf)
      exact wp_cutR (frL [(0, .loc b 0), (1, i64V deep), (4, .loc c 0), (5, .loc d 0)]) [.obj b (rfL s L a (some m) n), .obj c exZ, .obj d (wdL (l.headD wd0))] (.cons (.refl _) (.cons (.refl _) (.cons (.refl _) (.cons (.refl _) (.nil _))))) (List.Sublist.refl _) rest
  case rest =>
  (conv => arg 2; whnf); refine wp_load (cs := rfL s L a (some m) n) 0 rfl rfl ?_
  have h0 : (!(eI (some m) == 0)) = true := by rw [h0]; rfl
  (conv => arg 2; whnf); refine wp_ite (fun _ => ?_) (fun h => Bool.noConfusion (h0.symm.trans h))
  (repeat ((conv => arg 2; whnf); first | refine wp_ite (fun _ => ?_) (fun h => Bool.noConfusion h) | refine wp_ite (fun h => Bool.noConfusion h) (fun _ => ?_)))
  (conv => arg 2; whnf); refine wp_callF [] [.obj b (rfL s L a (some m) n)] [.obj c exZ, .obj d (wdL (l.headD wd0))] rfl (rfails_call b s L a (some m) n 10 hm0) ?_
  rintro v R1 ⟨rfl, rfl⟩
  (conv => arg 2; whnf); refine wp_storeE (cs := exZ) 1 0 (exC ex0) rfl rfl ex0_vle (Nat.le_refl _) rfl (R' := [.obj b (rfL s L a (some m) n), .obj c (exC ex0), .obj d (wdL (l.headD wd0))]) rfl ?_
  (conv => arg 2; whnf); refine w_ret1k (R' := [.obj b (rfL s L a (some m) n)]) c 0 1 rfl rfl rfl rfl rfl (Vle.refl _) (by simp) ⟨rfl, rfl⟩

set_option maxRecDepth 100000 in
set_option maxHeartbeats 4000000 in
theorem rexpr_zero (b : Nat) (s : List UInt8) (hs : s.length < 2 ^ 40) (L : List Wd) (hL : L.length < 2 ^ 40) (a : Nat) (l : List Wd) (n : Nat) (ha : a ≤ L.length) (hl : L.drop a = l) (hn24 : n ≤ 24) (hall : AllOk s.length l) : SCall Tryz.prog 33 [.loc b 0, i64V ((6 : Nat) : Int)] [.obj b (rfL s L a none n)] (RK exC b s L (nodeE s 0 l n)) := by
  obtain ⟨deep, hdeep⟩ : ∃ d : Nat, d = 6 := ⟨_, rfl⟩
  rw [← hdeep]
  have hp := peek_call b s L l a none n ha hl
  refine scall_of (live := [137, 139, 13800000, 10013900000]) (ords := [(2, []), (3, []), (4, []), (7, []), (12, []), (23, [2, 0, 1, 3, 4, 5, 6]), (28, []), (30, []), (35, []), (38, [])]) Tryz.func33 rfl (by kernel_rfl) (by kernel_rfl) (Nat.le_of_ble_eq_true rfl) ?_
  (conv => arg 2; whnf); refine wp_allocE exZ rfl fun c => ?_
  (conv => arg 2; whnf); refine wp_callF [] [.obj b (rfL s L a none n)] [.obj c exZ] rfl hp ?_
  rintro v R1 ⟨rfl, rfl⟩
  (conv => arg 2; whnf); refine wp_allocD (wdL wd0) rfl fun d hfr => ?_
  have hne : d ≠ b := fun e => hfr 0 b _ rfl (List.cons_ne_nil _ _) e.symm
  clear hfr
  (conv => arg 2; whnf); refine wp_storeE (cs := wdL wd0) 2 0 (wdL (l.headD wd0)) rfl rfl (VleL.refl _) (Nat.le_refl _) rfl (R' := [.obj b (rfL s L a none n), .obj c exZ, .obj d (wdL (l.headD wd0))]) rfl ?_
  (conv => arg 2; whnf)
  refine wp_cutR (frL [(0, .loc b 0), (1, i64V deep), (4, .loc c 0), (5, .loc d 0)]) [.obj b (rfL s L a none n), .obj c exZ, .obj d (wdL (l.headD wd0))] (.cons (.refl _) (.cons (.refl _) (.cons (.refl _) (.cons (.refl _) (.nil _))))) (List.Sublist.refl _) ?_
  cases hb : beginsW s l with
  | false =>
    have hS : Sim (nodeE s 0 l n) ex0 l (some 10) n := by rw [nodeE_nb hb]; exact Sim.err
    rcases begins_no hall hb with rfl | ⟨⟨wk, wx, wn, wa⟩, r, rfl, ⟨hk, hpl⟩ | ⟨hk, hxt, hxf⟩ | ⟨hk, hxp⟩⟩
    · skip
      (conv => arg 2; whnf); refine wp_load (cs := wdL wd0) 2 rfl rfl ?_
      (repeat ((conv => arg 2; whnf); first | refine wp_ite (fun _ => ?_) (fun h => Bool.noConfusion h) | refine wp_ite (fun h => Bool.noConfusion h) (fun _ => ?_)))
      (conv => arg 2; whnf)
      refine wp_cutR (frL [(0, .loc b 0), (1, i64V deep), (4, .loc c 0), (5, .loc d 0), (6, bV false)]) [.obj b (rfL s L a none n), .obj c exZ, .obj d (wdL wd0)] (.cons (.refl _) (.cons (.refl _) (.cons (.refl _) (.cons (.refl _) (.cons (.refl _) (.nil _)))))) (List.Sublist.refl _) ?_
      (conv => arg 2; whnf); refine wp_load (cs := wdL wd0) 2 rfl rfl ?_
      (repeat ((conv => arg 2; whnf); first | refine wp_ite (fun _ => ?_) (fun h => Bool.noConfusion h) | refine wp_ite (fun h => Bool.noConfusion h) (fun _ => ?_)))
      (conv => arg 2; whnf)
      refine wp_cutR (frL [(0, .loc b 0), (1, i64V deep), (4, .loc c 0), (5, .loc d 0), (6, bV false), (7, bV false)]) [.obj b (rfL s L a none n), .obj c exZ, .obj d (wdL wd0)] (.cons (.refl _) (.cons (.refl _) (.cons (.refl _) (.cons (.refl _) (.cons (.refl _) (.cons (.refl _) (.nil _))))))) (List.Sublist.refl _) ?_
      (repeat ((conv => arg 2; whnf); first | refine wp_ite (fun _ => ?_) (fun h => Bool.noConfusion h) | refine wp_ite (fun h => Bool.noConfusion h) (fun _ => ?_) | refine wp_load (cs := wdL wd0) 2 rfl rfl ?_ | refine wp_load (cs := rfL s L a none n) 0 rfl rfl ?_))
      (conv => arg 2; whnf); refine wp_callF [] [.obj b (rfL s L a none n)] [.obj c exZ, .obj d (wdL wd0)] rfl (rfails_call b s L a none n 10 (by decide)) ?_
      rintro v R1 ⟨rfl, rfl⟩
      (conv => arg 2; whnf); refine wp_storeE (cs := exZ) 1 0 (exC ex0) rfl rfl ex0_vle (Nat.le_refl _) rfl (R' := [.obj b (rfL s L a (some 10) n), .obj c (exC ex0), .obj d (wdL wd0)]) rfl ?_
      (conv => arg 2; whnf); refine w_ret1k (R' := [.obj b (rfL s L a (some 10) n)]) c 0 1 rfl rfl rfl rfl rfl (Vle.refl _) (by simp) ⟨ex0, _, some 10, n, rfl, ⟨a, ha, hl, rfl⟩, hS, by decide⟩
    · obtain rfl : wk = 2 := hk
      have hw := hall _ (List.mem_cons_self ..)
      (conv => arg 2; whnf); refine wp_load (cs := wdL ⟨2, wx, wn, wa⟩) 2 rfl rfl ?_
      (repeat ((conv => arg 2; whnf); first | refine wp_ite (fun _ => ?_) (fun h => Bool.noConfusion h) | refine wp_ite (fun h => Bool.noConfusion h) (fun _ => ?_)))
      (conv => arg 2; whnf)
      refine wp_cutR (frL [(0, .loc b 0), (1, i64V deep), (4, .loc c 0), (5, .loc d 0), (6, bV false)]) [.obj b (rfL s L a none n), .obj c exZ, .obj d (wdL ⟨2, wx, wn, wa⟩)] (.cons (.refl _) (.cons (.refl _) (.cons (.refl _) (.cons (.refl _) (.cons (.refl _) (.nil _)))))) (List.Sublist.refl _) ?_
      (conv => arg 2; whnf); refine wp_load (cs := wdL ⟨2, wx, wn, wa⟩) 2 rfl rfl ?_
      (repeat ((conv => arg 2; whnf); first | refine wp_ite (fun _ => ?_) (fun h => Bool.noConfusion h) | refine wp_ite (fun h => Bool.noConfusion h) (fun _ => ?_)))
      (conv => arg 2; whnf)
      refine wp_cutR (frL [(0, .loc b 0), (1, i64V deep), (4, .loc c 0), (5, .loc d 0), (6, bV false), (7, bV false)]) [.obj b (rfL s L a none n), .obj c exZ, .obj d (wdL ⟨2, wx, wn, wa⟩)] (.cons (.refl _) (.cons (.refl _) (.cons (.refl _) (.cons (.refl _) (.cons (.refl _) (.cons (.refl _) (.nil _))))))) (List.Sublist.refl _) ?_
      (repeat ((conv => arg 2; whnf); first | refine wp_ite (fun _ => ?_) (fun h => Bool.noConfusion h) | refine wp_ite (fun h => Bool.noConfusion h) (fun _ => ?_) | refine wp_load (cs := wdL ⟨2, wx, wn, wa⟩) 2 rfl rfl ?_ | refine wp_load (cs := rfL s L a none n) 0 rfl rfl ?_))
      (conv => arg 2; whnf); refine wp_callF [] [.obj b (rfL s L a none n)] [.obj c exZ, .obj d (wdL ⟨2, wx, wn, wa⟩)] rfl (rplain_call b s L a none n ⟨2, wx, wn, wa⟩ hs hw) ?_
      rintro v R1 ⟨rfl, rfl⟩
      rw [hpl]
      (repeat ((conv => arg 2; whnf); first | refine wp_ite (fun _ => ?_) (fun h => Bool.noConfusion h) | refine wp_ite (fun h => Bool.noConfusion h) (fun _ => ?_)))
      (conv => arg 2; whnf); refine wp_callF [] [.obj b (rfL s L a none n)] [.obj c exZ, .obj d (wdL ⟨2, wx, wn, wa⟩)] rfl (rfails_call b s L a none n 10 (by decide)) ?_
      rintro v R1 ⟨rfl, rfl⟩
      (conv => arg 2; whnf); refine wp_storeE (cs := exZ) 1 0 (exC ex0) rfl rfl ex0_vle (Nat.le_refl _) rfl (R' := [.obj b (rfL s L a (some 10) n), .obj c (exC ex0), .obj d (wdL ⟨2, wx, wn, wa⟩)]) rfl ?_
      (conv => arg 2; whnf); refine w_ret1k (R' := [.obj b (rfL s L a (some 10) n)]) c 0 1 rfl rfl rfl rfl rfl (Vle.refl _) (by simp) ⟨ex0, _, some 10, n, rfl, ⟨a, ha, hl, rfl⟩, hS, by decide⟩
    · obtain rfl : wk = 4 := hk
      (conv => arg 2; whnf); refine wp_load (cs := wdL ⟨4, wx, wn, wa⟩) 2 rfl rfl ?_
      (repeat ((conv => arg 2; whnf); first | refine wp_ite (fun _ => ?_) (fun h => Bool.noConfusion h) | refine wp_ite (fun h => Bool.noConfusion h) (fun _ => ?_)))
      (conv => arg 2; whnf); refine wp_load (cs := wdL ⟨4, wx, wn, wa⟩) 2 rfl rfl ?_
      (conv => arg 2; whnf); refine wp_ite (fun h => (neF9 (b := trueL) hxt h).elim) (fun _ => ?_)
      (conv => arg 2; whnf); refine wp_load (cs := wdL ⟨4, wx, wn, wa⟩) 2 rfl rfl ?_
      (conv => arg 2; whnf)
      refine wp_cutR (frL [(0, .loc b 0), (1, i64V deep), (4, .loc c 0), (5, .loc d 0), (6, bV false)]) [.obj b (rfL s L a none n), .obj c exZ, .obj d (wdL ⟨4, wx, wn, wa⟩)] (.cons (.refl _) (.cons (.refl _) (.cons (.refl _) (.cons (.refl _) (.cons (Vle.viaR (cBool ((strEq _ falseL).trans (decide_eq_false hxf))) rfl) (.nil _)))))) (List.Sublist.refl _) ?_
      (conv => arg 2; whnf); refine wp_load (cs := wdL ⟨4, wx, wn, wa⟩) 2 rfl rfl ?_
      (repeat ((conv => arg 2; whnf); first | refine wp_ite (fun _ => ?_) (fun h => Bool.noConfusion h) | refine wp_ite (fun h => Bool.noConfusion h) (fun _ => ?_)))
      (conv => arg 2; whnf)
      refine wp_cutR (frL [(0, .loc b 0), (1, i64V deep), (4, .loc c 0), (5, .loc d 0), (6, bV false), (7, bV false)]) [.obj b (rfL s L a none n), .obj c exZ, .obj d (wdL ⟨4, wx, wn, wa⟩)] (.cons (.refl _) (.cons (.refl _) (.cons (.refl _) (.cons (.refl _) (.cons (.refl _) (.cons (.refl _) (.nil _))))))) (List.Sublist.refl _) ?_
      (repeat ((conv => arg 2; whnf); first | refine wp_ite (fun _ => ?_) (fun h => Bool.noConfusion h) | refine wp_ite (fun h => Bool.noConfusion h) (fun _ => ?_) | refine wp_load (cs := wdL ⟨4, wx, wn, wa⟩) 2 rfl rfl ?_ | refine wp_load (cs := rfL s L a none n) 0 rfl rfl ?_))
      (conv => arg 2; whnf); refine wp_callF [] [.obj b (rfL s L a none n)] [.obj c exZ, .obj d (wdL ⟨4, wx, wn, wa⟩)] rfl (rfails_call b s L a none n 10 (by decide)) ?_
      rintro v R1 ⟨rfl, rfl⟩
      (conv => arg 2; whnf); refine wp_storeE (cs := exZ) 1 0 (exC ex0) rfl rfl ex0_vle (Nat.le_refl _) rfl (R' := [.obj b (rfL s L a (some 10) n), .obj c (exC ex0), .obj d (wdL ⟨4, wx, wn, wa⟩)]) rfl ?_
      (conv => arg 2; whnf); refine w_ret1k (R' := [.obj b (rfL s L a (some 10) n)]) c 0 1 rfl rfl rfl rfl rfl (Vle.refl _) (by simp) ⟨ex0, _, some 10, n, rfl, ⟨a, ha, hl, rfl⟩, hS, by decide⟩
    · obtain rfl : wk = 5 := hk
      (conv => arg 2; whnf); refine wp_load (cs := wdL ⟨5, wx, wn, wa⟩) 2 rfl rfl ?_
      (repeat ((conv => arg 2; whnf); first | refine wp_ite (fun _ => ?_) (fun h => Bool.noConfusion h) | refine wp_ite (fun h => Bool.noConfusion h) (fun _ => ?_)))
      (conv => arg 2; whnf)
      refine wp_cutR (frL [(0, .loc b 0), (1, i64V deep), (4, .loc c 0), (5, .loc d 0), (6, bV false)]) [.obj b (rfL s L a none n), .obj c exZ, .obj d (wdL ⟨5, wx, wn, wa⟩)] (.cons (.refl _) (.cons (.refl _) (.cons (.refl _) (.cons (.refl _) (.cons (.refl _) (.nil _)))))) (List.Sublist.refl _) ?_
      (conv => arg 2; whnf); refine wp_load (cs := wdL ⟨5, wx, wn, wa⟩) 2 rfl rfl ?_
      (repeat ((conv => arg 2; whnf); first | refine wp_ite (fun _ => ?_) (fun h => Bool.noConfusion h) | refine wp_ite (fun h => Bool.noConfusion h) (fun _ => ?_)))
      (conv => arg 2; whnf); refine wp_load (cs := wdL ⟨5, wx, wn, wa⟩) 2 rfl rfl ?_
      (conv => arg 2; whnf)
      refine wp_cutR (frL [(0, .loc b 0), (1, i64V deep), (4, .loc c 0), (5, .loc d 0), (6, bV false), (7, bV false)]) [.obj b (rfL s L a none n), .obj c exZ, .obj d (wdL ⟨5, wx, wn, wa⟩)] (.cons (.refl _) (.cons (.refl _) (.cons (.refl _) (.cons (.refl _) (.cons (.refl _) (.cons (Vle.viaR (cBool ((strEq _ [40]).trans (decide_eq_false hxp))) rfl) (.nil _))))))) (List.Sublist.refl _) ?_
      (repeat ((conv => arg 2; whnf); first | refine wp_ite (fun _ => ?_) (fun h => Bool.noConfusion h) | refine wp_ite (fun h => Bool.noConfusion h) (fun _ => ?_) | refine wp_load (cs := wdL ⟨5, wx, wn, wa⟩) 2 rfl rfl ?_ | refine wp_load (cs := rfL s L a none n) 0 rfl rfl ?_))
      (conv => arg 2; whnf); refine wp_callF [] [.obj b (rfL s L a none n)] [.obj c exZ, .obj d (wdL ⟨5, wx, wn, wa⟩)] rfl (rfails_call b s L a none n 10 (by decide)) ?_
      rintro v R1 ⟨rfl, rfl⟩
      (conv => arg 2; whnf); refine wp_storeE (cs := exZ) 1 0 (exC ex0) rfl rfl ex0_vle (Nat.le_refl _) rfl (R' := [.obj b (rfL s L a (some 10) n), .obj c (exC ex0), .obj d (wdL ⟨5, wx, wn, wa⟩)]) rfl ?_
      (conv => arg 2; whnf); refine w_ret1k (R' := [.obj b (rfL s L a (some 10) n)]) c 0 1 rfl rfl rfl rfl rfl (Vle.refl _) (by simp) ⟨ex0, _, some 10, n, rfl, ⟨a, ha, hl, rfl⟩, hS, by decide⟩
  | true =>
  obtain ⟨w, r, rfl, hcase⟩ := begins_yes hb
  have hw := hall _ (List.mem_cons_self ..)
  obtain ⟨wk, wx, wn, wa⟩ := w
  rcases hcase with ⟨hk, hpl⟩ | hk | hk | ⟨hk, hx⟩ | ⟨hk, hx⟩ | ⟨hk, hx⟩
  · obtain rfl : wk = 2 := hk
    (conv => arg 2; whnf); refine wp_load (cs := wdL ⟨2, wx, wn, wa⟩) 2 rfl rfl ?_
    (repeat ((conv => arg 2; whnf); first | refine wp_ite (fun _ => ?_) (fun h => Bool.noConfusion h) | refine wp_ite (fun h => Bool.noConfusion h) (fun _ => ?_)))
    (conv => arg 2; whnf)
    refine wp_cutR (frL [(0, .loc b 0), (1, i64V deep), (4, .loc c 0), (5, .loc d 0), (6, bV false)]) [.obj b (rfL s L a none n), .obj c exZ, .obj d (wdL ⟨2, wx, wn, wa⟩)] (.cons (.refl _) (.cons (.refl _) (.cons (.refl _) (.cons (.refl _) (.cons (.refl _) (.nil _)))))) (List.Sublist.refl _) ?_
    (conv => arg 2; whnf); refine wp_load (cs := wdL ⟨2, wx, wn, wa⟩) 2 rfl rfl ?_
    (repeat ((conv => arg 2; whnf); first | refine wp_ite (fun _ => ?_) (fun h => Bool.noConfusion h) | refine wp_ite (fun h => Bool.noConfusion h) (fun _ => ?_)))
    (conv => arg 2; whnf)
    refine wp_cutR (frL [(0, .loc b 0), (1, i64V deep), (4, .loc c 0), (5, .loc d 0), (6, bV false), (7, bV false)]) [.obj b (rfL s L a none n), .obj c exZ, .obj d (wdL ⟨2, wx, wn, wa⟩)] (.cons (.refl _) (.cons (.refl _) (.cons (.refl _) (.cons (.refl _) (.cons (.refl _) (.cons (.refl _) (.nil _))))))) (List.Sublist.refl _) ?_
    (repeat ((conv => arg 2; whnf); first | refine wp_ite (fun _ => ?_) (fun h => Bool.noConfusion h) | refine wp_ite (fun h => Bool.noConfusion h) (fun _ => ?_) | refine wp_load (cs := wdL ⟨2, wx, wn, wa⟩) 2 rfl rfl ?_ | refine wp_load (cs := rfL s L a none n) 0 rfl rfl ?_))
    (conv => arg 2; whnf); refine wp_callF [] [.obj b (rfL s L a none n)] [.obj c exZ, .obj d (wdL ⟨2, wx, wn, wa⟩)] rfl (rplain_call b s L a none n ⟨2, wx, wn, wa⟩ hs hw) ?_
    rintro v R1 ⟨rfl, rfl⟩
    rw [hpl]
    (repeat ((conv => arg 2; whnf); first | refine wp_ite (fun _ => ?_) (fun h => Bool.noConfusion h) | refine wp_ite (fun h => Bool.noConfusion h) (fun _ => ?_)))
    (conv => arg 2; whnf)
    refine wp_cutR (frL [(0, .loc b 0), (1, i64V deep), (4, .loc c 0), (5, .loc d 0), (6, bV (decide (Wd.kind ⟨2, wx, wn, wa⟩ = 4)))]) [.obj b (rfL s L a none n), .obj c exZ, .obj d (wdL ⟨2, wx, wn, wa⟩)] (.cons (.refl _) (.cons (.refl _) (.cons (.refl _) (.cons (.refl _) (.cons (.refl _) (.nil _)))))) (List.Sublist.refl _) ?_
    (conv => arg 2; whnf); refine wp_load (cs := rfL s L a none n) 0 rfl rfl ?_
    (conv => arg 2; whnf); refine wp_storeE (cs := rfL s L a none n) 0 3 [i64V ((n + 1 : Nat) : Int)] rfl rfl (.cons (Vle.inc n rfl (by omega)) .nil) (Nat.le_of_ble_eq_true rfl) rfl (R' := [.obj b (rfL s L a none (n + 1)), .obj c exZ, .obj d (wdL ⟨2, wx, wn, wa⟩)]) rfl ?_
    (conv => arg 2; whnf); refine wp_ite (fun _ => ?_) (fun h => absurd (of_decide_eq_false h) (by omega))
    (repeat ((conv => arg 2; whnf); first | refine wp_ite (fun _ => ?_) (fun h => Bool.noConfusion h) | refine wp_ite (fun h => Bool.noConfusion h) (fun _ => ?_)))
    (conv => arg 2; whnf); refine wp_callF [] [.obj b (rfL s L a none (n + 1))] [.obj c exZ, .obj d (wdL ⟨2, wx, wn, wa⟩)] rfl (rfails_call b s L a none (n + 1) 12 (by decide)) ?_
    rintro v R1 ⟨rfl, rfl⟩
    (conv => arg 2; whnf); refine wp_storeE (cs := exZ) 1 0 (exC ex0) rfl rfl ex0_vle (Nat.le_refl _) rfl (R' := [.obj b (rfL s L a (some 12) (n + 1)), .obj c (exC ex0), .obj d (wdL ⟨2, wx, wn, wa⟩)]) rfl ?_
    (conv => arg 2; whnf); refine w_ret1k (R' := [.obj b (rfL s L a (some 12) (n + 1))]) c 0 1 rfl rfl rfl rfl rfl (Vle.refl _) (by simp) ⟨ex0, _, some 12, n + 1, rfl, ⟨a, ha, hl, rfl⟩, by rw [nodeE_deep hb]; exact Sim.err, by decide⟩
  · obtain rfl : wk = 3 := hk
    (conv => arg 2; whnf); refine wp_load (cs := wdL ⟨3, wx, wn, wa⟩) 2 rfl rfl ?_
    (repeat ((conv => arg 2; whnf); first | refine wp_ite (fun _ => ?_) (fun h => Bool.noConfusion h) | refine wp_ite (fun h => Bool.noConfusion h) (fun _ => ?_)))
    (conv => arg 2; whnf)
    refine wp_cutR (frL [(0, .loc b 0), (1, i64V deep), (4, .loc c 0), (5, .loc d 0), (6, bV false)]) [.obj b (rfL s L a none n), .obj c exZ, .obj d (wdL ⟨3, wx, wn, wa⟩)] (.cons (.refl _) (.cons (.refl _) (.cons (.refl _) (.cons (.refl _) (.cons (.refl _) (.nil _)))))) (List.Sublist.refl _) ?_
    (conv => arg 2; whnf); refine wp_load (cs := wdL ⟨3, wx, wn, wa⟩) 2 rfl rfl ?_
    (repeat ((conv => arg 2; whnf); first | refine wp_ite (fun _ => ?_) (fun h => Bool.noConfusion h) | refine wp_ite (fun h => Bool.noConfusion h) (fun _ => ?_)))
    (conv => arg 2; whnf)
    refine wp_cutR (frL [(0, .loc b 0), (1, i64V deep), (4, .loc c 0), (5, .loc d 0), (6, bV false), (7, bV false)]) [.obj b (rfL s L a none n), .obj c exZ, .obj d (wdL ⟨3, wx, wn, wa⟩)] (.cons (.refl _) (.cons (.refl _) (.cons (.refl _) (.cons (.refl _) (.cons (.refl _) (.cons (.refl _) (.nil _))))))) (List.Sublist.refl _) ?_
    (repeat ((conv => arg 2; whnf); first | refine wp_ite (fun _ => ?_) (fun h => Bool.noConfusion h) | refine wp_ite (fun h => Bool.noConfusion h) (fun _ => ?_) | refine wp_load (cs := wdL ⟨3, wx, wn, wa⟩) 2 rfl rfl ?_ | refine wp_load (cs := rfL s L a none n) 0 rfl rfl ?_))
    (conv => arg 2; whnf)
    refine wp_cutR (frL [(0, .loc b 0), (1, i64V deep), (4, .loc c 0), (5, .loc d 0), (6, bV (decide (Wd.kind ⟨3, wx, wn, wa⟩ = 4)))]) [.obj b (rfL s L a none n), .obj c exZ, .obj d (wdL ⟨3, wx, wn, wa⟩)] (.cons (.refl _) (.cons (.refl _) (.cons (.refl _) (.cons (.refl _) (.cons (.refl _) (.nil _)))))) (List.Sublist.refl _) ?_
    (conv => arg 2; whnf); refine wp_load (cs := rfL s L a none n) 0 rfl rfl ?_
    (conv => arg 2; whnf); refine wp_storeE (cs := rfL s L a none n) 0 3 [i64V ((n + 1 : Nat) : Int)] rfl rfl (.cons (Vle.inc n rfl (by omega)) .nil) (Nat.le_of_ble_eq_true rfl) rfl (R' := [.obj b (rfL s L a none (n + 1)), .obj c exZ, .obj d (wdL ⟨3, wx, wn, wa⟩)]) rfl ?_
    (conv => arg 2; whnf); refine wp_ite (fun _ => ?_) (fun h => absurd (of_decide_eq_false h) (by omega))
    (repeat ((conv => arg 2; whnf); first | refine wp_ite (fun _ => ?_) (fun h => Bool.noConfusion h) | refine wp_ite (fun h => Bool.noConfusion h) (fun _ => ?_)))
    (conv => arg 2; whnf); refine wp_callF [] [.obj b (rfL s L a none (n + 1))] [.obj c exZ, .obj d (wdL ⟨3, wx, wn, wa⟩)] rfl (rfails_call b s L a none (n + 1) 12 (by decide)) ?_
    rintro v R1 ⟨rfl, rfl⟩
    (conv => arg 2; whnf); refine wp_storeE (cs := exZ) 1 0 (exC ex0) rfl rfl ex0_vle (Nat.le_refl _) rfl (R' := [.obj b (rfL s L a (some 12) (n + 1)), .obj c (exC ex0), .obj d (wdL ⟨3, wx, wn, wa⟩)]) rfl ?_
    (conv => arg 2; whnf); refine w_ret1k (R' := [.obj b (rfL s L a (some 12) (n + 1))]) c 0 1 rfl rfl rfl rfl rfl (Vle.refl _) (by simp) ⟨ex0, _, some 12, n + 1, rfl, ⟨a, ha, hl, rfl⟩, by rw [nodeE_deep hb]; exact Sim.err, by decide⟩
  · obtain rfl : wk = 1 := hk
    (conv => arg 2; whnf); refine wp_load (cs := wdL ⟨1, wx, wn, wa⟩) 2 rfl rfl ?_
    (repeat ((conv => arg 2; whnf); first | refine wp_ite (fun _ => ?_) (fun h => Bool.noConfusion h) | refine wp_ite (fun h => Bool.noConfusion h) (fun _ => ?_)))
    (conv => arg 2; whnf)
    refine wp_cutR (frL [(0, .loc b 0), (1, i64V deep), (4, .loc c 0), (5, .loc d 0), (6, bV false)]) [.obj b (rfL s L a none n), .obj c exZ, .obj d (wdL ⟨1, wx, wn, wa⟩)] (.cons (.refl _) (.cons (.refl _) (.cons (.refl _) (.cons (.refl _) (.cons (.refl _) (.nil _)))))) (List.Sublist.refl _) ?_
    (conv => arg 2; whnf); refine wp_load (cs := wdL ⟨1, wx, wn, wa⟩) 2 rfl rfl ?_
    (repeat ((conv => arg 2; whnf); first | refine wp_ite (fun _ => ?_) (fun h => Bool.noConfusion h) | refine wp_ite (fun h => Bool.noConfusion h) (fun _ => ?_)))
    (conv => arg 2; whnf)
    refine wp_cutR (frL [(0, .loc b 0), (1, i64V deep), (4, .loc c 0), (5, .loc d 0), (6, bV false), (7, bV false)]) [.obj b (rfL s L a none n), .obj c exZ, .obj d (wdL ⟨1, wx, wn, wa⟩)] (.cons (.refl _) (.cons (.refl _) (.cons (.refl _) (.cons (.refl _) (.cons (.refl _) (.cons (.refl _) (.nil _))))))) (List.Sublist.refl _) ?_
    (repeat ((conv => arg 2; whnf); first | refine wp_ite (fun _ => ?_) (fun h => Bool.noConfusion h) | refine wp_ite (fun h => Bool.noConfusion h) (fun _ => ?_) | refine wp_load (cs := wdL ⟨1, wx, wn, wa⟩) 2 rfl rfl ?_ | refine wp_load (cs := rfL s L a none n) 0 rfl rfl ?_))
    (conv => arg 2; whnf)
    refine wp_cutR (frL [(0, .loc b 0), (1, i64V deep), (4, .loc c 0), (5, .loc d 0), (6, bV (decide (Wd.kind ⟨1, wx, wn, wa⟩ = 4)))]) [.obj b (rfL s L a none n), .obj c exZ, .obj d (wdL ⟨1, wx, wn, wa⟩)] (.cons (.refl _) (.cons (.refl _) (.cons (.refl _) (.cons (.refl _) (.cons (.refl _) (.nil _)))))) (List.Sublist.refl _) ?_
    (conv => arg 2; whnf); refine wp_load (cs := rfL s L a none n) 0 rfl rfl ?_
    (conv => arg 2; whnf); refine wp_storeE (cs := rfL s L a none n) 0 3 [i64V ((n + 1 : Nat) : Int)] rfl rfl (.cons (Vle.inc n rfl (by omega)) .nil) (Nat.le_of_ble_eq_true rfl) rfl (R' := [.obj b (rfL s L a none (n + 1)), .obj c exZ, .obj d (wdL ⟨1, wx, wn, wa⟩)]) rfl ?_
    (conv => arg 2; whnf); refine wp_ite (fun _ => ?_) (fun h => absurd (of_decide_eq_false h) (by omega))
    (repeat ((conv => arg 2; whnf); first | refine wp_ite (fun _ => ?_) (fun h => Bool.noConfusion h) | refine wp_ite (fun h => Bool.noConfusion h) (fun _ => ?_)))
    (conv => arg 2; whnf); refine wp_callF [] [.obj b (rfL s L a none (n + 1))] [.obj c exZ, .obj d (wdL ⟨1, wx, wn, wa⟩)] rfl (rfails_call b s L a none (n + 1) 12 (by decide)) ?_
    rintro v R1 ⟨rfl, rfl⟩
    (conv => arg 2; whnf); refine wp_storeE (cs := exZ) 1 0 (exC ex0) rfl rfl ex0_vle (Nat.le_refl _) rfl (R' := [.obj b (rfL s L a (some 12) (n + 1)), .obj c (exC ex0), .obj d (wdL ⟨1, wx, wn, wa⟩)]) rfl ?_
    (conv => arg 2; whnf); refine w_ret1k (R' := [.obj b (rfL s L a (some 12) (n + 1))]) c 0 1 rfl rfl rfl rfl rfl (Vle.refl _) (by simp) ⟨ex0, _, some 12, n + 1, rfl, ⟨a, ha, hl, rfl⟩, by rw [nodeE_deep hb]; exact Sim.err, by decide⟩
  · obtain rfl : wk = 4 := hk
    obtain rfl : wx = trueL := hx
    (conv => arg 2; whnf); refine wp_load (cs := wdL ⟨4, trueL, wn, wa⟩) 2 rfl rfl ?_
    (repeat ((conv => arg 2; whnf); first | refine wp_ite (fun _ => ?_) (fun h => Bool.noConfusion h) | refine wp_ite (fun h => Bool.noConfusion h) (fun _ => ?_)))
    (conv => arg 2; whnf); refine wp_load (cs := wdL ⟨4, trueL, wn, wa⟩) 2 rfl rfl ?_
    (conv => arg 2; whnf); refine wp_ite (fun _ => ?_) (fun h => (eqR9 (a := trueL) (b := trueL) rfl h).elim)
    (repeat ((conv => arg 2; whnf); first | refine wp_ite (fun _ => ?_) (fun h => Bool.noConfusion h) | refine wp_ite (fun h => Bool.noConfusion h) (fun _ => ?_)))
    (conv => arg 2; whnf)
    refine wp_cutR (frL [(0, .loc b 0), (1, i64V deep), (4, .loc c 0), (5, .loc d 0), (6, bV true)]) [.obj b (rfL s L a none n), .obj c exZ, .obj d (wdL ⟨4, trueL, wn, wa⟩)] (.cons (.refl _) (.cons (.refl _) (.cons (.refl _) (.cons (.refl _) (.cons (.refl _) (.nil _)))))) (List.Sublist.refl _) ?_
    (conv => arg 2; whnf); refine wp_load (cs := wdL ⟨4, trueL, wn, wa⟩) 2 rfl rfl ?_
    (repeat ((conv => arg 2; whnf); first | refine wp_ite (fun _ => ?_) (fun h => Bool.noConfusion h) | refine wp_ite (fun h => Bool.noConfusion h) (fun _ => ?_)))
    (conv => arg 2; whnf)
    refine wp_cutR (frL [(0, .loc b 0), (1, i64V deep), (4, .loc c 0), (5, .loc d 0), (6, bV true), (7, bV false)]) [.obj b (rfL s L a none n), .obj c exZ, .obj d (wdL ⟨4, trueL, wn, wa⟩)] (.cons (.refl _) (.cons (.refl _) (.cons (.refl _) (.cons (.refl _) (.cons (.refl _) (.cons (.refl _) (.nil _))))))) (List.Sublist.refl _) ?_
    (repeat ((conv => arg 2; whnf); first | refine wp_ite (fun _ => ?_) (fun h => Bool.noConfusion h) | refine wp_ite (fun h => Bool.noConfusion h) (fun _ => ?_) | refine wp_load (cs := wdL ⟨4, trueL, wn, wa⟩) 2 rfl rfl ?_ | refine wp_load (cs := rfL s L a none n) 0 rfl rfl ?_))
    (conv => arg 2; whnf)
    refine wp_cutR (frL [(0, .loc b 0), (1, i64V deep), (4, .loc c 0), (5, .loc d 0), (6, bV (decide (Wd.kind ⟨4, trueL, wn, wa⟩ = 4)))]) [.obj b (rfL s L a none n), .obj c exZ, .obj d (wdL ⟨4, trueL, wn, wa⟩)] (.cons (.refl _) (.cons (.refl _) (.cons (.refl _) (.cons (.refl _) (.cons (.refl _) (.nil _)))))) (List.Sublist.refl _) ?_
    (conv => arg 2; whnf); refine wp_load (cs := rfL s L a none n) 0 rfl rfl ?_
    (conv => arg 2; whnf); refine wp_storeE (cs := rfL s L a none n) 0 3 [i64V ((n + 1 : Nat) : Int)] rfl rfl (.cons (Vle.inc n rfl (by omega)) .nil) (Nat.le_of_ble_eq_true rfl) rfl (R' := [.obj b (rfL s L a none (n + 1)), .obj c exZ, .obj d (wdL ⟨4, trueL, wn, wa⟩)]) rfl ?_
    (conv => arg 2; whnf); refine wp_ite (fun _ => ?_) (fun h => absurd (of_decide_eq_false h) (by omega))
    (repeat ((conv => arg 2; whnf); first | refine wp_ite (fun _ => ?_) (fun h => Bool.noConfusion h) | refine wp_ite (fun h => Bool.noConfusion h) (fun _ => ?_)))
    (conv => arg 2; whnf); refine wp_callF [] [.obj b (rfL s L a none (n + 1))] [.obj c exZ, .obj d (wdL ⟨4, trueL, wn, wa⟩)] rfl (rfails_call b s L a none (n + 1) 12 (by decide)) ?_
    rintro v R1 ⟨rfl, rfl⟩
    (conv => arg 2; whnf); refine wp_storeE (cs := exZ) 1 0 (exC ex0) rfl rfl ex0_vle (Nat.le_refl _) rfl (R' := [.obj b (rfL s L a (some 12) (n + 1)), .obj c (exC ex0), .obj d (wdL ⟨4, trueL, wn, wa⟩)]) rfl ?_
    (conv => arg 2; whnf); refine w_ret1k (R' := [.obj b (rfL s L a (some 12) (n + 1))]) c 0 1 rfl rfl rfl rfl rfl (Vle.refl _) (by simp) ⟨ex0, _, some 12, n + 1, rfl, ⟨a, ha, hl, rfl⟩, by rw [nodeE_deep hb]; exact Sim.err, by decide⟩
  · obtain rfl : wk = 4 := hk
    obtain rfl : wx = falseL := hx
    (conv => arg 2; whnf); refine wp_load (cs := wdL ⟨4, falseL, wn, wa⟩) 2 rfl rfl ?_
    (repeat ((conv => arg 2; whnf); first | refine wp_ite (fun _ => ?_) (fun h => Bool.noConfusion h) | refine wp_ite (fun h => Bool.noConfusion h) (fun _ => ?_)))
    (conv => arg 2; whnf); refine wp_load (cs := wdL ⟨4, falseL, wn, wa⟩) 2 rfl rfl ?_
    (conv => arg 2; whnf); refine wp_ite (fun h => (neF9 (a := falseL) (b := trueL) (by decide) h).elim) (fun _ => ?_)
    (conv => arg 2; whnf); refine wp_load (cs := wdL ⟨4, falseL, wn, wa⟩) 2 rfl rfl ?_
    (conv => arg 2; whnf)
    refine wp_cutR (frL [(0, .loc b 0), (1, i64V deep), (4, .loc c 0), (5, .loc d 0), (6, bV true)]) [.obj b (rfL s L a none n), .obj c exZ, .obj d (wdL ⟨4, falseL, wn, wa⟩)] (.cons (.refl _) (.cons (.refl _) (.cons (.refl _) (.cons (.refl _) (.cons (Vle.viaR (cBool ((strEq falseL falseL).trans (decide_eq_true rfl))) rfl) (.nil _)))))) (List.Sublist.refl _) ?_
    (conv => arg 2; whnf); refine wp_load (cs := wdL ⟨4, falseL, wn, wa⟩) 2 rfl rfl ?_
    (repeat ((conv => arg 2; whnf); first | refine wp_ite (fun _ => ?_) (fun h => Bool.noConfusion h) | refine wp_ite (fun h => Bool.noConfusion h) (fun _ => ?_)))
    (conv => arg 2; whnf)
    refine wp_cutR (frL [(0, .loc b 0), (1, i64V deep), (4, .loc c 0), (5, .loc d 0), (6, bV true), (7, bV false)]) [.obj b (rfL s L a none n), .obj c exZ, .obj d (wdL ⟨4, falseL, wn, wa⟩)] (.cons (.refl _) (.cons (.refl _) (.cons (.refl _) (.cons (.refl _) (.cons (.refl _) (.cons (.refl _) (.nil _))))))) (List.Sublist.refl _) ?_
    (repeat ((conv => arg 2; whnf); first | refine wp_ite (fun _ => ?_) (fun h => Bool.noConfusion h) | refine wp_ite (fun h => Bool.noConfusion h) (fun _ => ?_) | refine wp_load (cs := wdL ⟨4, falseL, wn, wa⟩) 2 rfl rfl ?_ | refine wp_load (cs := rfL s L a none n) 0 rfl rfl ?_))
    (conv => arg 2; whnf)
    refine wp_cutR (frL [(0, .loc b 0), (1, i64V deep), (4, .loc c 0), (5, .loc d 0), (6, bV (decide (Wd.kind ⟨4, falseL, wn, wa⟩ = 4)))]) [.obj b (rfL s L a none n), .obj c exZ, .obj d (wdL ⟨4, falseL, wn, wa⟩)] (.cons (.refl _) (.cons (.refl _) (.cons (.refl _) (.cons (.refl _) (.cons (.refl _) (.nil _)))))) (List.Sublist.refl _) ?_
    (conv => arg 2; whnf); refine wp_load (cs := rfL s L a none n) 0 rfl rfl ?_
    (conv => arg 2; whnf); refine wp_storeE (cs := rfL s L a none n) 0 3 [i64V ((n + 1 : Nat) : Int)] rfl rfl (.cons (Vle.inc n rfl (by omega)) .nil) (Nat.le_of_ble_eq_true rfl) rfl (R' := [.obj b (rfL s L a none (n + 1)), .obj c exZ, .obj d (wdL ⟨4, falseL, wn, wa⟩)]) rfl ?_
    (conv => arg 2; whnf); refine wp_ite (fun _ => ?_) (fun h => absurd (of_decide_eq_false h) (by omega))
    (repeat ((conv => arg 2; whnf); first | refine wp_ite (fun _ => ?_) (fun h => Bool.noConfusion h) | refine wp_ite (fun h => Bool.noConfusion h) (fun _ => ?_)))
    (conv => arg 2; whnf); refine wp_callF [] [.obj b (rfL s L a none (n + 1))] [.obj c exZ, .obj d (wdL ⟨4, falseL, wn, wa⟩)] rfl (rfails_call b s L a none (n + 1) 12 (by decide)) ?_
    rintro v R1 ⟨rfl, rfl⟩
    (conv => arg 2; whnf); refine wp_storeE (cs := exZ) 1 0 (exC ex0) rfl rfl ex0_vle (Nat.le_refl _) rfl (R' := [.obj b (rfL s L a (some 12) (n + 1)), .obj c (exC ex0), .obj d (wdL ⟨4, falseL, wn, wa⟩)]) rfl ?_
    (conv => arg 2; whnf); refine w_ret1k (R' := [.obj b (rfL s L a (some 12) (n + 1))]) c 0 1 rfl rfl rfl rfl rfl (Vle.refl _) (by simp) ⟨ex0, _, some 12, n + 1, rfl, ⟨a, ha, hl, rfl⟩, by rw [nodeE_deep hb]; exact Sim.err, by decide⟩
  · obtain rfl : wk = 5 := hk
    obtain rfl : wx = [40] := hx
    (conv => arg 2; whnf); refine wp_load (cs := wdL ⟨5, [40], wn, wa⟩) 2 rfl rfl ?_
    (repeat ((conv => arg 2; whnf); first | refine wp_ite (fun _ => ?_) (fun h => Bool.noConfusion h) | refine wp_ite (fun h => Bool.noConfusion h) (fun _ => ?_)))
    (conv => arg 2; whnf)
    refine wp_cutR (frL [(0, .loc b 0), (1, i64V deep), (4, .loc c 0), (5, .loc d 0), (6, bV false)]) [.obj b (rfL s L a none n), .obj c exZ, .obj d (wdL ⟨5, [40], wn, wa⟩)] (.cons (.refl _) (.cons (.refl _) (.cons (.refl _) (.cons (.refl _) (.cons (.refl _) (.nil _)))))) (List.Sublist.refl _) ?_
    (conv => arg 2; whnf); refine wp_load (cs := wdL ⟨5, [40], wn, wa⟩) 2 rfl rfl ?_
    (repeat ((conv => arg 2; whnf); first | refine wp_ite (fun _ => ?_) (fun h => Bool.noConfusion h) | refine wp_ite (fun h => Bool.noConfusion h) (fun _ => ?_)))
    (conv => arg 2; whnf); refine wp_load (cs := wdL ⟨5, [40], wn, wa⟩) 2 rfl rfl ?_
    (conv => arg 2; whnf)
    refine wp_cutR (frL [(0, .loc b 0), (1, i64V deep), (4, .loc c 0), (5, .loc d 0), (6, bV false), (7, bV true)]) [.obj b (rfL s L a none n), .obj c exZ, .obj d (wdL ⟨5, [40], wn, wa⟩)] (.cons (.refl _) (.cons (.refl _) (.cons (.refl _) (.cons (.refl _) (.cons (.refl _) (.cons (Vle.viaR (cBool ((strEq [40] [40]).trans (decide_eq_true rfl))) rfl) (.nil _))))))) (List.Sublist.refl _) ?_
    (repeat ((conv => arg 2; whnf); first | refine wp_ite (fun _ => ?_) (fun h => Bool.noConfusion h) | refine wp_ite (fun h => Bool.noConfusion h) (fun _ => ?_) | refine wp_load (cs := wdL ⟨5, [40], wn, wa⟩) 2 rfl rfl ?_ | refine wp_load (cs := rfL s L a none n) 0 rfl rfl ?_))
    (conv => arg 2; whnf)
    refine wp_cutR (frL [(0, .loc b 0), (1, i64V deep), (4, .loc c 0), (5, .loc d 0), (6, bV (decide (Wd.kind ⟨5, [40], wn, wa⟩ = 4)))]) [.obj b (rfL s L a none n), .obj c exZ, .obj d (wdL ⟨5, [40], wn, wa⟩)] (.cons (.refl _) (.cons (.refl _) (.cons (.refl _) (.cons (.refl _) (.cons (.refl _) (.nil _)))))) (List.Sublist.refl _) ?_
    (conv => arg 2; whnf); refine wp_load (cs := rfL s L a none n) 0 rfl rfl ?_
    (conv => arg 2; whnf); refine wp_storeE (cs := rfL s L a none n) 0 3 [i64V ((n + 1 : Nat) : Int)] rfl rfl (.cons (Vle.inc n rfl (by omega)) .nil) (Nat.le_of_ble_eq_true rfl) rfl (R' := [.obj b (rfL s L a none (n + 1)), .obj c exZ, .obj d (wdL ⟨5, [40], wn, wa⟩)]) rfl ?_
    (conv => arg 2; whnf); refine wp_ite (fun _ => ?_) (fun h => absurd (of_decide_eq_false h) (by omega))
    (repeat ((conv => arg 2; whnf); first | refine wp_ite (fun _ => ?_) (fun h => Bool.noConfusion h) | refine wp_ite (fun h => Bool.noConfusion h) (fun _ => ?_)))
    (conv => arg 2; whnf); refine wp_callF [] [.obj b (rfL s L a none (n + 1))] [.obj c exZ, .obj d (wdL ⟨5, [40], wn, wa⟩)] rfl (rfails_call b s L a none (n + 1) 12 (by decide)) ?_
    rintro v R1 ⟨rfl, rfl⟩
    (conv => arg 2; whnf); refine wp_storeE (cs := exZ) 1 0 (exC ex0) rfl rfl ex0_vle (Nat.le_refl _) rfl (R' := [.obj b (rfL s L a (some 12) (n + 1)), .obj c (exC ex0), .obj d (wdL ⟨5, [40], wn, wa⟩)]) rfl ?_
    (conv => arg 2; whnf); refine w_ret1k (R' := [.obj b (rfL s L a (some 12) (n + 1))]) c 0 1 rfl rfl rfl rfl rfl (Vle.refl _) (by simp) ⟨ex0, _, some 12, n + 1, rfl, ⟨a, ha, hl, rfl⟩, by rw [nodeE_deep hb]; exact Sim.err, by decide⟩

set_option maxRecDepth 100000 in
set_option maxHeartbeats 4000000 in
theorem rexpr_succ (b : Nat) (s : List UInt8) (hs : s.length < 2 ^ 40) (L : List Wd) (hL : L.length < 2 ^ 40) (k deep : Nat) (hd : deep ≤ 5)
    (ih : ∀ (a : Nat) (l : List Wd) (n : Nat) (ha : a ≤ L.length) (hl : L.drop a = l) (hn24 : n ≤ 24) (hall : AllOk s.length l), SCall Tryz.prog 33 [.loc b 0, i64V ((deep + 1 : Nat) : Int)] [.obj b (rfL s L a none n)] (RK exC b s L (nodeE s k l n)))
    (a : Nat) (l : List Wd) (n : Nat) (ha : a ≤ L.length) (hl : L.drop a = l) (hn24 : n ≤ 24) (hall : AllOk s.length l) : SCall Tryz.prog 33 [.loc b 0, i64V (deep : Int)] [.obj b (rfL s L a none n)] (RK exC b s L (nodeE s (k + 1) l n)) := by
  have hp := peek_call b s L l a none n ha hl
  refine scall_of (live := [137, 139, 13800000, 10013900000]) (ords := [(2, []), (3, []), (4, []), (7, []), (12, []), (23, [2, 0, 1, 3, 4, 5, 6]), (28, []), (30, []), (35, []), (38, [])]) Tryz.func33 rfl (by kernel_rfl) (by kernel_rfl) (Nat.le_of_ble_eq_true rfl) ?_
  (conv => arg 2; whnf); refine wp_allocE exZ rfl fun c => ?_
  (conv => arg 2; whnf); refine wp_callF [] [.obj b (rfL s L a none n)] [.obj c exZ] rfl hp ?_
  rintro v R1 ⟨rfl, rfl⟩
  (conv => arg 2; whnf); refine wp_allocD (wdL wd0) rfl fun d hfr => ?_
  have hne : d ≠ b := fun e => hfr 0 b _ rfl (List.cons_ne_nil _ _) e.symm
  clear hfr
  (conv => arg 2; whnf); refine wp_storeE (cs := wdL wd0) 2 0 (wdL (l.headD wd0)) rfl rfl (VleL.refl _) (Nat.le_refl _) rfl (R' := [.obj b (rfL s L a none n), .obj c exZ, .obj d (wdL (l.headD wd0))]) rfl ?_
  (conv => arg 2; whnf)
  refine wp_cutR (frL [(0, .loc b 0), (1, i64V deep), (4, .loc c 0), (5, .loc d 0)]) [.obj b (rfL s L a none n), .obj c exZ, .obj d (wdL (l.headD wd0))] (.cons (.refl _) (.cons (.refl _) (.cons (.refl _) (.cons (.refl _) (.nil _))))) (List.Sublist.refl _) ?_
  cases hb : beginsW s l with
  | false =>
    have hS : Sim (nodeE s (k + 1) l n) ex0 l (some 10) n := by rw [nodeE_nb hb]; exact Sim.err
    rcases begins_no hall hb with rfl | ⟨⟨wk, wx, wn, wa⟩, r, rfl, ⟨hk, hpl⟩ | ⟨hk, hxt, hxf⟩ | ⟨hk, hxp⟩⟩
    · skip
      (conv => arg 2; whnf); refine wp_load (cs := wdL wd0) 2 rfl rfl ?_
      (repeat ((conv => arg 2; whnf); first | refine wp_ite (fun _ => ?_) (fun h => Bool.noConfusion h) | refine wp_ite (fun h => Bool.noConfusion h) (fun _ => ?_)))
      (conv => arg 2; whnf)
      refine wp_cutR (frL [(0, .loc b 0), (1, i64V deep), (4, .loc c 0), (5, .loc d 0), (6, bV false)]) [.obj b (rfL s L a none n), .obj c exZ, .obj d (wdL wd0)] (.cons (.refl _) (.cons (.refl _) (.cons (.refl _) (.cons (.refl _) (.cons (.refl _) (.nil _)))))) (List.Sublist.refl _) ?_
      (conv => arg 2; whnf); refine wp_load (cs := wdL wd0) 2 rfl rfl ?_
      (repeat ((conv => arg 2; whnf); first | refine wp_ite (fun _ => ?_) (fun h => Bool.noConfusion h) | refine wp_ite (fun h => Bool.noConfusion h) (fun _ => ?_)))
      (conv => arg 2; whnf)
      refine wp_cutR (frL [(0, .loc b 0), (1, i64V deep), (4, .loc c 0), (5, .loc d 0), (6, bV false), (7, bV false)]) [.obj b (rfL s L a none n), .obj c exZ, .obj d (wdL wd0)] (.cons (.refl _) (.cons (.refl _) (.cons (.refl _) (.cons (.refl _) (.cons (.refl _) (.cons (.refl _) (.nil _))))))) (List.Sublist.refl _) ?_
      (repeat ((conv => arg 2; whnf); first | refine wp_ite (fun _ => ?_) (fun h => Bool.noConfusion h) | refine wp_ite (fun h => Bool.noConfusion h) (fun _ => ?_) | refine wp_load (cs := wdL wd0) 2 rfl rfl ?_ | refine wp_load (cs := rfL s L a none n) 0 rfl rfl ?_))
      (conv => arg 2; whnf); refine wp_callF [] [.obj b (rfL s L a none n)] [.obj c exZ, .obj d (wdL wd0)] rfl (rfails_call b s L a none n 10 (by decide)) ?_
      rintro v R1 ⟨rfl, rfl⟩
      (conv => arg 2; whnf); refine wp_storeE (cs := exZ) 1 0 (exC ex0) rfl rfl ex0_vle (Nat.le_refl _) rfl (R' := [.obj b (rfL s L a (some 10) n), .obj c (exC ex0), .obj d (wdL wd0)]) rfl ?_
      (conv => arg 2; whnf); refine w_ret1k (R' := [.obj b (rfL s L a (some 10) n)]) c 0 1 rfl rfl rfl rfl rfl (Vle.refl _) (by simp) ⟨ex0, _, some 10, n, rfl, ⟨a, ha, hl, rfl⟩, hS, by decide⟩
    · obtain rfl : wk = 2 := hk
      have hw := hall _ (List.mem_cons_self ..)
      (conv => arg 2; whnf); refine wp_load (cs := wdL ⟨2, wx, wn, wa⟩) 2 rfl rfl ?_
      (repeat ((conv => arg 2; whnf); first | refine wp_ite (fun _ => ?_) (fun h => Bool.noConfusion h) | refine wp_ite (fun h => Bool.noConfusion h) (fun _ => ?_)))
      (conv => arg 2; whnf)
      refine wp_cutR (frL [(0, .loc b 0), (1, i64V deep), (4, .loc c 0), (5, .loc d 0), (6, bV false)]) [.obj b (rfL s L a none n), .obj c exZ, .obj d (wdL ⟨2, wx, wn, wa⟩)] (.cons (.refl _) (.cons (.refl _) (.cons (.refl _) (.cons (.refl _) (.cons (.refl _) (.nil _)))))) (List.Sublist.refl _) ?_
      (conv => arg 2; whnf); refine wp_load (cs := wdL ⟨2, wx, wn, wa⟩) 2 rfl rfl ?_
      (repeat ((conv => arg 2; whnf); first | refine wp_ite (fun _ => ?_) (fun h => Bool.noConfusion h) | refine wp_ite (fun h => Bool.noConfusion h) (fun _ => ?_)))
      (conv => arg 2; whnf)
      refine wp_cutR (frL [(0, .loc b 0), (1, i64V deep), (4, .loc c 0), (5, .loc d 0), (6, bV false), (7, bV false)]) [.obj b (rfL s L a none n), .obj c exZ, .obj d (wdL ⟨2, wx, wn, wa⟩)] (.cons (.refl _) (.cons (.refl _) (.cons (.refl _) (.cons (.refl _) (.cons (.refl _) (.cons (.refl _) (.nil _))))))) (List.Sublist.refl _) ?_
      (repeat ((conv => arg 2; whnf); first | refine wp_ite (fun _ => ?_) (fun h => Bool.noConfusion h) | refine wp_ite (fun h => Bool.noConfusion h) (fun _ => ?_) | refine wp_load (cs := wdL ⟨2, wx, wn, wa⟩) 2 rfl rfl ?_ | refine wp_load (cs := rfL s L a none n) 0 rfl rfl ?_))
      (conv => arg 2; whnf); refine wp_callF [] [.obj b (rfL s L a none n)] [.obj c exZ, .obj d (wdL ⟨2, wx, wn, wa⟩)] rfl (rplain_call b s L a none n ⟨2, wx, wn, wa⟩ hs hw) ?_
      rintro v R1 ⟨rfl, rfl⟩
      rw [hpl]
      (repeat ((conv => arg 2; whnf); first | refine wp_ite (fun _ => ?_) (fun h => Bool.noConfusion h) | refine wp_ite (fun h => Bool.noConfusion h) (fun _ => ?_)))
      (conv => arg 2; whnf); refine wp_callF [] [.obj b (rfL s L a none n)] [.obj c exZ, .obj d (wdL ⟨2, wx, wn, wa⟩)] rfl (rfails_call b s L a none n 10 (by decide)) ?_
      rintro v R1 ⟨rfl, rfl⟩
      (conv => arg 2; whnf); refine wp_storeE (cs := exZ) 1 0 (exC ex0) rfl rfl ex0_vle (Nat.le_refl _) rfl (R' := [.obj b (rfL s L a (some 10) n), .obj c (exC ex0), .obj d (wdL ⟨2, wx, wn, wa⟩)]) rfl ?_
      (conv => arg 2; whnf); refine w_ret1k (R' := [.obj b (rfL s L a (some 10) n)]) c 0 1 rfl rfl rfl rfl rfl (Vle.refl _) (by simp) ⟨ex0, _, some 10, n, rfl, ⟨a, ha, hl, rfl⟩, hS, by decide⟩
    · obtain rfl : wk = 4 := hk
      (conv => arg 2; whnf); refine wp_load (cs := wdL ⟨4, wx, wn, wa⟩) 2 rfl rfl ?_
      (repeat ((conv => arg 2; whnf); first | refine wp_ite (fun _ => ?_) (fun h => Bool.noConfusion h) | refine wp_ite (fun h => Bool.noConfusion h) (fun _ => ?_)))
      (conv => arg 2; whnf); refine wp_load (cs := wdL ⟨4, wx, wn, wa⟩) 2 rfl rfl ?_
      (conv => arg 2; whnf); refine wp_ite (fun h => (neF9 (b := trueL) hxt h).elim) (fun _ => ?_)
      (conv => arg 2; whnf); refine wp_load (cs := wdL ⟨4, wx, wn, wa⟩) 2 rfl rfl ?_
      (conv => arg 2; whnf)
      refine wp_cutR (frL [(0, .loc b 0), (1, i64V deep), (4, .loc c 0), (5, .loc d 0), (6, bV false)]) [.obj b (rfL s L a none n), .obj c exZ, .obj d (wdL ⟨4, wx, wn, wa⟩)] (.cons (.refl _) (.cons (.refl _) (.cons (.refl _) (.cons (.refl _) (.cons (Vle.viaR (cBool ((strEq _ falseL).trans (decide_eq_false hxf))) rfl) (.nil _)))))) (List.Sublist.refl _) ?_
      (conv => arg 2; whnf); refine wp_load (cs := wdL ⟨4, wx, wn, wa⟩) 2 rfl rfl ?_
      (repeat ((conv => arg 2; whnf); first | refine wp_ite (fun _ => ?_) (fun h => Bool.noConfusion h) | refine wp_ite (fun h => Bool.noConfusion h) (fun _ => ?_)))
      (conv => arg 2; whnf)
      refine wp_cutR (frL [(0, .loc b 0), (1, i64V deep), (4, .loc c 0), (5, .loc d 0), (6, bV false), (7, bV false)]) [.obj b (rfL s L a none n), .obj c exZ, .obj d (wdL ⟨4, wx, wn, wa⟩)] (.cons (.refl _) (.cons (.refl _) (.cons (.refl _) (.cons (.refl _) (.cons (.refl _) (.cons (.refl _) (.nil _))))))) (List.Sublist.refl _) ?_
      (repeat ((conv => arg 2; whnf); first | refine wp_ite (fun _ => ?_) (fun h => Bool.noConfusion h) | refine wp_ite (fun h => Bool.noConfusion h) (fun _ => ?_) | refine wp_load (cs := wdL ⟨4, wx, wn, wa⟩) 2 rfl rfl ?_ | refine wp_load (cs := rfL s L a none n) 0 rfl rfl ?_))
      (conv => arg 2; whnf); refine wp_callF [] [.obj b (rfL s L a none n)] [.obj c exZ, .obj d (wdL ⟨4, wx, wn, wa⟩)] rfl (rfails_call b s L a none n 10 (by decide)) ?_
      rintro v R1 ⟨rfl, rfl⟩
      (conv => arg 2; whnf); refine wp_storeE (cs := exZ) 1 0 (exC ex0) rfl rfl ex0_vle (Nat.le_refl _) rfl (R' := [.obj b (rfL s L a (some 10) n), .obj c (exC ex0), .obj d (wdL ⟨4, wx, wn, wa⟩)]) rfl ?_
      (conv => arg 2; whnf); refine w_ret1k (R' := [.obj b (rfL s L a (some 10) n)]) c 0 1 rfl rfl rfl rfl rfl (Vle.refl _) (by simp) ⟨ex0, _, some 10, n, rfl, ⟨a, ha, hl, rfl⟩, hS, by decide⟩
    · obtain rfl : wk = 5 := hk
      (conv => arg 2; whnf); refine wp_load (cs := wdL ⟨5, wx, wn, wa⟩) 2 rfl rfl ?_
      (repeat ((conv => arg 2; whnf); first | refine wp_ite (fun _ => ?_) (fun h => Bool.noConfusion h) | refine wp_ite (fun h => Bool.noConfusion h) (fun _ => ?_)))
      (conv => arg 2; whnf)
      refine wp_cutR (frL [(0, .loc b 0), (1, i64V deep), (4, .loc c 0), (5, .loc d 0), (6, bV false)]) [.obj b (rfL s L a none n), .obj c exZ, .obj d (wdL ⟨5, wx, wn, wa⟩)] (.cons (.refl _) (.cons (.refl _) (.cons (.refl _) (.cons (.refl _) (.cons (.refl _) (.nil _)))))) (List.Sublist.refl _) ?_
      (conv => arg 2; whnf); refine wp_load (cs := wdL ⟨5, wx, wn, wa⟩) 2 rfl rfl ?_
      (repeat ((conv => arg 2; whnf); first | refine wp_ite (fun _ => ?_) (fun h => Bool.noConfusion h) | refine wp_ite (fun h => Bool.noConfusion h) (fun _ => ?_)))
      (conv => arg 2; whnf); refine wp_load (cs := wdL ⟨5, wx, wn, wa⟩) 2 rfl rfl ?_
      (conv => arg 2; whnf)
      refine wp_cutR (frL [(0, .loc b 0), (1, i64V deep), (4, .loc c 0), (5, .loc d 0), (6, bV false), (7, bV false)]) [.obj b (rfL s L a none n), .obj c exZ, .obj d (wdL ⟨5, wx, wn, wa⟩)] (.cons (.refl _) (.cons (.refl _) (.cons (.refl _) (.cons (.refl _) (.cons (.refl _) (.cons (Vle.viaR (cBool ((strEq _ [40]).trans (decide_eq_false hxp))) rfl) (.nil _))))))) (List.Sublist.refl _) ?_
      (repeat ((conv => arg 2; whnf); first | refine wp_ite (fun _ => ?_) (fun h => Bool.noConfusion h) | refine wp_ite (fun h => Bool.noConfusion h) (fun _ => ?_) | refine wp_load (cs := wdL ⟨5, wx, wn, wa⟩) 2 rfl rfl ?_ | refine wp_load (cs := rfL s L a none n) 0 rfl rfl ?_))
      (conv => arg 2; whnf); refine wp_callF [] [.obj b (rfL s L a none n)] [.obj c exZ, .obj d (wdL ⟨5, wx, wn, wa⟩)] rfl (rfails_call b s L a none n 10 (by decide)) ?_
      rintro v R1 ⟨rfl, rfl⟩
      (conv => arg 2; whnf); refine wp_storeE (cs := exZ) 1 0 (exC ex0) rfl rfl ex0_vle (Nat.le_refl _) rfl (R' := [.obj b (rfL s L a (some 10) n), .obj c (exC ex0), .obj d (wdL ⟨5, wx, wn, wa⟩)]) rfl ?_
      (conv => arg 2; whnf); refine w_ret1k (R' := [.obj b (rfL s L a (some 10) n)]) c 0 1 rfl rfl rfl rfl rfl (Vle.refl _) (by simp) ⟨ex0, _, some 10, n, rfl, ⟨a, ha, hl, rfl⟩, hS, by decide⟩
  | true =>
  obtain ⟨w, r, rfl, hcase⟩ := begins_yes hb
  have hw := hall _ (List.mem_cons_self ..)
  obtain ⟨wk, wx, wn, wa⟩ := w
  rcases hcase with ⟨hk, hpl⟩ | hk | hk | ⟨hk, hx⟩ | ⟨hk, hx⟩ | ⟨hk, hx⟩
  · obtain rfl : wk = 2 := hk
    (conv => arg 2; whnf); refine wp_load (cs := wdL ⟨2, wx, wn, wa⟩) 2 rfl rfl ?_
    (repeat ((conv => arg 2; whnf); first | refine wp_ite (fun _ => ?_) (fun h => Bool.noConfusion h) | refine wp_ite (fun h => Bool.noConfusion h) (fun _ => ?_)))
    (conv => arg 2; whnf)
    refine wp_cutR (frL [(0, .loc b 0), (1, i64V deep), (4, .loc c 0), (5, .loc d 0), (6, bV false)]) [.obj b (rfL s L a none n), .obj c exZ, .obj d (wdL ⟨2, wx, wn, wa⟩)] (.cons (.refl _) (.cons (.refl _) (.cons (.refl _) (.cons (.refl _) (.cons (.refl _) (.nil _)))))) (List.Sublist.refl _) ?_
    (conv => arg 2; whnf); refine wp_load (cs := wdL ⟨2, wx, wn, wa⟩) 2 rfl rfl ?_
    (repeat ((conv => arg 2; whnf); first | refine wp_ite (fun _ => ?_) (fun h => Bool.noConfusion h) | refine wp_ite (fun h => Bool.noConfusion h) (fun _ => ?_)))
    (conv => arg 2; whnf)
    refine wp_cutR (frL [(0, .loc b 0), (1, i64V deep), (4, .loc c 0), (5, .loc d 0), (6, bV false), (7, bV false)]) [.obj b (rfL s L a none n), .obj c exZ, .obj d (wdL ⟨2, wx, wn, wa⟩)] (.cons (.refl _) (.cons (.refl _) (.cons (.refl _) (.cons (.refl _) (.cons (.refl _) (.cons (.refl _) (.nil _))))))) (List.Sublist.refl _) ?_
    (repeat ((conv => arg 2; whnf); first | refine wp_ite (fun _ => ?_) (fun h => Bool.noConfusion h) | refine wp_ite (fun h => Bool.noConfusion h) (fun _ => ?_) | refine wp_load (cs := wdL ⟨2, wx, wn, wa⟩) 2 rfl rfl ?_ | refine wp_load (cs := rfL s L a none n) 0 rfl rfl ?_))
    (conv => arg 2; whnf); refine wp_callF [] [.obj b (rfL s L a none n)] [.obj c exZ, .obj d (wdL ⟨2, wx, wn, wa⟩)] rfl (rplain_call b s L a none n ⟨2, wx, wn, wa⟩ hs hw) ?_
    rintro v R1 ⟨rfl, rfl⟩
    rw [hpl]
    (repeat ((conv => arg 2; whnf); first | refine wp_ite (fun _ => ?_) (fun h => Bool.noConfusion h) | refine wp_ite (fun h => Bool.noConfusion h) (fun _ => ?_)))
    (conv => arg 2; whnf)
    refine wp_cutR (frL [(0, .loc b 0), (1, i64V deep), (4, .loc c 0), (5, .loc d 0), (6, bV (decide (Wd.kind ⟨2, wx, wn, wa⟩ = 4)))]) [.obj b (rfL s L a none n), .obj c exZ, .obj d (wdL ⟨2, wx, wn, wa⟩)] (.cons (.refl _) (.cons (.refl _) (.cons (.refl _) (.cons (.refl _) (.cons (.refl _) (.nil _)))))) (List.Sublist.refl _) ?_
    (conv => arg 2; whnf); refine wp_load (cs := rfL s L a none n) 0 rfl rfl ?_
    (conv => arg 2; whnf); refine wp_storeE (cs := rfL s L a none n) 0 3 [i64V ((n + 1 : Nat) : Int)] rfl rfl (.cons (Vle.inc n rfl (by omega)) .nil) (Nat.le_of_ble_eq_true rfl) rfl (R' := [.obj b (rfL s L a none (n + 1)), .obj c exZ, .obj d (wdL ⟨2, wx, wn, wa⟩)]) rfl ?_
    (conv => arg 2; whnf); refine wp_ite (fun h => absurd (of_decide_eq_true h) (by omega)) (fun _ => ?_)
    (conv => arg 2; whnf); refine wp_load (cs := rfL s L a none (n + 1)) 0 rfl rfl ?_
    (conv => arg 2; whnf); refine wp_ite (fun hn => ?_) (fun hn => ?_)
    · have hn : 24 < n + 1 := by have := of_decide_eq_true hn; omega
      (conv => arg 2; whnf); refine wp_callF [] [.obj b (rfL s L a none (n + 1))] [.obj c exZ, .obj d (wdL ⟨2, wx, wn, wa⟩)] rfl (rfails_call b s L a none (n + 1) 12 (by decide)) ?_
      rintro v R1 ⟨rfl, rfl⟩
      (conv => arg 2; whnf); refine wp_storeE (cs := exZ) 1 0 (exC ex0) rfl rfl ex0_vle (Nat.le_refl _) rfl (R' := [.obj b (rfL s L a (some 12) (n + 1)), .obj c (exC ex0), .obj d (wdL ⟨2, wx, wn, wa⟩)]) rfl ?_
      (conv => arg 2; whnf); refine w_ret1k (R' := [.obj b (rfL s L a (some 12) (n + 1))]) c 0 1 rfl rfl rfl rfl rfl (Vle.refl _) (by simp) ⟨ex0, _, some 12, n + 1, rfl, ⟨a, ha, hl, rfl⟩, by rw [nodeE_many hb hn]; exact Sim.err, by decide⟩
    have hn : ¬ 24 < n + 1 := by have := of_decide_eq_false hn; omega
    obtain ⟨ha1, hl1⟩ := drop_tail hl (List.cons_ne_nil _ _)
    have hl1 : L.drop (a + 1) = r := hl1
    have hallr : AllOk s.length r := hall.tail
    (conv => arg 2; whnf); refine wp_load (cs := rfL s L a none (n + 1)) 0 rfl rfl ?_
    (conv => arg 2; whnf); refine wp_storeE (cs := rfL s L a none (n + 1)) 0 2 [i64V ((a + 1 : Nat) : Int)] rfl rfl (.cons (Vle.inc a rfl (by omega)) .nil) (Nat.le_of_ble_eq_true rfl) rfl (R' := [.obj b (rfL s L (a + 1) none (n + 1)), .obj c exZ, .obj d (wdL ⟨2, wx, wn, wa⟩)]) rfl ?_
    (conv => arg 2; whnf)
    refine wp_cutR (frL [(0, .loc b 0), (1, i64V deep), (4, .loc c 0), (5, .loc d 0), (6, bV false)]) [.obj b (rfL s L (a + 1) none (n + 1)), .obj c exZ, .obj d (wdL ⟨2, wx, wn, wa⟩)] (.cons (.refl _) (.cons (.refl _) (.cons (.refl _) (.cons (.refl _) (.cons (.refl _) (.nil _)))))) (List.Sublist.refl _) ?_
    (repeat ((conv => arg 2; whnf); first | refine wp_ite (fun _ => ?_) (fun h => Bool.noConfusion h) | refine wp_ite (fun h => Bool.noConfusion h) (fun _ => ?_) | refine wp_load (cs := wdL ⟨2, wx, wn, wa⟩) 2 rfl rfl ?_ | refine wp_load (cs := rfL s L (a + 1) none (n + 1)) 0 rfl rfl ?_))
    (conv => arg 2; whnf); refine wp_storeE (cs := exZ) 1 0 (exC (litX ⟨1, wn, []⟩)) rfl rfl (lit_vle ⟨1, wn, []⟩) (Nat.le_refl _) rfl (R' := [.obj b (rfL s L (a + 1) none (n + 1)), .obj c (exC (litX ⟨1, wn, []⟩)), .obj d (wdL ⟨2, wx, wn, wa⟩)]) rfl ?_
    (conv => arg 2; whnf); refine w_ret1k (R' := [.obj b (rfL s L (a + 1) none (n + 1))]) c 0 1 rfl rfl rfl rfl rfl (Vle.refl _) (by simp) ⟨litX ⟨1, wn, []⟩, r, none, n + 1, rfl, ⟨a + 1, ha1, hl1, rfl⟩, by rw [nodeE_lit hb hn (v := ⟨1, wn, []⟩) rfl]; exact Sim.ok, by decide⟩
  · obtain rfl : wk = 3 := hk
    (conv => arg 2; whnf); refine wp_load (cs := wdL ⟨3, wx, wn, wa⟩) 2 rfl rfl ?_
    (repeat ((conv => arg 2; whnf); first | refine wp_ite (fun _ => ?_) (fun h => Bool.noConfusion h) | refine wp_ite (fun h => Bool.noConfusion h) (fun _ => ?_)))
    (conv => arg 2; whnf)
    refine wp_cutR (frL [(0, .loc b 0), (1, i64V deep), (4, .loc c 0), (5, .loc d 0), (6, bV false)]) [.obj b (rfL s L a none n), .obj c exZ, .obj d (wdL ⟨3, wx, wn, wa⟩)] (.cons (.refl _) (.cons (.refl _) (.cons (.refl _) (.cons (.refl _) (.cons (.refl _) (.nil _)))))) (List.Sublist.refl _) ?_
    (conv => arg 2; whnf); refine wp_load (cs := wdL ⟨3, wx, wn, wa⟩) 2 rfl rfl ?_
    (repeat ((conv => arg 2; whnf); first | refine wp_ite (fun _ => ?_) (fun h => Bool.noConfusion h) | refine wp_ite (fun h => Bool.noConfusion h) (fun _ => ?_)))
    (conv => arg 2; whnf)
    refine wp_cutR (frL [(0, .loc b 0), (1, i64V deep), (4, .loc c 0), (5, .loc d 0), (6, bV false), (7, bV false)]) [.obj b (rfL s L a none n), .obj c exZ, .obj d (wdL ⟨3, wx, wn, wa⟩)] (.cons (.refl _) (.cons (.refl _) (.cons (.refl _) (.cons (.refl _) (.cons (.refl _) (.cons (.refl _) (.nil _))))))) (List.Sublist.refl _) ?_
    (repeat ((conv => arg 2; whnf); first | refine wp_ite (fun _ => ?_) (fun h => Bool.noConfusion h) | refine wp_ite (fun h => Bool.noConfusion h) (fun _ => ?_) | refine wp_load (cs := wdL ⟨3, wx, wn, wa⟩) 2 rfl rfl ?_ | refine wp_load (cs := rfL s L a none n) 0 rfl rfl ?_))
    (conv => arg 2; whnf)
    refine wp_cutR (frL [(0, .loc b 0), (1, i64V deep), (4, .loc c 0), (5, .loc d 0), (6, bV (decide (Wd.kind ⟨3, wx, wn, wa⟩ = 4)))]) [.obj b (rfL s L a none n), .obj c exZ, .obj d (wdL ⟨3, wx, wn, wa⟩)] (.cons (.refl _) (.cons (.refl _) (.cons (.refl _) (.cons (.refl _) (.cons (.refl _) (.nil _)))))) (List.Sublist.refl _) ?_
    (conv => arg 2; whnf); refine wp_load (cs := rfL s L a none n) 0 rfl rfl ?_
    (conv => arg 2; whnf); refine wp_storeE (cs := rfL s L a none n) 0 3 [i64V ((n + 1 : Nat) : Int)] rfl rfl (.cons (Vle.inc n rfl (by omega)) .nil) (Nat.le_of_ble_eq_true rfl) rfl (R' := [.obj b (rfL s L a none (n + 1)), .obj c exZ, .obj d (wdL ⟨3, wx, wn, wa⟩)]) rfl ?_
    (conv => arg 2; whnf); refine wp_ite (fun h => absurd (of_decide_eq_true h) (by omega)) (fun _ => ?_)
    (conv => arg 2; whnf); refine wp_load (cs := rfL s L a none (n + 1)) 0 rfl rfl ?_
    (conv => arg 2; whnf); refine wp_ite (fun hn => ?_) (fun hn => ?_)
    · have hn : 24 < n + 1 := by have := of_decide_eq_true hn; omega
      (conv => arg 2; whnf); refine wp_callF [] [.obj b (rfL s L a none (n + 1))] [.obj c exZ, .obj d (wdL ⟨3, wx, wn, wa⟩)] rfl (rfails_call b s L a none (n + 1) 12 (by decide)) ?_
      rintro v R1 ⟨rfl, rfl⟩
      (conv => arg 2; whnf); refine wp_storeE (cs := exZ) 1 0 (exC ex0) rfl rfl ex0_vle (Nat.le_refl _) rfl (R' := [.obj b (rfL s L a (some 12) (n + 1)), .obj c (exC ex0), .obj d (wdL ⟨3, wx, wn, wa⟩)]) rfl ?_
      (conv => arg 2; whnf); refine w_ret1k (R' := [.obj b (rfL s L a (some 12) (n + 1))]) c 0 1 rfl rfl rfl rfl rfl (Vle.refl _) (by simp) ⟨ex0, _, some 12, n + 1, rfl, ⟨a, ha, hl, rfl⟩, by rw [nodeE_many hb hn]; exact Sim.err, by decide⟩
    have hn : ¬ 24 < n + 1 := by have := of_decide_eq_false hn; omega
    obtain ⟨ha1, hl1⟩ := drop_tail hl (List.cons_ne_nil _ _)
    have hl1 : L.drop (a + 1) = r := hl1
    have hallr : AllOk s.length r := hall.tail
    (conv => arg 2; whnf); refine wp_load (cs := rfL s L a none (n + 1)) 0 rfl rfl ?_
    (conv => arg 2; whnf); refine wp_storeE (cs := rfL s L a none (n + 1)) 0 2 [i64V ((a + 1 : Nat) : Int)] rfl rfl (.cons (Vle.inc a rfl (by omega)) .nil) (Nat.le_of_ble_eq_true rfl) rfl (R' := [.obj b (rfL s L (a + 1) none (n + 1)), .obj c exZ, .obj d (wdL ⟨3, wx, wn, wa⟩)]) rfl ?_
    (conv => arg 2; whnf)
    refine wp_cutR (frL [(0, .loc b 0), (1, i64V deep), (4, .loc c 0), (5, .loc d 0), (6, bV false)]) [.obj b (rfL s L (a + 1) none (n + 1)), .obj c exZ, .obj d (wdL ⟨3, wx, wn, wa⟩)] (.cons (.refl _) (.cons (.refl _) (.cons (.refl _) (.cons (.refl _) (.cons (.refl _) (.nil _)))))) (List.Sublist.refl _) ?_
    (repeat ((conv => arg 2; whnf); first | refine wp_ite (fun _ => ?_) (fun h => Bool.noConfusion h) | refine wp_ite (fun h => Bool.noConfusion h) (fun _ => ?_) | refine wp_load (cs := wdL ⟨3, wx, wn, wa⟩) 2 rfl rfl ?_ | refine wp_load (cs := rfL s L (a + 1) none (n + 1)) 0 rfl rfl ?_))
    (conv => arg 2; whnf); refine wp_storeE (cs := exZ) 1 0 (exC (litX ⟨2, 0, wx⟩)) rfl rfl (lit_vle ⟨2, 0, wx⟩) (Nat.le_refl _) rfl (R' := [.obj b (rfL s L (a + 1) none (n + 1)), .obj c (exC (litX ⟨2, 0, wx⟩)), .obj d (wdL ⟨3, wx, wn, wa⟩)]) rfl ?_
    (conv => arg 2; whnf); refine w_ret1k (R' := [.obj b (rfL s L (a + 1) none (n + 1))]) c 0 1 rfl rfl rfl rfl rfl (Vle.refl _) (by simp) ⟨litX ⟨2, 0, wx⟩, r, none, n + 1, rfl, ⟨a + 1, ha1, hl1, rfl⟩, by rw [nodeE_lit hb hn (v := ⟨2, 0, wx⟩) rfl]; exact Sim.ok, by decide⟩
  · obtain rfl : wk = 1 := hk
    (conv => arg 2; whnf); refine wp_load (cs := wdL ⟨1, wx, wn, wa⟩) 2 rfl rfl ?_
    (repeat ((conv => arg 2; whnf); first | refine wp_ite (fun _ => ?_) (fun h => Bool.noConfusion h) | refine wp_ite (fun h => Bool.noConfusion h) (fun _ => ?_)))
    (conv => arg 2; whnf)
    refine wp_cutR (frL [(0, .loc b 0), (1, i64V deep), (4, .loc c 0), (5, .loc d 0), (6, bV false)]) [.obj b (rfL s L a none n), .obj c exZ, .obj d (wdL ⟨1, wx, wn, wa⟩)] (.cons (.refl _) (.cons (.refl _) (.cons (.refl _) (.cons (.refl _) (.cons (.refl _) (.nil _)))))) (List.Sublist.refl _) ?_
    (conv => arg 2; whnf); refine wp_load (cs := wdL ⟨1, wx, wn, wa⟩) 2 rfl rfl ?_
    (repeat ((conv => arg 2; whnf); first | refine wp_ite (fun _ => ?_) (fun h => Bool.noConfusion h) | refine wp_ite (fun h => Bool.noConfusion h) (fun _ => ?_)))
    (conv => arg 2; whnf)
    refine wp_cutR (frL [(0, .loc b 0), (1, i64V deep), (4, .loc c 0), (5, .loc d 0), (6, bV false), (7, bV false)]) [.obj b (rfL s L a none n), .obj c exZ, .obj d (wdL ⟨1, wx, wn, wa⟩)] (.cons (.refl _) (.cons (.refl _) (.cons (.refl _) (.cons (.refl _) (.cons (.refl _) (.cons (.refl _) (.nil _))))))) (List.Sublist.refl _) ?_
    (repeat ((conv => arg 2; whnf); first | refine wp_ite (fun _ => ?_) (fun h => Bool.noConfusion h) | refine wp_ite (fun h => Bool.noConfusion h) (fun _ => ?_) | refine wp_load (cs := wdL ⟨1, wx, wn, wa⟩) 2 rfl rfl ?_ | refine wp_load (cs := rfL s L a none n) 0 rfl rfl ?_))
    (conv => arg 2; whnf)
    refine wp_cutR (frL [(0, .loc b 0), (1, i64V deep), (4, .loc c 0), (5, .loc d 0), (6, bV (decide (Wd.kind ⟨1, wx, wn, wa⟩ = 4)))]) [.obj b (rfL s L a none n), .obj c exZ, .obj d (wdL ⟨1, wx, wn, wa⟩)] (.cons (.refl _) (.cons (.refl _) (.cons (.refl _) (.cons (.refl _) (.cons (.refl _) (.nil _)))))) (List.Sublist.refl _) ?_
    (conv => arg 2; whnf); refine wp_load (cs := rfL s L a none n) 0 rfl rfl ?_
    (conv => arg 2; whnf); refine wp_storeE (cs := rfL s L a none n) 0 3 [i64V ((n + 1 : Nat) : Int)] rfl rfl (.cons (Vle.inc n rfl (by omega)) .nil) (Nat.le_of_ble_eq_true rfl) rfl (R' := [.obj b (rfL s L a none (n + 1)), .obj c exZ, .obj d (wdL ⟨1, wx, wn, wa⟩)]) rfl ?_
    (conv => arg 2; whnf); refine wp_ite (fun h => absurd (of_decide_eq_true h) (by omega)) (fun _ => ?_)
    (conv => arg 2; whnf); refine wp_load (cs := rfL s L a none (n + 1)) 0 rfl rfl ?_
    (conv => arg 2; whnf); refine wp_ite (fun hn => ?_) (fun hn => ?_)
    · have hn : 24 < n + 1 := by have := of_decide_eq_true hn; omega
      (conv => arg 2; whnf); refine wp_callF [] [.obj b (rfL s L a none (n + 1))] [.obj c exZ, .obj d (wdL ⟨1, wx, wn, wa⟩)] rfl (rfails_call b s L a none (n + 1) 12 (by decide)) ?_
      rintro v R1 ⟨rfl, rfl⟩
      (conv => arg 2; whnf); refine wp_storeE (cs := exZ) 1 0 (exC ex0) rfl rfl ex0_vle (Nat.le_refl _) rfl (R' := [.obj b (rfL s L a (some 12) (n + 1)), .obj c (exC ex0), .obj d (wdL ⟨1, wx, wn, wa⟩)]) rfl ?_
      (conv => arg 2; whnf); refine w_ret1k (R' := [.obj b (rfL s L a (some 12) (n + 1))]) c 0 1 rfl rfl rfl rfl rfl (Vle.refl _) (by simp) ⟨ex0, _, some 12, n + 1, rfl, ⟨a, ha, hl, rfl⟩, by rw [nodeE_many hb hn]; exact Sim.err, by decide⟩
    have hn : ¬ 24 < n + 1 := by have := of_decide_eq_false hn; omega
    obtain ⟨ha1, hl1⟩ := drop_tail hl (List.cons_ne_nil _ _)
    have hl1 : L.drop (a + 1) = r := hl1
    have hallr : AllOk s.length r := hall.tail
    (conv => arg 2; whnf); refine wp_load (cs := rfL s L a none (n + 1)) 0 rfl rfl ?_
    (conv => arg 2; whnf); refine wp_storeE (cs := rfL s L a none (n + 1)) 0 2 [i64V ((a + 1 : Nat) : Int)] rfl rfl (.cons (Vle.inc a rfl (by omega)) .nil) (Nat.le_of_ble_eq_true rfl) rfl (R' := [.obj b (rfL s L (a + 1) none (n + 1)), .obj c exZ, .obj d (wdL ⟨1, wx, wn, wa⟩)]) rfl ?_
    have hf := nodeE_fld (s := s) (k := k) (l := ⟨1, wx, wn, wa⟩ :: r) hb hn rfl rfl
    have hS := field_sim (r := r) (n := n + 1) (a := wx)
    (conv => arg 2; whnf)
    refine wp_cutR (frL [(0, .loc b 0), (1, i64V deep), (4, .loc c 0), (5, .loc d 0), (6, bV false)]) [.obj b (rfL s L (a + 1) none (n + 1)), .obj c exZ, .obj d (wdL ⟨1, wx, wn, wa⟩)] (.cons (.refl _) (.cons (.refl _) (.cons (.refl _) (.cons (.refl _) (.cons (.refl _) (.nil _)))))) (List.Sublist.refl _) ?_
    (repeat ((conv => arg 2; whnf); first | refine wp_ite (fun _ => ?_) (fun h => Bool.noConfusion h) | refine wp_ite (fun h => Bool.noConfusion h) (fun _ => ?_) | refine wp_load (cs := wdL ⟨1, wx, wn, wa⟩) 2 rfl rfl ?_ | refine wp_load (cs := rfL s L (a + 1) none (n + 1)) 0 rfl rfl ?_))
    (conv => arg 2; whnf); refine wp_callF [] [.obj b (rfL s L (a + 1) none (n + 1))] [.obj c exZ, .obj d (wdL ⟨1, wx, wn, wa⟩)] rfl (want_call b s L r (a + 1) none (n + 1) 5 [46] (by decide) (by decide) (by decide) ha1 hl1 hL) ?_
    rintro v R1 ⟨rfl, a2, ha2, hl2, rfl⟩
    refine wp_cutR (frL [(0, .loc b 0), (4, .loc c 0), (5, .loc d 0)]) [.obj b (rfL s L a2 (mustX r none 5 [46]) (n + 1)), .obj c exZ, .obj d (wdL ⟨1, wx, wn, wa⟩)] (.cons (.refl _) (.cons (.refl _) (.cons (.refl _) (.nil _)))) (List.Sublist.refl _) ?_
    (conv => arg 2; whnf); refine wp_need (lates1 d 1 b 0 rfl rfl rfl hne) ?_
    (conv => arg 2; whnf); refine wp_load (cs := wdL ⟨1, wx, wn, wa⟩) 2 rfl rfl ?_
    (conv => arg 2; whnf); refine wp_dcall [] [.obj b (rfL s L a2 (mustX r none 5 [46]) (n + 1))] [.obj c exZ, .obj d (wdL ⟨1, wx, wn, wa⟩)] rfl (okq1 0 (by decide) rfl) (some_call b s L _ a2 (mustX r none 5 [46]) (n + 1) 1 (by decide) (mustX_ne (by decide)) ha2 hl2 hL) ?_
    rintro v R1 ⟨rfl, a3, ha3, hl3, rfl⟩
    (conv => arg 2; whnf); refine wp_storeE (cs := exZ) 1 0 (exC (.mk 2 val0 wx (takeW (mayL r none 5 [46]) (mustX r none 5 [46]) 1).text [])) rfl rfl (fld2_vle _ _) (Nat.le_refl _) rfl (R' := [.obj b (rfL s L a3 (mustX (mayL r none 5 [46]) (mustX r none 5 [46]) 1 []) (n + 1)), .obj c (exC (.mk 2 val0 wx (takeW (mayL r none 5 [46]) (mustX r none 5 [46]) 1).text [])), .obj d (wdL ⟨1, wx, wn, wa⟩)]) rfl ?_
    (conv => arg 2; whnf); refine w_ret1k (R' := [.obj b (rfL s L a3 (mustX (mayL r none 5 [46]) (mustX r none 5 [46]) 1 []) (n + 1))]) c 0 1 rfl rfl rfl rfl rfl (Vle.refl _) (by simp) ⟨_, _, _, _, rfl, ⟨a3, ha3, hl3, rfl⟩, by rw [hf]; exact hS, mustX_ne (mustX_ne (by decide))⟩
  · obtain rfl : wk = 4 := hk
    obtain rfl : wx = trueL := hx
    (conv => arg 2; whnf); refine wp_load (cs := wdL ⟨4, trueL, wn, wa⟩) 2 rfl rfl ?_
    (repeat ((conv => arg 2; whnf); first | refine wp_ite (fun _ => ?_) (fun h => Bool.noConfusion h) | refine wp_ite (fun h => Bool.noConfusion h) (fun _ => ?_)))
    (conv => arg 2; whnf); refine wp_load (cs := wdL ⟨4, trueL, wn, wa⟩) 2 rfl rfl ?_
    (conv => arg 2; whnf); refine wp_ite (fun _ => ?_) (fun h => (eqR9 (a := trueL) (b := trueL) rfl h).elim)
    (repeat ((conv => arg 2; whnf); first | refine wp_ite (fun _ => ?_) (fun h => Bool.noConfusion h) | refine wp_ite (fun h => Bool.noConfusion h) (fun _ => ?_)))
    (conv => arg 2; whnf)
    refine wp_cutR (frL [(0, .loc b 0), (1, i64V deep), (4, .loc c 0), (5, .loc d 0), (6, bV true)]) [.obj b (rfL s L a none n), .obj c exZ, .obj d (wdL ⟨4, trueL, wn, wa⟩)] (.cons (.refl _) (.cons (.refl _) (.cons (.refl _) (.cons (.refl _) (.cons (.refl _) (.nil _)))))) (List.Sublist.refl _) ?_
    (conv => arg 2; whnf); refine wp_load (cs := wdL ⟨4, trueL, wn, wa⟩) 2 rfl rfl ?_
    (repeat ((conv => arg 2; whnf); first | refine wp_ite (fun _ => ?_) (fun h => Bool.noConfusion h) | refine wp_ite (fun h => Bool.noConfusion h) (fun _ => ?_)))
    (conv => arg 2; whnf)
    refine wp_cutR (frL [(0, .loc b 0), (1, i64V deep), (4, .loc c 0), (5, .loc d 0), (6, bV true), (7, bV false)]) [.obj b (rfL s L a none n), .obj c exZ, .obj d (wdL ⟨4, trueL, wn, wa⟩)] (.cons (.refl _) (.cons (.refl _) (.cons (.refl _) (.cons (.refl _) (.cons (.refl _) (.cons (.refl _) (.nil _))))))) (List.Sublist.refl _) ?_
    (repeat ((conv => arg 2; whnf); first | refine wp_ite (fun _ => ?_) (fun h => Bool.noConfusion h) | refine wp_ite (fun h => Bool.noConfusion h) (fun _ => ?_) | refine wp_load (cs := wdL ⟨4, trueL, wn, wa⟩) 2 rfl rfl ?_ | refine wp_load (cs := rfL s L a none n) 0 rfl rfl ?_))
    (conv => arg 2; whnf)
    refine wp_cutR (frL [(0, .loc b 0), (1, i64V deep), (4, .loc c 0), (5, .loc d 0), (6, bV (decide (Wd.kind ⟨4, trueL, wn, wa⟩ = 4)))]) [.obj b (rfL s L a none n), .obj c exZ, .obj d (wdL ⟨4, trueL, wn, wa⟩)] (.cons (.refl _) (.cons (.refl _) (.cons (.refl _) (.cons (.refl _) (.cons (.refl _) (.nil _)))))) (List.Sublist.refl _) ?_
    (conv => arg 2; whnf); refine wp_load (cs := rfL s L a none n) 0 rfl rfl ?_
    (conv => arg 2; whnf); refine wp_storeE (cs := rfL s L a none n) 0 3 [i64V ((n + 1 : Nat) : Int)] rfl rfl (.cons (Vle.inc n rfl (by omega)) .nil) (Nat.le_of_ble_eq_true rfl) rfl (R' := [.obj b (rfL s L a none (n + 1)), .obj c exZ, .obj d (wdL ⟨4, trueL, wn, wa⟩)]) rfl ?_
    (conv => arg 2; whnf); refine wp_ite (fun h => absurd (of_decide_eq_true h) (by omega)) (fun _ => ?_)
    (conv => arg 2; whnf); refine wp_load (cs := rfL s L a none (n + 1)) 0 rfl rfl ?_
    (conv => arg 2; whnf); refine wp_ite (fun hn => ?_) (fun hn => ?_)
    · have hn : 24 < n + 1 := by have := of_decide_eq_true hn; omega
      (conv => arg 2; whnf); refine wp_callF [] [.obj b (rfL s L a none (n + 1))] [.obj c exZ, .obj d (wdL ⟨4, trueL, wn, wa⟩)] rfl (rfails_call b s L a none (n + 1) 12 (by decide)) ?_
      rintro v R1 ⟨rfl, rfl⟩
      (conv => arg 2; whnf); refine wp_storeE (cs := exZ) 1 0 (exC ex0) rfl rfl ex0_vle (Nat.le_refl _) rfl (R' := [.obj b (rfL s L a (some 12) (n + 1)), .obj c (exC ex0), .obj d (wdL ⟨4, trueL, wn, wa⟩)]) rfl ?_
      (conv => arg 2; whnf); refine w_ret1k (R' := [.obj b (rfL s L a (some 12) (n + 1))]) c 0 1 rfl rfl rfl rfl rfl (Vle.refl _) (by simp) ⟨ex0, _, some 12, n + 1, rfl, ⟨a, ha, hl, rfl⟩, by rw [nodeE_many hb hn]; exact Sim.err, by decide⟩
    have hn : ¬ 24 < n + 1 := by have := of_decide_eq_false hn; omega
    obtain ⟨ha1, hl1⟩ := drop_tail hl (List.cons_ne_nil _ _)
    have hl1 : L.drop (a + 1) = r := hl1
    have hallr : AllOk s.length r := hall.tail
    (conv => arg 2; whnf); refine wp_load (cs := rfL s L a none (n + 1)) 0 rfl rfl ?_
    (conv => arg 2; whnf); refine wp_storeE (cs := rfL s L a none (n + 1)) 0 2 [i64V ((a + 1 : Nat) : Int)] rfl rfl (.cons (Vle.inc a rfl (by omega)) .nil) (Nat.le_of_ble_eq_true rfl) rfl (R' := [.obj b (rfL s L (a + 1) none (n + 1)), .obj c exZ, .obj d (wdL ⟨4, trueL, wn, wa⟩)]) rfl ?_
    (conv => arg 2; whnf)
    refine wp_cutR (frL [(0, .loc b 0), (1, i64V deep), (4, .loc c 0), (5, .loc d 0), (6, bV true)]) [.obj b (rfL s L (a + 1) none (n + 1)), .obj c exZ, .obj d (wdL ⟨4, trueL, wn, wa⟩)] (.cons (.refl _) (.cons (.refl _) (.cons (.refl _) (.cons (.refl _) (.cons (.refl _) (.nil _)))))) (List.Sublist.refl _) ?_
    (repeat ((conv => arg 2; whnf); first | refine wp_ite (fun _ => ?_) (fun h => Bool.noConfusion h) | refine wp_ite (fun h => Bool.noConfusion h) (fun _ => ?_) | refine wp_load (cs := wdL ⟨4, trueL, wn, wa⟩) 2 rfl rfl ?_ | refine wp_load (cs := rfL s L (a + 1) none (n + 1)) 0 rfl rfl ?_))
    (conv => arg 2; whnf); refine wp_allocE [i64V 0, i64V 0, str []] rfl fun f => ?_
    (conv => arg 2; whnf); refine wp_storeE (cs := [i64V 0, i64V 0, str []]) 3 0 [i64V 3, i64V 0, str []] rfl rfl (VleL.refl _) (Nat.le_refl _) rfl (R' := [.obj b (rfL s L (a + 1) none (n + 1)), .obj c exZ, .obj d (wdL ⟨4, trueL, wn, wa⟩), .obj f [i64V 3, i64V 0, str []]]) rfl ?_
    (conv => arg 2; whnf); refine wp_load (cs := wdL ⟨4, trueL, wn, wa⟩) 2 rfl rfl ?_
    (conv => arg 2; whnf); refine wp_ite (fun _ => ?_) (fun h => (eqR9 (a := trueL) (b := trueL) rfl h).elim)
    (conv => arg 2; whnf); refine wp_storeE (cs := [i64V 3, i64V 0, str []]) 3 1 [i64V 1] rfl rfl (VleL.refl _) (Nat.le_of_ble_eq_true rfl) rfl (R' := [.obj b (rfL s L (a + 1) none (n + 1)), .obj c exZ, .obj d (wdL ⟨4, trueL, wn, wa⟩), .obj f [i64V 3, i64V 1, str []]]) rfl ?_
    (conv => arg 2; whnf); refine wp_load (cs := [i64V 3, i64V 1, str []]) 3 rfl rfl ?_
    (conv => arg 2; whnf); refine wp_storeE (cs := exZ) 1 0 (exC (litX ⟨3, 1, []⟩)) rfl rfl (lit_vle ⟨3, 1, []⟩) (Nat.le_refl _) rfl (R' := [.obj b (rfL s L (a + 1) none (n + 1)), .obj c (exC (litX ⟨3, 1, []⟩)), .obj d (wdL ⟨4, trueL, wn, wa⟩), .obj f [i64V 3, i64V 1, str []]]) rfl ?_
    (conv => arg 2; whnf); refine w_ret1k (R' := [.obj b (rfL s L (a + 1) none (n + 1))]) c 0 1 rfl rfl rfl rfl rfl (Vle.refl _) (by simp) ⟨litX ⟨3, 1, []⟩, r, none, n + 1, rfl, ⟨a + 1, ha1, hl1, rfl⟩, by rw [nodeE_lit hb hn (v := ⟨3, 1, []⟩) rfl]; exact Sim.ok, by decide⟩
  · obtain rfl : wk = 4 := hk
    obtain rfl : wx = falseL := hx
    (conv => arg 2; whnf); refine wp_load (cs := wdL ⟨4, falseL, wn, wa⟩) 2 rfl rfl ?_
    (repeat ((conv => arg 2; whnf); first | refine wp_ite (fun _ => ?_) (fun h => Bool.noConfusion h) | refine wp_ite (fun h => Bool.noConfusion h) (fun _ => ?_)))
    (conv => arg 2; whnf); refine wp_load (cs := wdL ⟨4, falseL, wn, wa⟩) 2 rfl rfl ?_
    (conv => arg 2; whnf); refine wp_ite (fun h => (neF9 (a := falseL) (b := trueL) (by decide) h).elim) (fun _ => ?_)
    (conv => arg 2; whnf); refine wp_load (cs := wdL ⟨4, falseL, wn, wa⟩) 2 rfl rfl ?_
    (conv => arg 2; whnf)
    refine wp_cutR (frL [(0, .loc b 0), (1, i64V deep), (4, .loc c 0), (5, .loc d 0), (6, bV true)]) [.obj b (rfL s L a none n), .obj c exZ, .obj d (wdL ⟨4, falseL, wn, wa⟩)] (.cons (.refl _) (.cons (.refl _) (.cons (.refl _) (.cons (.refl _) (.cons (Vle.viaR (cBool ((strEq falseL falseL).trans (decide_eq_true rfl))) rfl) (.nil _)))))) (List.Sublist.refl _) ?_
    (conv => arg 2; whnf); refine wp_load (cs := wdL ⟨4, falseL, wn, wa⟩) 2 rfl rfl ?_
    (repeat ((conv => arg 2; whnf); first | refine wp_ite (fun _ => ?_) (fun h => Bool.noConfusion h) | refine wp_ite (fun h => Bool.noConfusion h) (fun _ => ?_)))
    (conv => arg 2; whnf)
    refine wp_cutR (frL [(0, .loc b 0), (1, i64V deep), (4, .loc c 0), (5, .loc d 0), (6, bV true), (7, bV false)]) [.obj b (rfL s L a none n), .obj c exZ, .obj d (wdL ⟨4, falseL, wn, wa⟩)] (.cons (.refl _) (.cons (.refl _) (.cons (.refl _) (.cons (.refl _) (.cons (.refl _) (.cons (.refl _) (.nil _))))))) (List.Sublist.refl _) ?_
    (repeat ((conv => arg 2; whnf); first | refine wp_ite (fun _ => ?_) (fun h => Bool.noConfusion h) | refine wp_ite (fun h => Bool.noConfusion h) (fun _ => ?_) | refine wp_load (cs := wdL ⟨4, falseL, wn, wa⟩) 2 rfl rfl ?_ | refine wp_load (cs := rfL s L a none n) 0 rfl rfl ?_))
    (conv => arg 2; whnf)
    refine wp_cutR (frL [(0, .loc b 0), (1, i64V deep), (4, .loc c 0), (5, .loc d 0), (6, bV (decide (Wd.kind ⟨4, falseL, wn, wa⟩ = 4)))]) [.obj b (rfL s L a none n), .obj c exZ, .obj d (wdL ⟨4, falseL, wn, wa⟩)] (.cons (.refl _) (.cons (.refl _) (.cons (.refl _) (.cons (.refl _) (.cons (.refl _) (.nil _)))))) (List.Sublist.refl _) ?_
    (conv => arg 2; whnf); refine wp_load (cs := rfL s L a none n) 0 rfl rfl ?_
    (conv => arg 2; whnf); refine wp_storeE (cs := rfL s L a none n) 0 3 [i64V ((n + 1 : Nat) : Int)] rfl rfl (.cons (Vle.inc n rfl (by omega)) .nil) (Nat.le_of_ble_eq_true rfl) rfl (R' := [.obj b (rfL s L a none (n + 1)), .obj c exZ, .obj d (wdL ⟨4, falseL, wn, wa⟩)]) rfl ?_
    (conv => arg 2; whnf); refine wp_ite (fun h => absurd (of_decide_eq_true h) (by omega)) (fun _ => ?_)
    (conv => arg 2; whnf); refine wp_load (cs := rfL s L a none (n + 1)) 0 rfl rfl ?_
    (conv => arg 2; whnf); refine wp_ite (fun hn => ?_) (fun hn => ?_)
    · have hn : 24 < n + 1 := by have := of_decide_eq_true hn; omega
      (conv => arg 2; whnf); refine wp_callF [] [.obj b (rfL s L a none (n + 1))] [.obj c exZ, .obj d (wdL ⟨4, falseL, wn, wa⟩)] rfl (rfails_call b s L a none (n + 1) 12 (by decide)) ?_
      rintro v R1 ⟨rfl, rfl⟩
      (conv => arg 2; whnf); refine wp_storeE (cs := exZ) 1 0 (exC ex0) rfl rfl ex0_vle (Nat.le_refl _) rfl (R' := [.obj b (rfL s L a (some 12) (n + 1)), .obj c (exC ex0), .obj d (wdL ⟨4, falseL, wn, wa⟩)]) rfl ?_
      (conv => arg 2; whnf); refine w_ret1k (R' := [.obj b (rfL s L a (some 12) (n + 1))]) c 0 1 rfl rfl rfl rfl rfl (Vle.refl _) (by simp) ⟨ex0, _, some 12, n + 1, rfl, ⟨a, ha, hl, rfl⟩, by rw [nodeE_many hb hn]; exact Sim.err, by decide⟩
    have hn : ¬ 24 < n + 1 := by have := of_decide_eq_false hn; omega
    obtain ⟨ha1, hl1⟩ := drop_tail hl (List.cons_ne_nil _ _)
    have hl1 : L.drop (a + 1) = r := hl1
    have hallr : AllOk s.length r := hall.tail
    (conv => arg 2; whnf); refine wp_load (cs := rfL s L a none (n + 1)) 0 rfl rfl ?_
    (conv => arg 2; whnf); refine wp_storeE (cs := rfL s L a none (n + 1)) 0 2 [i64V ((a + 1 : Nat) : Int)] rfl rfl (.cons (Vle.inc a rfl (by omega)) .nil) (Nat.le_of_ble_eq_true rfl) rfl (R' := [.obj b (rfL s L (a + 1) none (n + 1)), .obj c exZ, .obj d (wdL ⟨4, falseL, wn, wa⟩)]) rfl ?_
    (conv => arg 2; whnf)
    refine wp_cutR (frL [(0, .loc b 0), (1, i64V deep), (4, .loc c 0), (5, .loc d 0), (6, bV true)]) [.obj b (rfL s L (a + 1) none (n + 1)), .obj c exZ, .obj d (wdL ⟨4, falseL, wn, wa⟩)] (.cons (.refl _) (.cons (.refl _) (.cons (.refl _) (.cons (.refl _) (.cons (.refl _) (.nil _)))))) (List.Sublist.refl _) ?_
    (repeat ((conv => arg 2; whnf); first | refine wp_ite (fun _ => ?_) (fun h => Bool.noConfusion h) | refine wp_ite (fun h => Bool.noConfusion h) (fun _ => ?_) | refine wp_load (cs := wdL ⟨4, falseL, wn, wa⟩) 2 rfl rfl ?_ | refine wp_load (cs := rfL s L (a + 1) none (n + 1)) 0 rfl rfl ?_))
    (conv => arg 2; whnf); refine wp_allocE [i64V 0, i64V 0, str []] rfl fun f => ?_
    (conv => arg 2; whnf); refine wp_storeE (cs := [i64V 0, i64V 0, str []]) 3 0 [i64V 3, i64V 0, str []] rfl rfl (VleL.refl _) (Nat.le_refl _) rfl (R' := [.obj b (rfL s L (a + 1) none (n + 1)), .obj c exZ, .obj d (wdL ⟨4, falseL, wn, wa⟩), .obj f [i64V 3, i64V 0, str []]]) rfl ?_
    (conv => arg 2; whnf); refine wp_load (cs := wdL ⟨4, falseL, wn, wa⟩) 2 rfl rfl ?_
    (conv => arg 2; whnf); refine wp_ite (fun h => (neF9 (a := falseL) (b := trueL) (by decide) h).elim) (fun _ => ?_)
    (conv => arg 2; whnf); refine wp_load (cs := [i64V 3, i64V 0, str []]) 3 rfl rfl ?_
    (conv => arg 2; whnf); refine wp_storeE (cs := exZ) 1 0 (exC (litX ⟨3, 0, []⟩)) rfl rfl (lit_vle ⟨3, 0, []⟩) (Nat.le_refl _) rfl (R' := [.obj b (rfL s L (a + 1) none (n + 1)), .obj c (exC (litX ⟨3, 0, []⟩)), .obj d (wdL ⟨4, falseL, wn, wa⟩), .obj f [i64V 3, i64V 0, str []]]) rfl ?_
    (conv => arg 2; whnf); refine w_ret1k (R' := [.obj b (rfL s L (a + 1) none (n + 1))]) c 0 1 rfl rfl rfl rfl rfl (Vle.refl _) (by simp) ⟨litX ⟨3, 0, []⟩, r, none, n + 1, rfl, ⟨a + 1, ha1, hl1, rfl⟩, by rw [nodeE_lit hb hn (v := ⟨3, 0, []⟩) rfl]; exact Sim.ok, by decide⟩
  · obtain rfl : wk = 5 := hk
    obtain rfl : wx = [40] := hx
    (conv => arg 2; whnf); refine wp_load (cs := wdL ⟨5, [40], wn, wa⟩) 2 rfl rfl ?_
    (repeat ((conv => arg 2; whnf); first | refine wp_ite (fun _ => ?_) (fun h => Bool.noConfusion h) | refine wp_ite (fun h => Bool.noConfusion h) (fun _ => ?_)))
    (conv => arg 2; whnf)
    refine wp_cutR (frL [(0, .loc b 0), (1, i64V deep), (4, .loc c 0), (5, .loc d 0), (6, bV false)]) [.obj b (rfL s L a none n), .obj c exZ, .obj d (wdL ⟨5, [40], wn, wa⟩)] (.cons (.refl _) (.cons (.refl _) (.cons (.refl _) (.cons (.refl _) (.cons (.refl _) (.nil _)))))) (List.Sublist.refl _) ?_
    (conv => arg 2; whnf); refine wp_load (cs := wdL ⟨5, [40], wn, wa⟩) 2 rfl rfl ?_
    (repeat ((conv => arg 2; whnf); first | refine wp_ite (fun _ => ?_) (fun h => Bool.noConfusion h) | refine wp_ite (fun h => Bool.noConfusion h) (fun _ => ?_)))
    (conv => arg 2; whnf); refine wp_load (cs := wdL ⟨5, [40], wn, wa⟩) 2 rfl rfl ?_
    (conv => arg 2; whnf)
    refine wp_cutR (frL [(0, .loc b 0), (1, i64V deep), (4, .loc c 0), (5, .loc d 0), (6, bV false), (7, bV true)]) [.obj b (rfL s L a none n), .obj c exZ, .obj d (wdL ⟨5, [40], wn, wa⟩)] (.cons (.refl _) (.cons (.refl _) (.cons (.refl _) (.cons (.refl _) (.cons (.refl _) (.cons (Vle.viaR (cBool ((strEq [40] [40]).trans (decide_eq_true rfl))) rfl) (.nil _))))))) (List.Sublist.refl _) ?_
    (repeat ((conv => arg 2; whnf); first | refine wp_ite (fun _ => ?_) (fun h => Bool.noConfusion h) | refine wp_ite (fun h => Bool.noConfusion h) (fun _ => ?_) | refine wp_load (cs := wdL ⟨5, [40], wn, wa⟩) 2 rfl rfl ?_ | refine wp_load (cs := rfL s L a none n) 0 rfl rfl ?_))
    (conv => arg 2; whnf)
    refine wp_cutR (frL [(0, .loc b 0), (1, i64V deep), (4, .loc c 0), (5, .loc d 0), (6, bV (decide (Wd.kind ⟨5, [40], wn, wa⟩ = 4)))]) [.obj b (rfL s L a none n), .obj c exZ, .obj d (wdL ⟨5, [40], wn, wa⟩)] (.cons (.refl _) (.cons (.refl _) (.cons (.refl _) (.cons (.refl _) (.cons (.refl _) (.nil _)))))) (List.Sublist.refl _) ?_
    (conv => arg 2; whnf); refine wp_load (cs := rfL s L a none n) 0 rfl rfl ?_
    (conv => arg 2; whnf); refine wp_storeE (cs := rfL s L a none n) 0 3 [i64V ((n + 1 : Nat) : Int)] rfl rfl (.cons (Vle.inc n rfl (by omega)) .nil) (Nat.le_of_ble_eq_true rfl) rfl (R' := [.obj b (rfL s L a none (n + 1)), .obj c exZ, .obj d (wdL ⟨5, [40], wn, wa⟩)]) rfl ?_
    (conv => arg 2; whnf); refine wp_ite (fun h => absurd (of_decide_eq_true h) (by omega)) (fun _ => ?_)
    (conv => arg 2; whnf); refine wp_load (cs := rfL s L a none (n + 1)) 0 rfl rfl ?_
    (conv => arg 2; whnf); refine wp_ite (fun hn => ?_) (fun hn => ?_)
    · have hn : 24 < n + 1 := by have := of_decide_eq_true hn; omega
      (conv => arg 2; whnf); refine wp_callF [] [.obj b (rfL s L a none (n + 1))] [.obj c exZ, .obj d (wdL ⟨5, [40], wn, wa⟩)] rfl (rfails_call b s L a none (n + 1) 12 (by decide)) ?_
      rintro v R1 ⟨rfl, rfl⟩
      (conv => arg 2; whnf); refine wp_storeE (cs := exZ) 1 0 (exC ex0) rfl rfl ex0_vle (Nat.le_refl _) rfl (R' := [.obj b (rfL s L a (some 12) (n + 1)), .obj c (exC ex0), .obj d (wdL ⟨5, [40], wn, wa⟩)]) rfl ?_
      (conv => arg 2; whnf); refine w_ret1k (R' := [.obj b (rfL s L a (some 12) (n + 1))]) c 0 1 rfl rfl rfl rfl rfl (Vle.refl _) (by simp) ⟨ex0, _, some 12, n + 1, rfl, ⟨a, ha, hl, rfl⟩, by rw [nodeE_many hb hn]; exact Sim.err, by decide⟩
    have hn : ¬ 24 < n + 1 := by have := of_decide_eq_false hn; omega
    obtain ⟨ha1, hl1⟩ := drop_tail hl (List.cons_ne_nil _ _)
    have hl1 : L.drop (a + 1) = r := hl1
    have hallr : AllOk s.length r := hall.tail
    (conv => arg 2; whnf); refine wp_load (cs := rfL s L a none (n + 1)) 0 rfl rfl ?_
    (conv => arg 2; whnf); refine wp_storeE (cs := rfL s L a none (n + 1)) 0 2 [i64V ((a + 1 : Nat) : Int)] rfl rfl (.cons (Vle.inc a rfl (by omega)) .nil) (Nat.le_of_ble_eq_true rfl) rfl (R' := [.obj b (rfL s L (a + 1) none (n + 1)), .obj c exZ, .obj d (wdL ⟨5, [40], wn, wa⟩)]) rfl ?_
    (conv => arg 2; whnf)
    refine wp_cutR (frL [(0, .loc b 0), (1, i64V deep), (4, .loc c 0), (5, .loc d 0), (6, bV false)]) [.obj b (rfL s L (a + 1) none (n + 1)), .obj c exZ, .obj d (wdL ⟨5, [40], wn, wa⟩)] (.cons (.refl _) (.cons (.refl _) (.cons (.refl _) (.cons (.refl _) (.cons (.refl _) (.nil _)))))) (List.Sublist.refl _) ?_
    (repeat ((conv => arg 2; whnf); first | refine wp_ite (fun _ => ?_) (fun h => Bool.noConfusion h) | refine wp_ite (fun h => Bool.noConfusion h) (fun _ => ?_) | refine wp_load (cs := wdL ⟨5, [40], wn, wa⟩) 2 rfl rfl ?_ | refine wp_load (cs := rfL s L (a + 1) none (n + 1)) 0 rfl rfl ?_))
    (conv => arg 2; whnf); refine wp_callF [] [.obj b (rfL s L (a + 1) none (n + 1))] [.obj c exZ, .obj d (wdL ⟨5, [40], wn, wa⟩)] rfl (ris_call b s L r (a + 1) none (n + 1) 4 not3 (by decide) (by decide) (by decide) ha1 hl1 hL) ?_
    rintro v R1 ⟨rfl, a2, ha2, hl2, rfl⟩
    (conv => arg 2; whnf); refine wp_ite (fun h5 => ?_) (fun h5 => ?_)
    · have h5' : hdT 4 not3 r = true := by rw [← isP_hdT (by decide)]; exact h5
      have hf := nodeE_not (s := s) (k := k) (l := ⟨5, [40], wn, wa⟩ :: r) hb hn rfl rfl h5'
      rw [mayL, show isP r none 4 not3 = true from h5, if_pos rfl] at hl2
      have hc := ih a2 r.tail (n + 1) ha2 hl2 (by omega) hallr.tail
      (conv => arg 2; whnf); refine wp_callV [] [.obj b (rfL s L a2 none (n + 1))] [.obj c exZ, .obj d (wdL ⟨5, [40], wn, wa⟩)] rfl (.cons (.refl _) (.cons (Vle.inc deep rfl (by omega)) .nil)) hc ?_
      rintro v R1 ⟨x, l3, e3, n3, rfl, ⟨a3, ha3, hl3, rfl⟩, hS, he3⟩
      (conv => arg 2; whnf); refine wp_allocE exZ rfl fun f => ?_
      (conv => arg 2; whnf); refine wp_storeE (cs := exZ) 3 0 (exC (.mk 12 val0 [] [] [x])) rfl rfl (not_vle x) (Nat.le_refl _) rfl (R' := [.obj b (rfL s L a3 e3 n3), .obj c exZ, .obj d (wdL ⟨5, [40], wn, wa⟩), .obj f (exC (.mk 12 val0 [] [] [x]))]) rfl ?_
      (conv => arg 2; whnf); refine wp_callF [] [.obj b (rfL s L a3 e3 n3)] [.obj c exZ, .obj d (wdL ⟨5, [40], wn, wa⟩), .obj f (exC (.mk 12 val0 [] [] [x]))] rfl (want_call b s L l3 a3 e3 n3 5 [41] (by decide) (by decide) he3 ha3 hl3 hL) ?_
      rintro v R1 ⟨rfl, a4, ha4, hl4, rfl⟩
      (conv => arg 2; whnf); refine wp_load (cs := exC (.mk 12 val0 [] [] [x])) 3 rfl rfl ?_
      (conv => arg 2; whnf); refine wp_storeE (cs := exZ) 1 0 (exC (.mk 12 val0 [] [] [x])) rfl rfl (VleL.refl _) (Nat.le_refl _) rfl (R' := [.obj b (rfL s L a4 (mustX l3 e3 5 [41]) n3), .obj c (exC (.mk 12 val0 [] [] [x])), .obj d (wdL ⟨5, [40], wn, wa⟩), .obj f (exC (.mk 12 val0 [] [] [x]))]) rfl ?_
      (conv => arg 2; whnf); refine w_ret1k (R' := [.obj b (rfL s L a4 (mustX l3 e3 5 [41]) n3)]) c 0 1 rfl rfl rfl rfl rfl (Vle.refl _) (by simp) ⟨_, _, _, _, rfl, ⟨a4, ha4, hl4, rfl⟩, by rw [hf]; exact Sim.bind hS (fun m hm => by rw [hm, mustX_some]) (fun h => by rw [h]; exact sim_must (by decide)), mustX_ne he3⟩
    have h5' : hdT 4 not3 r = false := by rw [← isP_hdT (by decide)]; exact h5
    have hf := nodeE_two (s := s) (k := k) (l := ⟨5, [40], wn, wa⟩ :: r) hb hn rfl rfl h5'
    rw [List.tail_cons] at hf
    rw [mayL, show isP r none 4 not3 = false from h5, if_neg (by decide)] at hl2
    have hc := ih a2 r (n + 1) ha2 hl2 (by omega) hallr
    (conv => arg 2; whnf)
    refine wp_cutR (frL [(0, .loc b 0), (1, i64V deep), (4, .loc c 0)]) [.obj b (rfL s L a2 none (n + 1)), .obj c exZ] (.cons (.refl _) (.cons (.refl _) (.cons (.refl _) (.nil _)))) (by simp) ?_
    (conv => arg 2; whnf); refine wp_callV [] [.obj b (rfL s L a2 none (n + 1))] [.obj c exZ] rfl (.cons (.refl _) (.cons (Vle.inc deep rfl (by omega)) .nil)) hc ?_
    rintro v R1 ⟨x, l3, e3, n3, rfl, ⟨a3, ha3, hl3, rfl⟩, hS, he3⟩
    (conv => arg 2; whnf); refine wp_allocE exZ rfl fun f => ?_
    (conv => arg 2; whnf); refine wp_storeE (cs := exZ) 2 0 (exC x) rfl rfl (VleL.refl _) (Nat.le_refl _) rfl (R' := [.obj b (rfL s L a3 e3 n3), .obj c exZ, .obj f (exC x)]) rfl ?_
    (conv => arg 2; whnf)
    refine wp_cutR (frL [(0, .loc b 0), (1, i64V deep), (4, .loc c 0), (10, .loc f 0), (11, i64V 0)]) [.obj b (rfL s L a3 e3 n3), .obj c exZ, .obj f (exC x)] (.cons (.refl _) (.cons (.refl _) (.cons (.refl _) (.cons (.refl _) (.cons (.refl _) (.nil _)))))) (List.Sublist.refl _) ?_
    (conv => arg 2; whnf); refine wp_load (cs := rfL s L a3 e3 n3) 0 rfl rfl ?_
    cases e3 with
    | some m =>
      have h0 := eI_ne he3
      (conv => arg 2; whnf); refine wp_ite (fun h => Bool.noConfusion (h0.symm.trans h)) (fun _ => ?_)
      (repeat ((conv => arg 2; whnf); first | refine wp_ite (fun _ => ?_) (fun h => Bool.noConfusion h) | refine wp_ite (fun h => Bool.noConfusion h) (fun _ => ?_)))
      (conv => arg 2; whnf); refine wp_callF [] [.obj b (rfL s L a3 (some m) n3)] [.obj c exZ, .obj f (exC x)] rfl (rfails_call b s L a3 (some m) n3 10 he3) ?_
      rintro v R1 ⟨rfl, rfl⟩
      (conv => arg 2; whnf); refine wp_storeE (cs := exZ) 1 0 (exC ex0) rfl rfl ex0_vle (Nat.le_refl _) rfl (R' := [.obj b (rfL s L a3 (some m) n3), .obj c (exC ex0), .obj f (exC x)]) rfl ?_
      (conv => arg 2; whnf); refine w_ret1k (R' := [.obj b (rfL s L a3 (some m) n3)]) c 0 1 rfl rfl rfl rfl rfl (Vle.refl _) (by simp) ⟨ex0, l3, (some m), n3, rfl, ⟨a3, ha3, hl3, rfl⟩, by rw [hf, hS.2 m rfl, thenE_e]; exact Sim.err, he3⟩
    | none =>
      have hr := hS.1 rfl
      have hn1 := nodeE_n _ _ _ hr
      have hs1 := (nodeE_ok _ _ _ hallr hr).2.2
      have hall3 := hallr.suf hs1
      have hw3 : l3.headD wd0 = wd0 ∨ WdOk s.length (l3.headD wd0) := by
        cases l3 with
        | nil => exact .inl rfl
        | cons w r => exact .inr (hall3 w (List.mem_cons_self ..))
      (repeat ((conv => arg 2; whnf); first | refine wp_ite (fun _ => ?_) (fun h => Bool.noConfusion h) | refine wp_ite (fun h => Bool.noConfusion h) (fun _ => ?_)))
      (conv => arg 2; whnf); refine wp_callF [] [.obj b (rfL s L a3 none n3)] [.obj c exZ, .obj f (exC x)] rfl (peek_call b s L l3 a3 none n3 ha3 hl3) ?_
      rintro v R1 ⟨rfl, rfl⟩
      (conv => arg 2; whnf); refine wp_pcall (rop_call (l3.headD wd0) hw3) ?_
      have ho0 : (osW (l3.headD wd0) == 0) = decide (osW (l3.headD wd0) = 0) := by rw [Bool.eq_iff_iff, beq_iff_eq, decide_eq_true_eq]
      (conv => arg 2; whnf); refine wp_ite (fun h => ?_) (fun h => ?_)
      · have ho := of_decide_eq_true (ho0.symm.trans h)
        (conv => arg 2; whnf); refine wp_callF [] [.obj b (rfL s L a3 none n3)] [.obj c exZ, .obj f (exC x)] rfl (rfails_call b s L a3 none n3 10 (by decide)) ?_
        rintro v R1 ⟨rfl, rfl⟩
        (conv => arg 2; whnf); refine wp_storeE (cs := exZ) 1 0 (exC ex0) rfl rfl ex0_vle (Nat.le_refl _) rfl (R' := [.obj b (rfL s L a3 (some 10) n3), .obj c (exC ex0), .obj f (exC x)]) rfl ?_
        (conv => arg 2; whnf); refine w_ret1k (R' := [.obj b (rfL s L a3 (some 10) n3)]) c 0 1 rfl rfl rfl rfl rfl (Vle.refl _) (by simp) ⟨ex0, l3, (some 10), n3, rfl, ⟨a3, ha3, hl3, rfl⟩, by rw [hf, hr, thenE_o, osE_f ho, thenE_e]; exact Sim.err, by decide⟩
      · have ho := of_decide_eq_false (ho0.symm.trans h)
        have hl3n : l3 ≠ [] := by rintro rfl; exact ho rfl
        obtain ⟨ha4, hl4⟩ := drop_tail hl3 hl3n
        have hc2 := ih (a3 + 1) l3.tail n3 ha4 hl4 hn1 hall3.tail
        (conv => arg 2; whnf)
        refine wp_cutR (frL [(0, .loc b 0), (1, i64V deep), (4, .loc c 0), (10, .loc f 0), (11, i64V (osW (l3.headD wd0)))]) [.obj b (rfL s L a3 none n3), .obj c exZ, .obj f (exC x)] (.cons (.refl _) (.cons (.refl _) (.cons (.refl _) (.cons (.refl _) (.cons (.refl _) (.nil _)))))) (List.Sublist.refl _) ?_
        (conv => arg 2; whnf); refine wp_load (cs := rfL s L a3 none n3) 0 rfl rfl ?_
        (conv => arg 2; whnf); refine wp_storeE (cs := rfL s L a3 none n3) 0 2 [i64V ((a3 + 1 : Nat) : Int)] rfl rfl (.cons (Vle.inc a3 rfl (by omega)) .nil) (Nat.le_of_ble_eq_true rfl) rfl (R' := [.obj b (rfL s L (a3 + 1) none n3), .obj c exZ, .obj f (exC x)]) rfl ?_
        (conv => arg 2; whnf); refine wp_callV [] [.obj b (rfL s L (a3 + 1) none n3)] [.obj c exZ, .obj f (exC x)] rfl (.cons (.refl _) (.cons (Vle.inc deep rfl (by omega)) .nil)) hc2 ?_
        rintro v R1 ⟨y, l5, e5, n5, rfl, ⟨a5, ha5, hl5, rfl⟩, hS2, he5⟩
        (conv => arg 2; whnf); refine wp_allocE exZ rfl fun q => ?_
        (conv => arg 2; whnf); refine wp_storeE (cs := exZ) 3 0 (exC y) rfl rfl (VleL.refl _) (Nat.le_refl _) rfl (R' := [.obj b (rfL s L a5 e5 n5), .obj c exZ, .obj f (exC x), .obj q (exC y)]) rfl ?_
        (conv => arg 2; whnf); refine wp_callF [] [.obj b (rfL s L a5 e5 n5)] [.obj c exZ, .obj f (exC x), .obj q (exC y)] rfl (want_call b s L l5 a5 e5 n5 5 [41] (by decide) (by decide) he5 ha5 hl5 hL) ?_
        rintro v R1 ⟨rfl, a6, ha6, hl6, rfl⟩
        (conv => arg 2; whnf)
        refine wp_cutR (frL [(4, .loc c 0), (10, .loc f 0), (11, i64V (osW (l3.headD wd0))), (12, .loc q 0)]) [.obj b (rfL s L a6 (mustX l5 e5 5 [41]) n5), .obj c exZ, .obj f (exC x), .obj q (exC y)] (.cons (.refl _) (.cons (.refl _) (.cons (.refl _) (.cons (.refl _) (.nil _))))) (List.Sublist.refl _) ?_
        (conv => arg 2; whnf); refine wp_load (cs := exC x) 2 rfl rfl ?_
        (conv => arg 2; whnf); refine wp_load (cs := exC y) 3 rfl rfl ?_
        (conv => arg 2; whnf); refine wp_storeE (cs := exZ) 1 0 (exC (.mk (osW (l3.headD wd0)) val0 [] [] [x, y])) rfl rfl (two_vle (osW (l3.headD wd0)) x y) (Nat.le_refl _) rfl (R' := [.obj b (rfL s L a6 (mustX l5 e5 5 [41]) n5), .obj c (exC (.mk (osW (l3.headD wd0)) val0 [] [] [x, y])), .obj f (exC x), .obj q (exC y)]) rfl ?_
        (conv => arg 2; whnf); refine w_ret1k (R' := [.obj b (rfL s L a6 (mustX l5 e5 5 [41]) n5)]) c 0 1 rfl rfl rfl rfl rfl (Vle.refl _) (by simp) ⟨_, _, _, _, rfl, ⟨a6, ha6, hl6, rfl⟩, by rw [hf, hr, thenE_o, osE_t ho, thenE_o]; exact Sim.bind hS2 (fun m hm => by rw [hm, mustX_some]) (fun h => by rw [h]; exact sim_must (by decide)), mustX_ne he5⟩

theorem rexpr_call (b : Nat) (s : List UInt8) (hs : s.length < 2 ^ 40) (L : List Wd) (hL : L.length < 2 ^ 40) : ∀ (k deep : Nat) (a : Nat) (l : List Wd) (n : Nat), deep + k = 6 → a ≤ L.length → L.drop a = l → n ≤ 24 → AllOk s.length l → SCall Tryz.prog 33 [.loc b 0, i64V (deep : Int)] [.obj b (rfL s L a none n)] (RK exC b s L (nodeE s k l n))
  | 0, deep, a, l, n, hd, ha, hl, hn, hall => by
    obtain rfl : deep = 6 := by omega
    exact rexpr_zero b s hs L hL a l n ha hl hn hall
  | k + 1, deep, a, l, n, hd, ha, hl, hn, hall => rexpr_succ b s hs L hL k deep (by omega) (fun a l n ha hl hn hall => rexpr_call b s hs L hL k (deep + 1) a l n (by omega) ha hl hn hall) a l n ha hl hn hall
end Go.Sv
/- The reference's parser: a pattern's element. -/
namespace Go.Sv
open Go Go.Proofs

set_option maxRecDepth 100000 in
theorem relem_call (b : Nat) (s : List UInt8) (hs : s.length < 2 ^ 40) (L : List Wd) (hL : L.length < 2 ^ 40) (a : Nat) (l : List Wd) (e : Option Nat) (n : Nat) (he : e ≠ some 0) (ha : a ≤ L.length) (hd : L.drop a = l) (hl : AllOk s.length l) (hlen : l.length ≤ 2 ^ 30) : SCall Tryz.prog 35 [.loc b 0] [.obj b (rfL s L a e n)] (RK elC b s L (startE e (elemE s l n))) := by
  obtain ⟨b1, hb1⟩ : ∃ x, x = isP l e 5 [33] := ⟨_, rfl⟩
  obtain ⟨l1, hl1⟩ : ∃ x, x = mayL l e 5 [33] := ⟨_, rfl⟩
  have c1 := ris_call b s L l a e n 5 [33] (by decide) (by decide) he ha hd hL
  rw [← hb1, ← hl1] at c1
  obtain ⟨w2, hw2⟩ : ∃ x, x = takeW l1 e 1 := ⟨_, rfl⟩
  obtain ⟨l2, hl2⟩ : ∃ x, x = mayL l1 e 1 [] := ⟨_, rfl⟩
  obtain ⟨e2, he2⟩ : ∃ x, x = mustX l1 e 1 [] := ⟨_, rfl⟩
  obtain ⟨l3, hl3⟩ : ∃ x, x = mayL l2 e2 5 [58] := ⟨_, rfl⟩
  obtain ⟨e3, he3⟩ : ∃ x, x = mustX l2 e2 5 [58] := ⟨_, rfl⟩
  obtain ⟨w4, hw4⟩ : ∃ x, x = takeW l3 e3 1 := ⟨_, rfl⟩
  obtain ⟨l4, hl4⟩ : ∃ x, x = mayL l3 e3 1 [] := ⟨_, rfl⟩
  obtain ⟨e4, he4⟩ : ∃ x, x = mustX l3 e3 1 [] := ⟨_, rfl⟩
  have n2 : e2 ≠ some 0 := by rw [he2]; exact mustX_ne he
  have n3 : e3 ≠ some 0 := by rw [he3]; exact mustX_ne n2
  have n4 : e4 ≠ some 0 := by rw [he4]; exact mustX_ne n3
  have s4 : l4 <:+ l := by
    rw [hl4, hl3, hl2, hl1]
    exact (mayL_suf _ _ _ _).trans ((mayL_suf _ _ _ _).trans ((mayL_suf _ _ _ _).trans (mayL_suf _ _ _ _)))
  have inv0 : TyInv (startE e4 (typesE l4.length [w4.text] l4 n)) l4.length [w4.text] l4 e4 n (2 ^ 30 + 1) l4 := by
    refine ⟨List.suffix_refl _, fun h => ?_, fun k h => ?_, ?_⟩
    · rw [h]; exact ⟨rfl, Nat.le_refl _⟩
    · rw [h]; rfl
    · have := suf_len s4
      rw [List.length_singleton]; omega
  refine scall_of (live := [16, 21, 23, 2200000, 10002300000]) (ords := [(3, []), (6, [2, 0, 1, 3, 4, 5, 6, 7, 8]), (7, []), (12, [])]) Tryz.func35 rfl (by kernel_rfl) (by kernel_rfl) (Nat.le_of_ble_eq_true rfl) ?_
  (conv => arg 2; whnf); refine wp_allocE elZ rfl fun c => ?_
  (conv => arg 2; whnf); refine wp_callF [] [.obj b (rfL s L a e n)] [.obj c elZ] rfl c1 ?_
  rintro v R1 ⟨rfl, a1, ha1, hd1, rfl⟩
  have c2 := some_call b s L l1 a1 e n 1 (by decide) he ha1 hd1 hL
  rw [← hw2, ← hl2, ← he2] at c2
  (conv => arg 2; whnf); refine wp_allocD elZ rfl fun d hfr => ?_
  have hne : d ≠ b := fun e => hfr 0 b _ rfl (List.cons_ne_nil _ _) e.symm
  clear hfr
  (conv => arg 2; whnf); refine wp_storeE (cs := elZ) 2 0 (elH [] b1) rfl rfl (VleL.refl _) (Nat.le_refl _) rfl (R' := [.obj b (rfL s L a1 e n), .obj c elZ, .obj d (elH [] b1)]) rfl ?_
  (conv => arg 2; whnf); refine wp_callF [] [.obj b (rfL s L a1 e n)] [.obj c elZ, .obj d (elH [] b1)] rfl c2 ?_
  rintro v R1 ⟨rfl, a2, ha2, hd2, rfl⟩
  have c3 := want_call b s L l2 a2 e2 n 5 [58] (by decide) (by decide) n2 ha2 hd2 hL
  rw [← hl3, ← he3] at c3
  (conv => arg 2; whnf); refine wp_storeE (cs := elH [] b1) 2 0 [str w2.text] rfl rfl (VleL.refl _) (Nat.le_of_ble_eq_true rfl) rfl (R' := [.obj b (rfL s L a2 e2 n), .obj c elZ, .obj d (elH w2.text b1)]) rfl ?_
  refine wp_cutR (frL [(0, .loc b 0), (2, .loc c 0), (3, .loc d 0)]) [.obj b (rfL s L a2 e2 n), .obj c elZ, .obj d (elH w2.text b1)] (.cons (.refl _) (.cons (.refl _) (.cons (.refl _) (.nil _)))) (List.Sublist.refl _) ?_
  (conv => arg 2; whnf); refine wp_callF [] [.obj b (rfL s L a2 e2 n)] [.obj c elZ, .obj d (elH w2.text b1)] rfl c3 ?_
  rintro v R1 ⟨rfl, a3, ha3, hd3, rfl⟩
  have c4 := some_call b s L l3 a3 e3 n 1 (by decide) n3 ha3 hd3 hL
  rw [← hw4, ← hl4, ← he4] at c4
  (conv => arg 2; whnf); refine wp_callF [] [.obj b (rfL s L a3 e3 n)] [.obj c elZ, .obj d (elH w2.text b1)] rfl c4 ?_
  rintro v R1 ⟨rfl, a4, ha4, hd4, rfl⟩
  (conv => arg 2; whnf)
  intro t0
  (conv => arg 2; whnf); refine wp_storeE (cs := elH w2.text b1) 2 1 [.sl none [str w4.text] (.t t0)] rfl rfl (VleL.refl _) (Nat.le_of_ble_eq_true rfl) rfl (R' := [.obj b (rfL s L a4 e4 n), .obj c elZ, .obj d (elK t0 w2.text [w4.text] false b1 exZ), .tok t0 none]) rfl ?_
  (conv => arg 2; whnf); refine wp_loop (fun m fr R => ∃ acc l5 e5 t a5, a5 ≤ L.length ∧ L.drop a5 = l5 ∧ e5 ≠ some 0 ∧ TyInv (startE e4 (typesE l4.length [w4.text] l4 n)) m acc l5 e5 n (2 ^ 30 + 1) l4 ∧ R = [.obj b (rfL s L a5 e5 n), .obj c elZ, .obj d (elK t w2.text acc false b1 exZ), .tok t none] ∧ fr = frL [(0, .loc b 0), (2, .loc c 0), (3, .loc d 0)])
    l4.length _ _ (.cons (.refl _) (.cons (.refl _) (.cons (.refl _) (.nil _)))) (List.Sublist.refl _) ⟨_, _, _, _, a4, ha4, hd4, n4, inv0, rfl, rfl⟩ ?_
  rintro m fr R ⟨acc, l5, e5, t, a5, ha5, hd5, n5, hI, rfl, rfl⟩
  have cb := ris_call b s L l5 a5 e5 n 5 [124] (by decide) (by decide) n5 ha5 hd5 hL
  (conv => arg 2; whnf); refine wp_callF [] [.obj b (rfL s L a5 e5 n)] [.obj c elZ, .obj d (elK t w2.text acc false b1 exZ), .tok t none] rfl cb ?_
  rintro v R1 ⟨rfl, a6, ha6, hd6, rfl⟩
  (conv => arg 2; whnf); refine wp_ite (fun hb => ?_) (fun hb => ?_)
  · rw [mayL, show isP l5 e5 5 [124] = true from hb, if_pos rfl] at hd6
    obtain ⟨rfl, hI2, hm, hlt⟩ := hI.step hb
    have cs := some_call b s L l5.tail a6 none n 1 (by decide) (by decide) ha6 hd6 hL
    have n7 : mustX l5.tail none 1 [] ≠ some 0 := mustX_ne (by decide)
    have hlen2 : (acc.map str).length + 1 ≤ 2 ^ 30 + 2 := by rw [List.length_map]; omega
    (conv => arg 2; whnf)
    refine wp_cutR (frL [(0, .loc b 0), (2, .loc c 0), (3, .loc d 0)]) [.obj b (rfL s L a6 none n), .obj c elZ, .obj d (elK t w2.text acc false b1 exZ), .tok t none] (.cons (.refl _) (.cons (.refl _) (.cons (.refl _) (.nil _)))) (List.Sublist.refl _) ?_
    (conv => arg 2; whnf); refine wp_need (lates1 d 1 b 0 rfl rfl rfl hne) ?_
    (conv => arg 2; whnf); refine wp_load (cs := elK t w2.text acc false b1 exZ) 2 rfl rfl ?_
    (conv => arg 2; whnf); refine wp_dcall [] [.obj b (rfL s L a6 none n)] [.obj c elZ, .obj d (elK t w2.text acc false b1 exZ), .tok t none] rfl (okq1 0 (by decide) rfl) cs ?_
    rintro v R1 ⟨rfl, a7, ha7, hd7, rfl⟩
    (conv => arg 2; whnf); refine wp_append_tok 3 rfl (one_str _) (Nat.le_trans (Nat.mul_le_mul_right _ hlen2) (Nat.le_of_ble_eq_true rfl)) fun t' => ?_
    (conv => arg 2; whnf); refine wp_storeE (cs := elK t w2.text acc false b1 exZ) 2 1 [.sl none ((acc ++ [(takeW l5.tail none 1).text]).map str) (.t t')] rfl rfl (.cons (Vle.eq (ty_app _ _ _)) .nil) (Nat.le_of_ble_eq_true rfl) rfl (R' := [.obj b (rfL s L a7 (mustX l5.tail none 1 []) n), .obj c elZ, .obj d (elK t' w2.text (acc ++ [(takeW l5.tail none 1).text]) false b1 exZ), .tok t' none]) rfl ?_
    (conv => arg 2; whnf)
    exact wp_leaf (loop_next (m - 1) _ _ (by omega) (.cons (.refl _) (.cons (.refl _) (.cons (.refl _) (.nil _)))) (List.Sublist.refl _) ⟨_, _, _, _, a7, ha7, hd7, n7, hI2, rfl, rfl⟩)
  rw [mayL, show isP l5 e5 5 [124] = false from hb, if_neg (by decide)] at hd6
  have hS := hI.fin hb
  have s5 : l5 <:+ l := hI.suf.trans s4
  clear hI
  (conv => arg 2; whnf)
  refine wp_leaf (loop_exit ?_)
  refine wp_cutR (frL [(0, .loc b 0), (2, .loc c 0), (3, .loc d 0)]) [.obj b (rfL s L a6 e5 n), .obj c elZ, .obj d (elK t w2.text acc false b1 exZ)] (.cons (.refl _) (.cons (.refl _) (.cons (.refl _) (.nil _)))) (by simp) ?_
  (conv => arg 2; whnf); refine wp_callF [] [.obj b (rfL s L a6 e5 n)] [.obj c elZ, .obj d (elK t w2.text acc false b1 exZ)] rfl (ris_call b s L l5 a6 e5 n 5 [43] (by decide) (by decide) n5 ha6 hd6 hL) ?_
  rintro v R1 ⟨rfl, a8, ha8, hd8, rfl⟩
  have cc := ris_call b s L _ a8 e5 n 5 [91] (by decide) (by decide) n5 ha8 hd8 hL
  (conv => arg 2; whnf); refine wp_storeE (cs := elK t w2.text acc false b1 exZ) 2 2 [bV (isP l5 e5 5 [43])] rfl rfl (VleL.refl _) (Nat.le_of_ble_eq_true rfl) rfl (R' := [.obj b (rfL s L a8 e5 n), .obj c elZ, .obj d (elK t w2.text acc (isP l5 e5 5 [43]) b1 exZ)]) rfl ?_
  (conv => arg 2; whnf); refine wp_callF [] [.obj b (rfL s L a8 e5 n)] [.obj c elZ, .obj d (elK t w2.text acc (isP l5 e5 5 [43]) b1 exZ)] rfl cc ?_
  rintro v R1 ⟨rfl, a9, ha9, hd9, rfl⟩
  (conv => arg 2; whnf); refine wp_ite (fun hk => ?_) (fun hk => ?_)
  · rw [mayL, show isP (mayL l5 e5 5 [43]) e5 5 [91] = true from hk, if_pos rfl] at hd9
    have he5 := isP_none hk
    have s7 : (mayL l5 e5 5 [43]).tail <:+ l := (tail_suf _).trans ((mayL_suf _ _ _ _).trans s5)
    have cn := rexpr_call b s hs L hL 5 1 a9 (mayL l5 e5 5 [43]).tail 0 rfl ha9 hd9 (by omega) (hl.suf s7)
    rw [← he5] at cn
    (conv => arg 2; whnf); refine wp_storeE (cs := rfL s L a9 e5 n) 0 3 [i64V 0] rfl rfl (VleL.refl _) (Nat.le_of_ble_eq_true rfl) rfl (R' := [.obj b (rfL s L a9 e5 0), .obj c elZ, .obj d (elK t w2.text acc (isP l5 e5 5 [43]) b1 exZ)]) rfl ?_
    (conv => arg 2; whnf); refine wp_callF [] [.obj b (rfL s L a9 e5 0)] [.obj c elZ, .obj d (elK t w2.text acc (isP l5 e5 5 [43]) b1 exZ)] rfl cn ?_
    rintro v R1 ⟨x, l8, e8, n8, rfl, ⟨aa, haa, hda, rfl⟩, hN, m8⟩
    (conv => arg 2; whnf); refine wp_storeE (cs := elK t w2.text acc (isP l5 e5 5 [43]) b1 exZ) 2 4 (exC x) rfl rfl (VleL.refl _) (Nat.le_of_ble_eq_true rfl) rfl (R' := [.obj b (rfL s L aa e8 n8), .obj c elZ, .obj d (elK t w2.text acc (isP l5 e5 5 [43]) b1 (exC x))]) rfl ?_
    (conv => arg 2; whnf); refine wp_callF [] [.obj b (rfL s L aa e8 n8)] [.obj c elZ, .obj d (elK t w2.text acc (isP l5 e5 5 [43]) b1 (exC x))] rfl (want_call b s L l8 aa e8 n8 5 [93] (by decide) (by decide) m8 haa hda hL) ?_
    rintro v R1 ⟨rfl, ab, hab, hdb, rfl⟩
    (conv => arg 2; whnf)
    refine wp_cutR (frL [(2, .loc c 0), (3, .loc d 0)]) [.obj b (rfL s L ab (mustX l8 e8 5 [93]) n8), .obj c elZ, .obj d (elK t w2.text acc (isP l5 e5 5 [43]) b1 (exC x))] (.cons (.refl _) (.cons (.refl _) (.nil _))) (by simp) ?_
    (conv => arg 2; whnf); refine wp_load (cs := elK t w2.text acc (isP l5 e5 5 [43]) b1 (exC x)) 2 rfl rfl ?_
    (conv => arg 2; whnf); refine wp_storeE (cs := elZ) 1 0 (elC ⟨w2.text, acc, isP l5 e5 5 [43], b1, x⟩) rfl rfl (elK_vle t w2.text acc (isP l5 e5 5 [43]) b1 (VleL.refl _)) (Nat.le_refl _) rfl (R' := [.obj b (rfL s L ab (mustX l8 e8 5 [93]) n8), .obj c (elC ⟨w2.text, acc, isP l5 e5 5 [43], b1, x⟩), .obj d (elK t w2.text acc (isP l5 e5 5 [43]) b1 (exC x))]) rfl ?_
    (conv => arg 2; whnf); refine w_ret1k (R' := [.obj b (rfL s L ab (mustX l8 e8 5 [93]) n8)]) c 0 1 rfl rfl rfl rfl rfl (Vle.refl _) (by simp) ⟨_, _, _, _, rfl, ⟨ab, hab, hdb, rfl⟩, elem_sim hb1 hl1 hw2 hl2 he2 hl3 he3 hw4 hl4 he4 hS rfl rfl (fun m hm => by rw [he5] at hm; cases hm) (cond_yes hk hN), mustX_ne m8⟩
  rw [mayL, show isP (mayL l5 e5 5 [43]) e5 5 [91] = false from hk, if_neg (by decide)] at hd9
  (conv => arg 2; whnf)
  refine wp_cutR (frL [(2, .loc c 0), (3, .loc d 0)]) [.obj b (rfL s L a9 e5 n), .obj c elZ, .obj d (elK t w2.text acc (isP l5 e5 5 [43]) b1 exZ)] (.cons (.refl _) (.cons (.refl _) (.nil _))) (by simp) ?_
  (conv => arg 2; whnf); refine wp_load (cs := elK t w2.text acc (isP l5 e5 5 [43]) b1 exZ) 2 rfl rfl ?_
  (conv => arg 2; whnf); refine wp_storeE (cs := elZ) 1 0 (elC ⟨w2.text, acc, isP l5 e5 5 [43], b1, ex0⟩) rfl rfl (elK_vle t w2.text acc (isP l5 e5 5 [43]) b1 exZ_vle) (Nat.le_refl _) rfl (R' := [.obj b (rfL s L a9 e5 n), .obj c (elC ⟨w2.text, acc, isP l5 e5 5 [43], b1, ex0⟩), .obj d (elK t w2.text acc (isP l5 e5 5 [43]) b1 exZ)]) rfl ?_
  (conv => arg 2; whnf); refine w_ret1k (R' := [.obj b (rfL s L a9 e5 n)]) c 0 1 rfl rfl rfl rfl rfl (Vle.refl _) (by simp) ⟨_, _, _, _, rfl, ⟨a9, ha9, hd9, rfl⟩, elem_sim hb1 hl1 hw2 hl2 he2 hl3 he3 hw4 hl4 he4 hS rfl rfl (fun m hm => hm) (cond_no hk), n5⟩
end Go.Sv
/- The reference's parser: of a text. -/
namespace Go.Sv
open Go Go.Proofs

def rexV : Except Nat Ex → V
  | .ok x => .tup [.agg (exC x), i64V 0]
  | .error e => .tup [.agg (exC ex0), i64V e]
def rpaV : Except Nat Pa → V
  | .ok x => .tup [.agg (paC x), i64V 0]
  | .error e => .tup [.agg (paC pa0), i64V e]
theorem items_err0 : ∀ (f a : Nat) (l : List UInt8), ∀ p ∈ itemsF f a l, ∀ e, p.2 = some e → e ≠ 0
  | 0, _, _, p, hp, _, _ => by simp [itemsF] at hp
  | f + 1, _, [], p, hp, _, _ => by simp [itemsF] at hp
  | f + 1, a, c :: r, p, hp, e, he => by
    rw [itemsF_step] at hp
    split at hp
    · exact items_err0 f _ r p hp e he
    · cases hx : nextR (c :: r) with
      | error k =>
        rw [hx] at hp
        rw [List.mem_singleton.1 hp] at he
        have := nextR_err hx
        cases he
        omega
      | ok x =>
        rw [hx] at hp
        rcases List.mem_cons.1 hp with rfl | hp
        · cases he
        · exact items_err0 f _ _ p hp e he
theorem collect_err0 : ∀ (L : List (Wd × Option Nat)) (out : List Wd) {e : Nat}, (∀ p ∈ L, ∀ e, p.2 = some e → e ≠ 0) → collect out L = .error e → e ≠ 0
  | [], out, e, _, h => by cases h
  | (w, some k) :: L, out, e, hL, h => by
    cases h
    exact hL (w, some k) (by simp) k rfl
  | (w, none) :: L, out, e, hL, h => by
    have h' : (if 500 < (out ++ [w]).length then (.error 12 : Except Nat (List Wd)) else collect (out ++ [w]) L) = .error e := h
    split at h'
    · cases h'; decide
    · exact collect_err0 L _ (fun p hp => hL p (by simp [hp])) h'
theorem cutW_err0 {s : List UInt8} {e : Nat} (h : cutW s = .error e) : e ≠ 0 := collect_err0 _ _ (items_err0 _ _ _) h
theorem at_of {L l : List Wd} {a : Nat} (ha : a ≤ L.length) (h : L.drop a = l) : a = L.length - l.length := by
  have := congrArg List.length h
  rw [List.length_drop] at this
  omega
theorem at_nil {L l : List Wd} {a : Nat} (ha : a ≤ L.length) (h : L.drop a = l) : ((a : Int) == (L.length : Int)) = decide (l = []) := by
  have h1 := congrArg List.length h
  rw [List.length_drop] at h1
  rw [Bool.eq_iff_iff, beq_iff_eq, decide_eq_true_eq, ← List.length_eq_zero_iff]
  omega
theorem eI_s {k : Nat} (h : some k ≠ some 0) : (eI (some k) == 0) = false := by rw [eI_ne h]; rfl

set_option maxRecDepth 100000 in
theorem refparseexpr_call (s : List UInt8) (hs : s.length < 2 ^ 40) : PCall Tryz.prog 14 [str s] (rexV (parseExE s)) := by
  have f1 := rcut_call s hs
  refine scall_of (live := [20, 49, 5000002]) (ords := []) Tryz.func14 rfl (by kernel_rfl) (by kernel_rfl) (Nat.le_of_ble_eq_true rfl) ?_
  cases hc : cutW s with
  | error k =>
    rw [hc] at f1
    have hk : (!((k : Int) == 0)) = true := by have := cutW_err0 hc; simpa using this
    have hr : parseExE s = .error k := by rw [parseExE, hc]
    (conv => arg 2; whnf); refine wp_allocE exZ rfl fun c => ?_
    (conv => arg 2; whnf); refine wp_pcall f1 ?_
    (conv => arg 2; whnf); refine wp_ite (fun _ => ?_) (fun h => Bool.noConfusion (hk.symm.trans h))
    (conv => arg 2; whnf); refine wp_storeE (cs := exZ) 0 0 (exC ex0) rfl rfl ex0_vle (Nat.le_refl _) rfl (R' := [.obj c (exC ex0)]) rfl ?_
    (conv => arg 2; whnf); refine w_ret2ck (R' := []) (a := .agg (exC ex0)) (u := i64V k) c 0 0 rfl rfl rfl rfl rfl (Vle.refl _) (Vle.refl _) (List.nil_sublist _) (by rw [hr]; rfl)
  | ok l =>
    rw [hc] at f1
    obtain ⟨hl, hlen⟩ := cutW_ok hc
    have hL : l.length < 2 ^ 40 := by omega
    have cn := fun b => rexpr_call b s hs l hL 5 1 0 l 0 rfl (Nat.zero_le _) rfl (by omega) hl
    (conv => arg 2; whnf); refine wp_allocE exZ rfl fun c => ?_
    (conv => arg 2; whnf); refine wp_pcall f1 ?_
    (repeat ((conv => arg 2; whnf); first | refine wp_ite (fun _ => ?_) (fun h => Bool.noConfusion h) | refine wp_ite (fun h => Bool.noConfusion h) (fun _ => ?_)))
    (conv => arg 2; whnf); refine wp_allocD (rfL s l 0 none 0) rfl fun b hfr => ?_
    have hne : b ≠ c := fun e => hfr 0 c _ rfl (List.cons_ne_nil _ _) e.symm
    clear hfr
    (conv => arg 2; whnf); refine wp_callF [.obj c exZ] [.obj b (rfL s l 0 none 0)] [] rfl (cn b) ?_
    rintro v R1 ⟨x, l1, e1, n1, rfl, ⟨a1, ha1, hd1, rfl⟩, hN, m1⟩
    (conv => arg 2; whnf); refine wp_allocE exZ rfl fun d => ?_
    (conv => arg 2; whnf); refine wp_storeE (cs := exZ) 2 0 (exC x) rfl rfl (VleL.refl _) (Nat.le_refl _) rfl (R' := [.obj c exZ, .obj b (rfL s l a1 e1 n1), .obj d (exC x)]) rfl ?_
    (conv => arg 2; whnf); refine wp_load (cs := rfL s l a1 e1 n1) 1 rfl rfl ?_
    cases e1 with
    | some m =>
      have hm := eI_s m1
      have hm2 : (!(eI (some m) == 0)) = true := by rw [hm]; rfl
      have hr : parseExE s = .error m := by rw [parseExE, hc]; simp only; rw [hN.2 m rfl]; rfl
      (conv => arg 2; whnf); refine wp_ite (fun h => Bool.noConfusion (hm.symm.trans h)) (fun _ => ?_)
      (repeat ((conv => arg 2; whnf); first | refine wp_ite (fun _ => ?_) (fun h => Bool.noConfusion h) | refine wp_ite (fun h => Bool.noConfusion h) (fun _ => ?_)))
      (conv => arg 2; whnf); refine wp_load (cs := rfL s l a1 (some m) n1) 1 rfl rfl ?_
      (conv => arg 2; whnf); refine wp_ite (fun _ => ?_) (fun h => Bool.noConfusion (hm2.symm.trans h))
      (conv => arg 2; whnf); refine wp_need (lates1 b 4 c 0 rfl rfl rfl hne) ?_
      (conv => arg 2; whnf); refine wp_load (cs := rfL s l a1 (some m) n1) 1 rfl rfl ?_
      (conv => arg 2; whnf); refine wp_storeE (cs := exZ) 0 0 (exC ex0) rfl rfl ex0_vle (Nat.le_refl _) rfl (R' := [.obj c (exC ex0), .obj b (rfL s l a1 (some m) n1), .obj d (exC x)]) rfl ?_
      (conv => arg 2; whnf); refine w_ret2ck (R' := []) (a := .agg (exC ex0)) (u := i64V m) c 0 0 rfl rfl rfl rfl rfl (Vle.refl _) (Vle.refl _) (List.nil_sublist _) (by rw [hr]; rfl)
    | none =>
      have hat : ((a1 : Int) == (((l.map wdV).length : Nat) : Int)) = decide (l1 = []) := by rw [List.length_map]; exact at_nil ha1 hd1
      (repeat ((conv => arg 2; whnf); first | refine wp_ite (fun _ => ?_) (fun h => Bool.noConfusion h) | refine wp_ite (fun h => Bool.noConfusion h) (fun _ => ?_)))
      (conv => arg 2; whnf); refine wp_load (cs := rfL s l a1 none n1) 1 rfl rfl ?_
      by_cases h1 : l1 = []
      · have hat2 : (!((a1 : Int) == (((l.map wdV).length : Nat) : Int))) = false := by rw [hat, decide_eq_true h1]; rfl
        have hr : parseExE s = .ok x := by rw [parseExE, hc]; simp only; rw [hN.1 rfl, endE, if_pos h1]
        (conv => arg 2; whnf); refine wp_ite (fun h => Bool.noConfusion (hat2.symm.trans h)) (fun _ => ?_)
        (conv => arg 2; whnf); refine wp_load (cs := rfL s l a1 none n1) 1 rfl rfl ?_
        (repeat ((conv => arg 2; whnf); first | refine wp_ite (fun _ => ?_) (fun h => Bool.noConfusion h) | refine wp_ite (fun h => Bool.noConfusion h) (fun _ => ?_)))
        (conv => arg 2; whnf); refine wp_load (cs := exC x) 2 rfl rfl ?_
        (conv => arg 2; whnf); refine wp_storeE (cs := exZ) 0 0 (exC x) rfl rfl (VleL.refl _) (Nat.le_refl _) rfl (R' := [.obj c (exC x), .obj b (rfL s l a1 none n1), .obj d (exC x)]) rfl ?_
        (conv => arg 2; whnf); refine w_ret2ck (R' := []) (a := .agg (exC x)) (u := i64V 0) c 0 0 rfl rfl rfl rfl rfl (Vle.refl _) (Vle.refl _) (List.nil_sublist _) (by rw [hr]; rfl)
      · have hat2 : (!((a1 : Int) == (((l.map wdV).length : Nat) : Int))) = true := by rw [hat, decide_eq_false h1]; rfl
        have hr : parseExE s = .error 10 := by rw [parseExE, hc]; simp only; rw [hN.1 rfl, endE, if_neg h1]
        (conv => arg 2; whnf); refine wp_ite (fun _ => ?_) (fun h => Bool.noConfusion (hat2.symm.trans h))
        (conv => arg 2; whnf); refine wp_storeE (cs := rfL s l a1 none n1) 1 4 [i64V 10] rfl rfl (VleL.refl _) (Nat.le_of_ble_eq_true rfl) rfl (R' := [.obj c exZ, .obj b (rfL s l a1 (some 10) n1), .obj d (exC x)]) rfl ?_
        (conv => arg 2; whnf); refine wp_load (cs := rfL s l a1 (some 10) n1) 1 rfl rfl ?_
        (repeat ((conv => arg 2; whnf); first | refine wp_ite (fun _ => ?_) (fun h => Bool.noConfusion h) | refine wp_ite (fun h => Bool.noConfusion h) (fun _ => ?_)))
        (conv => arg 2; whnf); refine wp_need (lates1 b 4 c 0 rfl rfl rfl hne) ?_
        (conv => arg 2; whnf); refine wp_load (cs := rfL s l a1 (some 10) n1) 1 rfl rfl ?_
        (conv => arg 2; whnf); refine wp_storeE (cs := exZ) 0 0 (exC ex0) rfl rfl ex0_vle (Nat.le_refl _) rfl (R' := [.obj c (exC ex0), .obj b (rfL s l a1 (some 10) n1), .obj d (exC x)]) rfl ?_
        (conv => arg 2; whnf); refine w_ret2ck (R' := []) (a := .agg (exC ex0)) (u := i64V 10) c 0 0 rfl rfl rfl rfl rfl (Vle.refl _) (Vle.refl _) (List.nil_sublist _) (by rw [hr]; rfl)
end Go.Sv
