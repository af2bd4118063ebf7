/- Reading, syncing, crashing. -/
import Derived.Test.YtgkfpgkpdkmjbaaDisk2
namespace Go.Sv
open Go Go.Proofs

theorem kept_true (l : List (Nat × List UInt8)) : kept (fun _ => true) 0 l = l := kept_all l 0
theorem DOk.ne {D : Dk} (h : DOk D) : D.sure ≠ [] := by intro e; have := h.n; rw [e] at this; cases this

def wrV (d : Nat) (gw : FuncId) (cw : List V) : V := .fn (.func 67) [] [.pt none (.loc d 0) 0, .pt none (.fn (.func gw) [] cw) 0]
theorem dlaid_call (d : Nat) (t : Option Nat) (D : Dk) (ht : t = none → D.loose = []) (hl : D.loose.length < 2 ^ 40) (hD : DOk D) (gw : FuncId) (cw : List V) (want : Nat → Bool) (hw : ∀ k, k < D.loose.length → PCall Try.prog gw ([i64V k] ++ cw) (bV (want k))) :
    SCall Try.prog 53 [slS D.sure, wrV d gw cw] (DRes d t D) fun v R' => v = slS (laidW D.sure (kept want 0 D.loose)) ∧ R' = DRes d t D :=
  laid_call D.sure (kept want 0 D.loose) (DRes d t D) _ [] _ hD.ne (by rw [hD.n]; omega) (by intro w hw; rw [hD.n]; exact (hD.l w (kept_mem _ _ w hw)).1) (writes_iter d t D ht hl gw cw want hw)
theorem dnow_call (d : Nat) (t : Option Nat) (D : Dk) (ht : t = none → D.loose = []) (hl : D.loose.length < 2 ^ 40) (hD : DOk D) (gw : FuncId) (hf : gw = 56 ∨ gw = 57) :
    SCall Try.prog 53 [slS D.sure, wrV d gw []] (DRes d t D) fun v R' => v = slS (dNow D) ∧ R' = DRes d t D := by
  have := dlaid_call d t D ht hl hD gw [] (fun _ => true) (fun k _ => true_call gw k hf)
  rwa [kept_true] at this

set_option maxRecDepth 100000 in
theorem dread_call (d : Nat) (t : Option Nat) (D : Dk) (i : Int) (ht : t = none → D.loose = []) (hl : D.loose.length < 2 ^ 40) (hD : DOk D) :
    SCall Try.prog 38 [.loc d 0, i64V i] (DRes d t D) fun v R' => v = str (dRead D i) ∧ R' = DRes d t D := by
  refine scall_of (live := [14, 17]) (ords := [(3, [0, 1, 2, 3, 4, 5, 7, 6, 8, 9, 10])]) Try.func38 rfl (by kernel_rfl) (by kernel_rfl) (Nat.le_of_ble_eq_true rfl) ?_
  (conv => arg 2; whnf); refine wp_ite (fun h => ?_) (fun h => ?_)
  · (conv => arg 2; whnf); refine wp_ite (fun _ => ?_) (fun h => by first | cases h | (simp at h; done))
    (conv => arg 2; whnf); refine w_ret1 rfl (.refl _) (List.Sublist.refl _) ⟨?_, rfl⟩
    have h := of_decide_eq_true h
    rw [dRead, if_pos (.inl h)]; rfl
  have h := of_decide_eq_false h
  (conv => arg 2; whnf); refine wp_ite (fun h1 => ?_) (fun h1 => ?_)
  · (conv => arg 2; whnf); refine w_ret1 rfl (.refl _) (List.Sublist.refl _) ⟨?_, rfl⟩
    have h1 := of_decide_eq_true h1
    rw [dRead, if_pos (.inr h1)]; rfl
  have h1 := of_decide_eq_false h1
  (conv => arg 2; whnf); refine wp_cut (frL [(0, .loc d 0), (1, i64V i)]) (.cons (.refl _) (.cons (.refl _) (.nil _))) ?_
  (conv => arg 2; whnf); refine wp_load 0 rfl rfl ?_
  (conv => arg 2; whnf); refine wp_pcV (VleL.refl _) (writes_call d _ []) ?_
  (conv => arg 2; whnf); refine wp_callF [] (DRes d t D) [] (by simp) (dnow_call d t D ht hl hD _ (.inr rfl)) ?_
  rintro v R1 ⟨rfl, rfl⟩
  have h2 : i.toNat < (dNow D).length := by rw [hD.now.1]; omega
  have h3 : (dNow D)[i.toNat]? = some (dRead D i) := by
    rw [dRead, if_neg (by omega), List.getD_eq_getElem?_getD, List.getElem?_eq_getElem h2]; rfl
  (conv => arg 2; whnf); refine wp_elem i.toNat (str (dRead D i)) (by show i = _; omega) (by rw [List.getElem?_map, h3]; rfl) (Vle.refl _) ?_
  (conv => arg 2; whnf); refine w_ret1 rfl (.refl _) (List.Sublist.refl _) ⟨rfl, by simp⟩

def dsPost (d : Nat) (t : Option Nat) (D : Dk) (r : Except Nat Dk) (v : V) (R' : List Res) : Prop :=
  match r with
  | .error c => v = .c (errV (some c)) ∧ R' = DRes d t D
  | .ok D' => v = .c .nilIface ∧ R' = DRes d none D'
set_option maxRecDepth 100000 in
theorem dsync_call (d : Nat) (t : Option Nat) (D : Dk) (ht : t = none → D.loose = []) (hl : D.loose.length < 2 ^ 40) (hD : DOk D) :
    SCall Try.prog 37 [.loc d 0] (DRes d t D) (dsPost d t D (dSync D)) := by
  refine scall_of (live := [13, 16]) (ords := []) Try.func37 rfl (by kernel_rfl) (by kernel_rfl) (Nat.le_of_ble_eq_true rfl) ?_
  (conv => arg 2; whnf); refine wp_load 0 rfl rfl ?_
  (conv => arg 2; whnf); refine wp_ite (fun h => ?_) (fun h => ?_)
  · (conv => arg 2; whnf); refine w_ret1 rfl (.refl _) (List.Sublist.refl _) ?_
    rw [dSync, if_pos h]; exact ⟨rfl, rfl⟩
  rw [dSync, if_neg (by simp [h])]
  (conv => arg 2; whnf); refine wp_load 0 rfl rfl ?_
  (conv => arg 2; whnf); refine wp_pcV (VleL.refl _) (writes_call d _ []) ?_
  (conv => arg 2; whnf); refine wp_callF [] (DRes d t D) [] (by simp) (dnow_call d t D ht hl hD _ (.inl rfl)) ?_
  rintro v R1 ⟨rfl, rfl⟩
  (conv => arg 2; whnf); refine wp_storeE (cs := dkC t D) 0 0 [slS (dNow D)] rfl rfl (VleL.refl _) (by simp [dkC]) rfl (R' := [.obj d [slS (dNow D), looseV t D.loose, i64V (D.left : Nat), bV D.gone]] ++ tokR (some 2) t) (by simp [dkC, splice, DRes]) ?_
  (conv => arg 2; whnf); refine wp_storeE (cs := [slS (dNow D), looseV t D.loose, i64V (D.left : Nat), bV D.gone]) 0 1 [.sl none [] .zero] rfl rfl (VleL.refl _) (by simp) rfl (R' := [.obj d [slS (dNow D), .sl none [] .zero, i64V (D.left : Nat), bV D.gone]] ++ tokR (some 2) t) (by simp [splice]) ?_
  (conv => arg 2; whnf); refine w_ret1 rfl (.refl _) (List.sublist_append_left _ _) ⟨rfl, ?_⟩
  simp [DRes, dkC, tokR, looseV]

set_option maxRecDepth 100000 in
theorem dcrash_call (d : Nat) (t : Option Nat) (D : Dk) (keep : List Bool) (ht : t = none → D.loose = []) (hl : D.loose.length < 2 ^ 40) (hD : DOk D) :
    SCall Try.prog 33 [.loc d 0, slB keep] (DRes d t D) fun _ R' => R' = DRes d none (dCrash D keep) := by
  refine scall_of (live := [8, 12]) (ords := []) Try.func33 rfl (by kernel_rfl) (by kernel_rfl) (Nat.le_of_ble_eq_true rfl) ?_
  (conv => arg 2; whnf); refine wp_load 0 rfl rfl ?_
  (conv => arg 2; whnf); refine wp_pcV (VleL.refl _) (writes_call d _ _) ?_
  (conv => arg 2; whnf); refine wp_callF [] (DRes d t D) [] (by simp) (dlaid_call d t D ht hl hD _ _ (fun k => keep.getD k false) (fun k _ => crash1_call keep k)) ?_
  rintro v R1 ⟨rfl, rfl⟩
  (conv => arg 2; whnf); refine wp_storeE (cs := dkC t D) 0 0 [slS (dCrash D keep).sure] rfl rfl (VleL.refl _) (by simp [dkC]) rfl (R' := [.obj d [slS (dCrash D keep).sure, looseV t D.loose, i64V (D.left : Nat), bV D.gone]] ++ tokR (some 2) t) (by simp [dkC, splice, DRes]) ?_
  (conv => arg 2; whnf); refine wp_storeE (cs := [slS (dCrash D keep).sure, looseV t D.loose, i64V (D.left : Nat), bV D.gone]) 0 1 [.sl none [] .zero] rfl rfl (VleL.refl _) (by simp) rfl (R' := [.obj d [slS (dCrash D keep).sure, .sl none [] .zero, i64V (D.left : Nat), bV D.gone]] ++ tokR (some 2) t) (by simp [splice]) ?_
  (conv => arg 2; whnf); refine wp_storeE (cs := [slS (dCrash D keep).sure, .sl none [] .zero, i64V (D.left : Nat), bV D.gone]) 0 2 [i64V (0 : Nat)] rfl rfl (VleL.refl _) (by simp) rfl (R' := [.obj d [slS (dCrash D keep).sure, .sl none [] .zero, i64V (0 : Nat), bV D.gone]] ++ tokR (some 2) t) (by simp [splice]) ?_
  (conv => arg 2; whnf); refine wp_storeE (cs := [slS (dCrash D keep).sure, .sl none [] .zero, i64V (0 : Nat), bV D.gone]) 0 3 [bV false] rfl rfl (VleL.refl _) (by simp) rfl (R' := [.obj d [slS (dCrash D keep).sure, .sl none [] .zero, i64V (0 : Nat), bV false]] ++ tokR (some 2) t) (by simp [splice]) ?_
  (conv => arg 2; whnf); refine w_norm0 rfl (List.sublist_append_left _ _) ?_
  simp [DRes, dkC, tokR, looseV, dCrash]
end Go.Sv
