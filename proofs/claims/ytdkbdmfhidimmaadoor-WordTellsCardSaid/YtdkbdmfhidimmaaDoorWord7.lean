/- The package word: a text cut into words. -/
import Derived.Test.YtdkbdmfhidimmaaDoorWord6
namespace Go.Sv
open Go Go.Proofs

theorem collect_none (out : List Wd) (w : Wd) (l : List (Wd × Option Nat)) : collect out ((w, none) :: l) = if 500 < (out ++ [w]).length then .error 12 else collect (out ++ [w]) l := rfl
theorem collect_some (out : List Wd) (w : Wd) (e : Nat) (l : List (Wd × Option Nat)) : collect out ((w, some e) :: l) = .error e := rfl
def wslV (l : List Wd) : V := .sl (some 4) (l.map wdV) .no
def cutV : Except Nat (List Wd) → V
  | .ok l => .tup [wslV l, .c .nilIface]
  | .error e => .tup [wslV [], .c (errV (some e))]
theorem okE_wd (l : List Wd) : ∀ y ∈ l.map wdV, okE (some 4) y := by
  intro y hy
  obtain ⟨w, _, rfl⟩ := List.mem_map.1 hy
  exact ⟨_, rfl, rfl, by intro c hc; simp at hc; rcases hc with rfl | rfl | rfl | rfl <;> rfl⟩

set_option maxRecDepth 100000 in
set_option maxHeartbeats 1000000 in
theorem cut_call (s : List UInt8) (hs : s.length < 2 ^ 40) : PCall Tryd.prog 12 [str s] (cutV (cutW s)) := by
  have hit := words_iter s hs
  rw [cutW]
  generalize itemsF s.length 0 s = L at *
  refine scall_of (live := []) (ords := [(8, [])]) Tryd.func12 rfl (by kernel_rfl) (by kernel_rfl) (Nat.le_of_ble_eq_true rfl) ?_
  (conv => arg 2; whnf); refine wp_allocE [.sl none [] .zero] rfl fun b2 => ?_
  (conv => arg 2; whnf); refine wp_allocE [.c .nilIface] rfl fun b3 => ?_
  (conv => arg 2; whnf); refine wp_allocE [.sl none [] .zero] rfl fun b4 => ?_
  (conv => arg 2; whnf); refine wp_pcall (words_call s) ?_
  (conv => arg 2; whnf); refine wp_range hit (fun i R => ∃ t ws, R = [.obj b2 [.sl none [] .zero], .obj b3 [.c .nilIface], .obj b4 [.sl (shOf (some 4) t) (ws.map wdV) (tkOf t)]] ++ tokR (some 4) t ∧ (t = none → ws = []) ∧ ws.length ≤ 500 ∧ collect [] L = collect ws (L.drop i))
    ⟨none, [], rfl, fun _ => rfl, Nat.zero_le _, rfl⟩ ?_ ?_ ?_
  · intro i args h
    rw [List.getElem?_map] at h
    obtain ⟨p, _, rfl⟩ := Option.map_eq_some_iff.1 h
    rfl
  · rintro i args R1 h ⟨t, ws, rfl, ht, hlen, hcol⟩
    rw [List.getElem?_map] at h
    obtain ⟨⟨w, e⟩, hi, rfl⟩ := Option.map_eq_some_iff.1 h
    rw [drop_at hi] at hcol
    have hcat : ∀ x : Res, [Res.obj b2 [.sl none [] .zero], .obj b3 [.c .nilIface], .obj b4 [.sl (shOf (some 4) t) (ws.map wdV) (tkOf t)]] ++ tokR (some 4) t ++ [x] = [.obj b2 [.sl none [] .zero], .obj b3 [.c .nilIface], .obj b4 [.sl (shOf (some 4) t) (ws.map wdV) (tkOf t)]] ++ (tokR (some 4) t ++ [x]) := fun x => List.append_assoc _ _ _
    (conv => arg 2; whnf); refine wp_allocE (wdL wd0) rfl fun b5 => ?_
    rw [hcat]
    have hidx : ∀ x : Res, ([Res.obj b2 [.sl none [] .zero], .obj b3 [.c .nilIface], .obj b4 [.sl (shOf (some 4) t) (ws.map wdV) (tkOf t)]] ++ (tokR (some 4) t ++ [x]))[3 + (tokR (some 4) t).length]? = some x := by
      intro x; cases t <;> rfl
    have hset : ∀ x y : Res, ([Res.obj b2 [.sl none [] .zero], .obj b3 [.c .nilIface], .obj b4 [.sl (shOf (some 4) t) (ws.map wdV) (tkOf t)]] ++ (tokR (some 4) t ++ [x])).set (3 + (tokR (some 4) t).length) y = [Res.obj b2 [.sl none [] .zero], .obj b3 [.c .nilIface], .obj b4 [.sl (shOf (some 4) t) (ws.map wdV) (tkOf t)]] ++ (tokR (some 4) t ++ [y]) := by
      intro x y; cases t <;> rfl
    (conv => arg 2; whnf); refine wp_storeE (cs := wdL wd0) (3 + (tokR (some 4) t).length) 0 (wdL w) (hidx _) rfl (VleL.refl _) (Nat.le_refl _) rfl (hset _ _) ?_
    have hsp : splice (wdL wd0) 0 (wdL w) = wdL w := rfl
    rw [hsp]
    cases e with
    | some e =>
      rw [collect_some] at hcol
      (repeat ((conv => arg 2; whnf); first | refine wp_ite (fun _ => ?_) (fun h => Bool.noConfusion h) | refine wp_ite (fun h => Bool.noConfusion h) (fun _ => ?_)))
      (conv => arg 2; whnf); refine wp_storeE (cs := [.sl none [] .zero]) 0 0 [.sl none [] .zero] rfl rfl (VleL.refl _) (Nat.le_refl _) rfl rfl ?_
      (conv => arg 2; whnf); refine wp_storeE (cs := [.c .nilIface]) 1 0 [.c (errV (some e))] rfl rfl (VleL.refl _) (Nat.le_refl _) rfl rfl ?_
      rw [hcol]
      (conv => arg 2; whnf); refine w_ret2cc (cs := [.sl none [] .zero]) (ds := [.c (errV (some e))]) b2 0 0 b3 0 1 rfl rfl rfl rfl rfl rfl rfl rfl rfl (Vle.nil _ _ _) (.refl _)
    | none =>
      rw [collect_none] at hcol
      (repeat ((conv => arg 2; whnf); first | refine wp_ite (fun _ => ?_) (fun h => Bool.noConfusion h) | refine wp_ite (fun h => Bool.noConfusion h) (fun _ => ?_)))
      (conv => arg 2; whnf); refine wp_load (cs := [.sl (shOf (some 4) t) (ws.map wdV) (tkOf t)]) 2 rfl rfl ?_
      (conv => arg 2; whnf); refine wp_load (cs := wdL w) (3 + (tokR (some 4) t).length) (hidx _) rfl ?_
      (conv => arg 2; whnf); refine wp_append_x (sh := some 4) (ys := [wdV w]) (fun h => by rw [ht h]; rfl) (okE_wd [w]) (show (_ + 1) * 40 ≤ _ by simp; omega) (fun t' S hS => ?_)
      (conv => arg 2; whnf); refine wp_storeE (cs := [.sl (shOf (some 4) t) (ws.map wdV) (tkOf t)]) (R' := [.obj b2 [.sl none [] .zero], .obj b3 [.c .nilIface], .obj b4 [.sl (some 4) ((ws ++ [w]).map wdV) (.t t')]] ++ S) 2 0 [.sl (some 4) ((ws ++ [w]).map wdV) (.t t')] rfl rfl (VleL_eq (by rw [List.map_append]; rfl)) (Nat.le_refl _) rfl rfl ?_
      (conv => arg 2; whnf); refine wp_cutR (frL [(2, .loc b2 0), (3, .loc b3 0), (4, .loc b4 0)]) ([.obj b2 [.sl none [] .zero], .obj b3 [.c .nilIface], .obj b4 [.sl (some 4) ((ws ++ [w]).map wdV) (.t t')]] ++ [.tok t' (some 4)]) (.cons (.refl _) (.cons (.refl _) (.cons (.refl _) (.nil _)))) ((List.Sublist.refl _).append hS) ?_
      (conv => arg 2; whnf); refine wp_load (cs := [.sl (some 4) ((ws ++ [w]).map wdV) (.t t')]) 2 rfl rfl ?_
      (conv => arg 2; whnf); refine wp_ite (fun h5 => ?_) (fun h5 => ?_)
      · have h5 : 500 < (ws ++ [w]).length := by have := of_decide_eq_true h5; rw [List.length_map] at this; omega
        rw [if_pos h5] at hcol
        (conv => arg 2; whnf); refine wp_storeE (cs := [.sl none [] .zero]) 0 0 [.sl none [] .zero] rfl rfl (VleL.refl _) (Nat.le_refl _) rfl rfl ?_
        (conv => arg 2; whnf); refine wp_storeE (cs := [.c .nilIface]) 1 0 [.c (errV (some 12))] rfl rfl (VleL.refl _) (Nat.le_refl _) rfl rfl ?_
        rw [hcol]
        (conv => arg 2; whnf); refine w_ret2cc (cs := [.sl none [] .zero]) (ds := [.c (errV (some 12))]) b2 0 0 b3 0 1 rfl rfl rfl rfl rfl rfl rfl rfl rfl (Vle.nil _ _ _) (.refl _)
      · have h5 : ¬ 500 < (ws ++ [w]).length := by have := of_decide_eq_false h5; rw [List.length_map] at this; omega
        rw [if_neg h5] at hcol
        (conv => arg 2; whnf)
        exact wp_leaf ⟨some t', ws ++ [w], rfl, (fun h => by cases h), by omega, hcol⟩
  · rintro R1 ⟨t, ws, rfl, ht, hlen, hcol⟩
    rw [List.length_map, List.drop_length] at hcol
    rw [hcol]
    (conv => arg 2; whnf); refine wp_load (cs := [.sl (shOf (some 4) t) (ws.map wdV) (tkOf t)]) 2 rfl rfl ?_
    (conv => arg 2; whnf); refine wp_storeE (cs := [.sl none [] .zero]) 0 0 [.sl (shOf (some 4) t) (ws.map wdV) (tkOf t)] rfl rfl (VleL.refl _) (Nat.le_refl _) rfl rfl ?_
    (conv => arg 2; whnf); refine wp_storeE (cs := [.c .nilIface]) 1 0 [.c .nilIface] rfl rfl (VleL.refl _) (Nat.le_refl _) rfl rfl ?_
    (conv => arg 2; whnf); refine w_ret2cc (cs := [.sl (shOf (some 4) t) (ws.map wdV) (tkOf t)]) (ds := [.c .nilIface]) b2 0 0 b3 0 1 rfl rfl rfl rfl rfl rfl rfl rfl rfl ?_ (.refl _)
    cases t with
    | none => rw [ht rfl]; exact Vle.nil _ _ _
    | some t => exact Vle.sl _ _ _
end Go.Sv
