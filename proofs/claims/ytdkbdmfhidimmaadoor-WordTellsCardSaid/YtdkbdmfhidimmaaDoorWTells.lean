/- pasternlaw7.WordTells. -/
import Derived.Test.YtdkbdmfhidimmaaDoorKnown7
import Derived.Test.YtdkbdmfhidimmaaDoorRefWord4
import Derived.Test.YtdkbdmfhidimmaaDoorCodeC
namespace Go.Sv
open Go Go.Proofs

theorem collect_len : ∀ (L : List (Wd × Option Nat)) (out l : List Wd), out.length ≤ 500 → collect out L = .ok l → l.length ≤ 500
  | [], out, l, h, e => by cases e; exact h
  | (w, some e) :: L, out, l, h, e2 => by cases e2
  | (w, none) :: L, out, l, h, e => by
    rw [collect_none] at e
    split at e
    · cases e
    · rename_i h1
      exact collect_len L _ l (by omega) e
theorem wordEqB : structEqB Tryd.prog 31 = true := by kernel_rfl

set_option maxRecDepth 100000 in
set_option maxHeartbeats 1000000 in
theorem wtells_law (s : List UInt8) : PCall Tryd.prog 10 [str s] (bV true) := by
  refine scall_of (live := []) (ords := [(5, []), (6, []), (7, []), (9, [])]) Tryd.func10 rfl (by kernel_rfl) (by kernel_rfl) (Nat.le_of_ble_eq_true rfl) ?_
  (conv => arg 2; whnf); refine wp_pcall known7_call ?_
  (conv => arg 2; whnf); refine wp_ite (fun h => by first | cases h | (simp at h; done)) (fun _ => ?_)
  (conv => arg 2; whnf); refine wp_ite (fun h600 => ?_) (fun h600 => ?_)
  · (conv => arg 2; whnf); refine w_retp rfl (.refl _)
  have h600 : s.length ≤ 600 := by have := of_decide_eq_false h600; rw [S_size] at this; omega
  have hs : s.length < 2 ^ 40 := by omega
  obtain ⟨l, e, hl500, f1, f2⟩ : ∃ (l : List Wd) (e : Option Nat), l.length ≤ 500 ∧ PCall Tryd.prog 12 [str s] (.tup [wslV l, .c (errV e)]) ∧ PCall Tryd.prog 29 [str s] (.tup [wslV l, i64V (codeOf e)]) := by
    have a1 := cut_call s hs
    have a2 := rcut_call s hs
    cases h : cutW s with
    | ok l => rw [h] at a1 a2; exact ⟨l, none, collect_len _ _ _ (Nat.zero_le _) h, a1, a2⟩
    | error e => rw [h] at a1 a2; exact ⟨[], some e, Nat.zero_le _, a1, a2⟩
  have f3 := code_call e
  (conv => arg 2; whnf); refine wp_cutR (frL [(0, str s)]) [] (.cons (.refl _) (.nil _)) (List.Sublist.refl _) ?_
  (conv => arg 2; whnf); refine wp_pcall f1 ?_
  (conv => arg 2; whnf); refine wp_cutR (frL [(0, str s), (3, wslV l), (4, .c (errV e))]) [] (.cons (.refl _) (.cons (.refl _) (.cons (.refl _) (.nil _)))) (List.Sublist.refl _) ?_
  (conv => arg 2; whnf); refine wp_pcall f2 ?_
  (conv => arg 2; whnf); refine wp_cutR (frL [(3, wslV l), (4, .c (errV e)), (5, wslV l), (6, i64V (codeOf e))]) [] (.cons (.refl _) (.cons (.refl _) (.cons (.refl _) (.cons (.refl _) (.nil _))))) (List.Sublist.refl _) ?_
  (conv => arg 2; whnf); refine wp_pcall f3 ?_
  (conv => arg 2; whnf); refine wp_ite (fun h => by simp at h) (fun _ => ?_)
  (conv => arg 2; whnf); refine wp_ite (fun h => by simp at h) (fun _ => ?_)
  (conv => arg 2; whnf); refine wp_cutR (frL [(3, wslV l), (5, wslV l)]) [] (.cons (.refl _) (.cons (.refl _) (.nil _))) (List.Sublist.refl _) ?_
  (conv => arg 2; whnf); refine wp_loop (fun m fr R => ∃ i : Nat, m = l.length - i ∧ i ≤ l.length ∧ R = [] ∧ fr = frL [(3, wslV l), (5, wslV l), (7, i64V i)])
    l.length _ [] (.cons (.refl _) (.cons (.refl _) (.cons (.refl _) (.nil _)))) (List.Sublist.refl _) ⟨0, rfl, Nat.zero_le _, rfl, rfl⟩ ?_
  rintro m fr R ⟨i, rfl, hi, rfl, rfl⟩
  (conv => arg 2; whnf); refine wp_ite (fun h => ?_) (fun h => ?_)
  · have h : i < l.length := by have := of_decide_eq_true h; rw [List.length_map] at this; omega
    obtain ⟨w, hw⟩ : ∃ w, l[i]? = some w := ⟨_, List.getElem?_eq_getElem h⟩
    have hg : (l.map wdV)[i]? = some (wdV w) := by rw [List.getElem?_map, hw]; rfl
    (conv => arg 2; whnf); refine wp_elem i (wdV w) rfl hg (Vle.refl _) ?_
    (conv => arg 2; whnf); refine wp_elem i (wdV w) rfl hg (Vle.refl _) ?_
    (conv => arg 2; whnf); refine wp_need wordEqB ?_
    (conv => arg 2; whnf); refine wp_ite (fun h => ?_) (fun _ => ?_)
    · exfalso
      simp at h
    (conv => arg 2; whnf)
    exact wp_leaf (loop_next (l.length - (i + 1)) _ [] (by omega) (.cons (.refl _) (.cons (.refl _) (.cons (Vle.inc i rfl (by omega)) (.nil _)))) (List.Sublist.refl _) ⟨i + 1, rfl, h, rfl, rfl⟩)
  · (conv => arg 2; whnf)
    refine wp_leaf (loop_exit ?_)
    (conv => arg 2; whnf); refine w_retp rfl (.refl _)
end Go.Sv
