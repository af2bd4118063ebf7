/- What pasternlaw7.known asks. -/
import Derived.Test.YtdkbdmfhidimmaaDoorWord7
namespace Go.Sv
open Go Go.Proofs

def k7a : List UInt8 := [97, 46, 120, 32, 60, 61, 32, 45, 53, 32, 34, 113, 92, 34, 34, 32, 84, 82, 85, 69]
def k7b : List UInt8 := [97, 32, 35, 32, 98]
def k7c : List UInt8 := [34, 120]
def k7d : List UInt8 := [57, 57, 57, 57, 57, 57, 57, 57, 57, 57, 57, 57, 57, 57, 57, 57, 57, 57, 57, 57]
def k7L : List Wd := [⟨1, [97], 0, 0⟩, ⟨5, [46], 0, 1⟩, ⟨1, [120], 0, 2⟩, ⟨5, [60, 61], 0, 4⟩, ⟨2, [], -5, 7⟩, ⟨3, [113, 34], 0, 10⟩, ⟨4, [84, 82, 85, 69], 0, 16⟩]
theorem k7a_cut : cutW k7a = .ok k7L := by kernel_rfl
theorem k7b_cut : cutW k7b = .error 21 := by kernel_rfl
theorem k7c_cut : cutW k7c = .error 21 := by kernel_rfl
theorem k7d_cut : cutW k7d = .error 12 := by kernel_rfl
theorem cut_ok {s : List UInt8} {l : List Wd} (hs : s.length < 2 ^ 40) (h : cutW s = .ok l) : PCall Tryd.prog 12 [str s] (.tup [wslV l, .c .nilIface]) := by
  have := cut_call s hs; rw [h] at this; exact this
theorem cut_err {s : List UInt8} {e : Nat} (hs : s.length < 2 ^ 40) (h : cutW s = .error e) : PCall Tryd.prog 12 [str s] (.tup [wslV [], .c (errV (some e))]) := by
  have := cut_call s hs; rw [h] at this; exact this

set_option maxRecDepth 100000 in
set_option maxHeartbeats 4000000 in
theorem known7_call : PCall Tryd.prog 11 [] (bV true) := by
  refine scall_of (live := []) (ords := [(5, [])]) Tryd.func11 rfl (by kernel_rfl) (by kernel_rfl) (Nat.le_of_ble_eq_true rfl) ?_
  (conv => arg 2; whnf); refine wp_pcall (cut_ok (s := k7a) (Nat.le_of_ble_eq_true rfl) k7a_cut) ?_
  (conv => arg 2; whnf); refine wp_pcall (cut_err (s := k7b) (Nat.le_of_ble_eq_true rfl) k7b_cut) ?_
  (conv => arg 2; whnf); refine wp_pcall (cut_err (s := k7c) (Nat.le_of_ble_eq_true rfl) k7c_cut) ?_
  (conv => arg 2; whnf); refine wp_pcall (cut_err (s := k7d) (Nat.le_of_ble_eq_true rfl) k7d_cut) ?_
  (conv => arg 2; whnf); refine wp_cutR (frL [(1, wslV k7L), (2, .c .nilIface), (4, .c (errV (some 21))), (6, .c (errV (some 21))), (8, .c (errV (some 12)))]) [] (.cons (.refl _) (.cons (.refl _) (.cons (.refl _) (.cons (.refl _) (.cons (.refl _) (.nil _)))))) (List.Sublist.refl _) ?_
  (repeat ((conv => arg 2; whnf); first | refine wp_ite (fun _ => ?_) (fun h => Bool.noConfusion h) | refine wp_ite (fun h => Bool.noConfusion h) (fun _ => ?_)))
  (conv => arg 2; whnf); refine wp_elem 0 (wdV ⟨1, [97], 0, 0⟩) rfl rfl (Vle.refl _) ?_
  (conv => arg 2; whnf); refine wp_ite (fun _ => ?_) (fun h => (eqT h rfl).elim)
  (conv => arg 2; whnf); refine wp_elem 3 (wdV ⟨5, [60, 61], 0, 4⟩) rfl rfl (Vle.refl _) ?_
  (conv => arg 2; whnf); refine wp_ite (fun _ => ?_) (fun h => (eqT h rfl).elim)
  (conv => arg 2; whnf); refine wp_elem 4 (wdV ⟨2, [], -5, 7⟩) rfl rfl (Vle.refl _) ?_
  (repeat ((conv => arg 2; whnf); first | refine wp_ite (fun _ => ?_) (fun h => Bool.noConfusion h) | refine wp_ite (fun h => Bool.noConfusion h) (fun _ => ?_)))
  (conv => arg 2; whnf); refine wp_elem 5 (wdV ⟨3, [113, 34], 0, 10⟩) rfl rfl (Vle.refl _) ?_
  (conv => arg 2; whnf); refine wp_ite (fun _ => ?_) (fun h => (eqT h rfl).elim)
  (conv => arg 2; whnf); refine wp_elem 6 (wdV ⟨4, [84, 82, 85, 69], 0, 16⟩) rfl rfl (Vle.refl _) ?_
  (repeat ((conv => arg 2; whnf); first | refine wp_ite (fun _ => ?_) (fun h => Bool.noConfusion h) | refine wp_ite (fun h => Bool.noConfusion h) (fun _ => ?_)))
  (conv => arg 2; whnf); refine wp_elem 6 (wdV ⟨4, [84, 82, 85, 69], 0, 16⟩) rfl rfl (Vle.refl _) ?_
  (repeat ((conv => arg 2; whnf); first | refine wp_ite (fun _ => ?_) (fun h => Bool.noConfusion h) | refine wp_ite (fun h => Bool.noConfusion h) (fun _ => ?_)))
  (conv => arg 2; whnf); refine wp_pcall (is_call (some 21) 21) ?_
  (conv => arg 2; whnf); refine wp_ite (fun _ => ?_) (fun h => absurd h (by decide))
  (conv => arg 2; whnf); refine wp_pcall (is_call (some 21) 21) ?_
  (conv => arg 2; whnf); refine wp_ite (fun _ => ?_) (fun h => absurd h (by decide))
  (conv => arg 2; whnf); refine wp_pcall (is_call (some 12) 12) ?_
  (conv => arg 2; whnf); refine w_retp rfl (.refl _)
end Go.Sv
