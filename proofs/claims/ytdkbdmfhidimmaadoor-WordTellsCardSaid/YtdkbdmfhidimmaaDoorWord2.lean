/- The package word: words of letters. -/
import Derived.Test.YtdkbdmfhidimmaaDoorWord1
import Derived.Test.YtdkbdmfhidimmaaDoorErr
namespace Go.Sv
open Go Go.Proofs

def wdL (w : Wd) : List V := [i64V w.kind, str w.text, i64V w.n, i64V w.at_]
/-- What such a function hands back. -/
def nxV (at_ : Nat) : Except Nat Nx → V
  | .ok x => .tup [wdV (x.wd at_), i64V x.len, .c .nilIface]
  | .error e => .tup [wdV wd0, i64V 0, .c (errV (some e))]

set_option maxRecDepth 100000 in
theorem letters_call (s : List UInt8) (at_ kind : Nat) (f : FuncId) (p : UInt8 → Bool) (hp : ∀ c, PCall Tryd.prog f [byteV c] (bV (p c))) (hs : s.length < 2 ^ 40) (hat : at_ ≤ s.length) (_ : kind < 10) :
    PCall Tryd.prog 86 [str s, i64V at_, i64V kind, i64V 8, .fn (.func f) [] []] (nxV at_ (letR kind p (s.drop at_))) := by
  have hsp := span_call s at_ f p hp hs hat
  have hle := spanN_le p (s.drop at_)
  rw [List.length_drop] at hle
  rw [letR]
  generalize spanN p (s.drop at_) = n at *
  refine scall_of (live := []) (ords := []) Tryd.func86 rfl (by kernel_rfl) (by kernel_rfl) (Nat.le_of_ble_eq_true rfl) ?_
  (conv => arg 2; whnf); refine wp_allocE (wdL wd0) rfl fun b => ?_
  (conv => arg 2; whnf); refine wp_pcall hsp ?_
  (conv => arg 2; whnf); refine wp_ite (fun h => ?_) (fun h => ?_)
  · have h : 8 < n := by have := of_decide_eq_true h; omega
    rw [if_pos h]
    (conv => arg 2; whnf); refine wp_store' 0 rfl (Nat.le_of_ble_eq_true rfl) rfl ?_
    (conv => arg 2; whnf); refine w_ret3c (cs := wdL wd0) b 0 0 rfl rfl rfl rfl rfl (.refl _) (.refl _) (.refl _)
  · have h : ¬ 8 < n := by have := of_decide_eq_false h; omega
    rw [if_neg h]
    have w1 : IntKind.i64.wrap ((at_ : Int) + n) = ((at_ + n : Nat) : Int) := wadd (by omega) (by omega) (by omega)
    (conv => arg 2; whnf); refine wp_need (by rw [w1, S_size]; omega) ?_
    (conv => arg 2; whnf); refine wp_store' 0 rfl (Nat.le_of_ble_eq_true rfl) rfl ?_
    (conv => arg 2; whnf); refine w_ret3c (cs := wdL ((⟨kind, (s.drop at_).take n, 0, n⟩ : Nx).wd at_)) b 0 0 rfl rfl rfl ?_ rfl (.refl _) (.refl _) (.refl _)
    show some (Res.obj b [i64V kind, V.c (.string ((S s).extract (Int.toNat at_) (Int.toNat (IntKind.i64.wrap ((at_ : Int) + n))))), i64V 0, i64V at_]) = _
    rw [w1, S_extract, Int.toNat_natCast, Int.toNat_natCast, List.take_drop]; rfl
end Go.Sv
