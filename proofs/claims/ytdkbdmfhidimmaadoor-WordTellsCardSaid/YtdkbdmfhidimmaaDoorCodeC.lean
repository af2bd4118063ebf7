/- What pasternlaw7.code tells of an error. -/
import Derived.Test.YtdkbdmfhidimmaaDoorAs
import Derived.Test.YtdkbdmfhidimmaaDoorErr
namespace Go.Sv
open Go Go.Proofs Go.RowKit

theorem as_fn : isFn Tryd.prog 54 := ⟨_, _, Tryd.func54, rfl, by kernel_rfl⟩
theorem as_call (n b : Nat) (k : Int) : SCall Tryd.prog 54 [.c (errV (some n)), .ifc 91 (.loc b 0)] [.obj b [i64V k]] fun v R' => v = bV true ∧ R' = [.obj b [i64V n]] := by
  intro g w xs hw hx hr
  simp only [RelL, RelV, errV] at hx
  obtain ⟨_, _, rfl, rfl, _, _, rfl, ⟨_, rfl, rfl⟩, rfl⟩ := hx
  have hput : ∀ w4, After g w [.obj b [i64V k]] g w4 [.obj b [i64V k]] → _ := fun w4 h => e_put h.ext.wf h.res (i := 0) (b := b) (o := 0) (cs := [i64V k]) (src := [i64V n]) (news := [.int .i64 n]) rfl (by simp [RelL, RelV, i64V]) (by simp [Value.oneCell']) (by simp)
  obtain ⟨_, h1, h2⟩ := hput w (After.refl hw hr)
  have h1 := h1 0 (by simp)
  have h2 := h2 0 (by simp)
  obtain ⟨old, hold⟩ := Option.isSome_iff_exists.1 h1
  obtain ⟨ev, e1, e2, _⟩ := hw.st (0, fun v => v = .iface 96 (.agg #[.pointer (some ⟨9, 27, none⟩)])) (by simp [statics])
  have e2 : ev = _ := e2
  subst e2
  refine .inr (.inl ⟨_, _, w, run_call as_fn _, callsIn_wide.2 ((TrydAs.as_hit n ⟨b, 0, none⟩ old w e1 hold h2).mono ?_)⟩)
  rintro e w' ⟨rfl, rfl⟩
  have hb := Below.alloc (Below.alloc (Below.alloc (Below.alloc (Below.refl w.heap.size w) (Nat.le_refl _) (.cells #[.pointer (some ⟨b, 0, none⟩)] 91)) (by simp) (.cells #[.pointer (some ⟨9, 91, none⟩), .pointer (some ⟨w.heap.size, 0, none⟩), .int .u64 150] 126)) (by simp; omega) (.cells #[.pointer (some ⟨9, 91, none⟩), .pointer (some ⟨w.heap.size, 0, none⟩), .int .u64 150] 126)) (by simp; omega) (.cells #[.int .i64 n] 36)
  have hA := after_of_ext hr (after_below hw hb).ext
  exact ⟨_, rfl, bV true, g, _, ⟨rfl, rfl⟩, hA.trans (hput _ hA).1, by simp only [bV, RelV]⟩

def codeOf : Option Nat → Nat
  | none => 0
  | some n => n
set_option maxRecDepth 100000 in
theorem code_call (e : Option Nat) : PCall Tryd.prog 30 [.c (errV e)] (i64V (codeOf e)) := by
  refine scall_of (live := []) (ords := []) Tryd.func30 rfl (by kernel_rfl) (by kernel_rfl) (Nat.le_of_ble_eq_true rfl) ?_
  (conv => arg 2; whnf); refine wp_allocE [i64V 0] rfl fun b => ?_
  cases e with
  | none =>
    (repeat ((conv => arg 2; whnf); first | refine wp_ite (fun _ => ?_) (fun h => Bool.noConfusion h) | refine wp_ite (fun h => Bool.noConfusion h) (fun _ => ?_)))
    (conv => arg 2; whnf); refine w_retp rfl (.refl _)
  | some n =>
    (repeat ((conv => arg 2; whnf); first | refine wp_ite (fun _ => ?_) (fun h => Bool.noConfusion h) | refine wp_ite (fun h => Bool.noConfusion h) (fun _ => ?_)))
    (conv => arg 2; whnf); refine wp_callF [] [.obj b [i64V 0]] [] rfl (as_call n b 0) ?_
    rintro v R' ⟨rfl, rfl⟩
    (repeat ((conv => arg 2; whnf); first | refine wp_ite (fun _ => ?_) (fun h => Bool.noConfusion h) | refine wp_ite (fun h => Bool.noConfusion h) (fun _ => ?_)))
    (conv => arg 2; whnf); refine wp_load (cs := [i64V n]) 0 rfl rfl ?_
    (conv => arg 2; whnf); refine w_retp rfl (.refl _)
end Go.Sv
