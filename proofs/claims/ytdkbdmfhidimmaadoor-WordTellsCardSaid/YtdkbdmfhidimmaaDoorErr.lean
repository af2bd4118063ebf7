/- Errors that are numbers. -/
import Derived.Test.YtdkbdmfhidimmaaDoorIs
import Derived.Test.YtdkbdmfhidimmaaDoorBase
namespace Go.Sv
open Go Go.Proofs

def errV : Option Nat → Value
  | none => .nilIface
  | some n => .iface 36 (.int .i64 n)
theorem is_fn : isFn Tryd.prog 14 := ⟨_, _, Tryd.func14, rfl, by kernel_rfl⟩

theorem is_call (e : Option Nat) (n : Nat) : PCall Tryd.prog 14 [.c (errV e), .c (errV (some n))] (bV (e == some n)) := by
  refine pcall_of_calls is_fn fun g w xs hw hx => ?_
  simp only [RelL, RelV] at hx
  obtain ⟨x, ys, rfl, rfl, y, zs, rfl, rfl, rfl⟩ := hx
  cases e with
  | none =>
    refine Calls.mono (TrydIs.is_nil n w) ?_
    rintro e w' ⟨rfl, rfl⟩
    exact ⟨_, rfl, rfl, by simp only [bV, RelV]; rfl⟩
  | some m =>
    refine Calls.mono (TrydIs.is_calls m n w) ?_
    rintro e w' ⟨rfl, rfl⟩
    refine ⟨_, rfl, rfl, ?_⟩
    simp only [bV, RelV, Value.bool.injEq]
    rw [Bool.eq_iff_iff]
    simp
    omega
end Go.Sv
