/- Functions of Go's library that the package disk calls. -/
import Derived.Test.YtgkfpgkpdkmjbaaSvLib
import Derived.Test.YtgkfpgkpdkmjbaaSvNum
import Derived.Test.YtgkfpgkpdkmjbaaShelf
namespace Go.Sv
open Go Go.Proofs

theorem repeat_fn : isFn Try.prog 49 := ⟨_, _, Try.func49, rfl, by kernel_rfl⟩
theorem repeatL_one (b : UInt8) : ∀ n, Lib.repeatL [b] n = List.replicate n b
  | 0 => rfl
  | n + 1 => by simp [Lib.repeatL, repeatL_one b n, List.replicate_succ]
theorem repeat_call (n : Nat) (hn : n ≤ 1000000) : PCall Try.prog 49 [str [0], i64V n] (str (List.replicate n 0)) :=
  pcall_c2 repeat_fn fun w => (Try.strings_Repeat (S [0]) n w (by omega) (by simp; omega)).mono fun e w' ⟨h1, h2⟩ => ⟨by rw [h1, S_list, repeatL_one]; rfl, h2⟩
end Go.Sv
