/- The package word: bytes of some kind, rows of them. -/
import Derived.Test.YtdkbdmfhidimmaaDoorWordFns
import Derived.Test.YtdkbdmfhidimmaaDoorBase
import Derived.Test.YtdkbdmfhidimmaaDoorProg
namespace Go.Sv
open Go Go.Proofs

section
variable (c : UInt8)
theorem issmall_call : PCall Tryd.prog 85 [byteV c] (bV (isSm c)) := by
  refine scall_of (live := []) (ords := []) Tryd.func85 rfl (by kernel_rfl) (by kernel_rfl) (Nat.le_of_ble_eq_true rfl) ?_
  (conv => arg 2; whnf); refine wp_ite (fun h => ?_) (fun h => ?_)
  · have h := of_decide_eq_true h
    (conv => arg 2; whnf); refine w_retp rfl (Vle.eq (cBool ?_))
    rw [isSm, decide_eq_true (by omega : 97 ≤ c.toNat), Bool.true_and]
    exact decide_eq_decide.2 (by omega)
  · have h := of_decide_eq_false h
    (conv => arg 2; whnf); refine w_retp rfl (Vle.eq (cBool ?_))
    rw [isSm, decide_eq_false (by omega : ¬ 97 ≤ c.toNat), Bool.false_and]
theorem isgreat_call : PCall Tryd.prog 87 [byteV c] (bV (isGr c)) := by
  refine scall_of (live := []) (ords := []) Tryd.func87 rfl (by kernel_rfl) (by kernel_rfl) (Nat.le_of_ble_eq_true rfl) ?_
  (conv => arg 2; whnf); refine wp_ite (fun h => ?_) (fun h => ?_)
  · have h := of_decide_eq_true h
    (conv => arg 2; whnf); refine w_retp rfl (Vle.eq (cBool ?_))
    rw [isGr, decide_eq_true (by omega : 65 ≤ c.toNat), Bool.true_and]
    exact decide_eq_decide.2 (by omega)
  · have h := of_decide_eq_false h
    (conv => arg 2; whnf); refine w_retp rfl (Vle.eq (cBool ?_))
    rw [isGr, decide_eq_false (by omega : ¬ 65 ≤ c.toNat), Bool.false_and]
theorem isdigit_call : PCall Tryd.prog 88 [byteV c] (bV (isDg c)) := by
  refine scall_of (live := []) (ords := []) Tryd.func88 rfl (by kernel_rfl) (by kernel_rfl) (Nat.le_of_ble_eq_true rfl) ?_
  (conv => arg 2; whnf); refine wp_ite (fun h => ?_) (fun h => ?_)
  · have h := of_decide_eq_true h
    (conv => arg 2; whnf); refine w_retp rfl (Vle.eq (cBool ?_))
    rw [isDg, decide_eq_true (by omega : 48 ≤ c.toNat), Bool.true_and]
    exact decide_eq_decide.2 (by omega)
  · have h := of_decide_eq_false h
    (conv => arg 2; whnf); refine w_retp rfl (Vle.eq (cBool ?_))
    rw [isDg, decide_eq_false (by omega : ¬ 48 ≤ c.toNat), Bool.false_and]
end

set_option maxRecDepth 100000 in
theorem span_call (s : List UInt8) (at_ : Nat) (f : FuncId) (p : UInt8 → Bool) (hp : ∀ c, PCall Tryd.prog f [byteV c] (bV (p c))) (hs : s.length < 2 ^ 40) (hat : at_ ≤ s.length) :
    PCall Tryd.prog 111 [str s, i64V at_, .fn (.func f) [] []] (i64V (spanN p (s.drop at_))) := by
  refine scall_of (live := []) (ords := []) Tryd.func111 rfl (by kernel_rfl) (by kernel_rfl) (Nat.le_of_ble_eq_true rfl) ?_
  (conv => arg 2; whnf); refine wp_loop (fun m fr R => ∃ n : Nat, m = s.length - n ∧ at_ + n ≤ s.length ∧ R = [] ∧ spanN p (s.drop at_) = n + spanN p (s.drop (at_ + n)) ∧
      fr = frL [(0, str s), (1, i64V at_), (2, .fn (.func f) [] []), (7, i64V n)])
    s.length _ _ (.cons (.refl _) (.cons (.refl _) (.cons (.refl _) (.cons (.refl _) (.nil _))))) (List.Sublist.refl _) ⟨0, rfl, hat, rfl, by simp, rfl⟩ ?_
  rintro m fr R ⟨n, rfl, hn, rfl, hsp, rfl⟩
  have w1 : IntKind.i64.wrap ((at_ : Int) + n) = ((at_ + n : Nat) : Int) := wadd (by omega) (by omega) (by omega)
  (conv => arg 2; whnf); refine wp_ite (fun h => ?_) (fun h => ?_)
  · have h : at_ + n < s.length := by rw [w1] at h; have := of_decide_eq_true h; rw [S_size] at this; omega
    obtain ⟨c, hc⟩ : ∃ c, s[at_ + n]? = some c := ⟨_, List.getElem?_eq_getElem h⟩
    have hd := drop_at hc
    (conv => arg 2; whnf); refine wp_need (by rw [w1, S_size]; omega) ?_
    (conv => arg 2; whnf); refine wp_pcallV (.cons (Vle.of _ rfl (cByte (congrArg UInt8.toNat ?_))) .nil) (hp c) ?_
    · rw [w1, Int.toNat_natCast]; exact byte_at hc
    cases hpc : p c with
    | true =>
      (repeat ((conv => arg 2; whnf); first | refine wp_ite (fun _ => ?_) (fun h => Bool.noConfusion h) | refine wp_ite (fun h => Bool.noConfusion h) (fun _ => ?_)))
      (conv => arg 2; whnf)
      refine wp_leaf (loop_next (s.length - (n + 1)) _ _ (by omega) (.cons (.refl _) (.cons (.refl _) (.cons (.refl _) (.cons (Vle.inc n rfl (by omega)) (.nil _))))) (List.Sublist.refl _) ⟨n + 1, rfl, by omega, rfl, ?_, rfl⟩)
      rw [hsp, hd, spanN_cons hpc]
      rw [show at_ + n + 1 = at_ + (n + 1) from rfl]; omega
    | false =>
      (repeat ((conv => arg 2; whnf); first | refine wp_ite (fun _ => ?_) (fun h => Bool.noConfusion h) | refine wp_ite (fun h => Bool.noConfusion h) (fun _ => ?_)))
      (conv => arg 2; whnf)
      refine wp_leaf (loop_exit ?_)
      (conv => arg 2; whnf); refine w_retp rfl (Vle.eq (cI64 ?_))
      rw [hsp, hd, spanN_stop hpc]; omega
  · have h : at_ + n = s.length := by rw [w1] at h; have := of_decide_eq_false h; rw [S_size] at this; omega
    (repeat ((conv => arg 2; whnf); first | refine wp_ite (fun _ => ?_) (fun h => Bool.noConfusion h) | refine wp_ite (fun h => Bool.noConfusion h) (fun _ => ?_)))
    (conv => arg 2; whnf)
    refine wp_leaf (loop_exit ?_)
    (conv => arg 2; whnf); refine w_retp rfl (Vle.eq (cI64 ?_))
    rw [hsp, h, List.drop_length]; simp [spanN]
end Go.Sv
