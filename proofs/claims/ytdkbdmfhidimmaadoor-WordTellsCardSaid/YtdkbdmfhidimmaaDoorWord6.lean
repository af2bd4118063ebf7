/- The package word: all words of a text, one behind the other. -/
import Derived.Test.YtdkbdmfhidimmaaDoorWord5
namespace Go.Sv
open Go Go.Proofs

theorem itemsF_cons (f at_ : Nat) (c : UInt8) (r : List UInt8) : itemsF (f + 1) at_ (c :: r) = if c = 32 then itemsF f (at_ + 1) r else
    match nextR (c :: r) with
    | .error e => [(wd0, some e)]
    | .ok x => (x.wd at_, none) :: itemsF f (at_ + x.len) ((c :: r).drop x.len) := rfl
def itemA (p : Wd × Option Nat) : List V := [wdV p.1, .c (errV p.2)]
def wordsFn (s : List UInt8) : V := .fn (.func 55) [] [.pt none (str s) 0]

set_option maxRecDepth 100000 in
theorem words_call (s : List UInt8) : PCall Tryd.prog 31 [str s] (wordsFn s) := by
  refine scall_of (live := []) (ords := []) Tryd.func31 rfl (by kernel_rfl) (by kernel_rfl) (Nat.le_of_ble_eq_true rfl) ?_
  (conv => arg 2; whnf); refine w_retp rfl (Vle.eq ?_)
  rfl

set_option maxRecDepth 100000 in
set_option maxHeartbeats 1000000 in
theorem words_iter (s : List UInt8) (hs : s.length < 2 ^ 40) : Iter Tryd.prog 55 [] [.pt none (str s) 0] ((itemsF s.length 0 s).map itemA) := by
  refine ⟨⟨_, _, Tryd.func55, rfl, by kernel_rfl⟩, fun l I E R0 h0 hy => ?_⟩
  obtain ⟨L, hL⟩ : ∃ L, L = itemsF s.length 0 s := ⟨_, rfl⟩
  rw [← hL] at hy ⊢
  refine scall_of (live := []) (ords := []) Tryd.func55 rfl (by kernel_rfl) (by kernel_rfl) (Nat.le_of_ble_eq_true rfl) ?_
  (conv => arg 2; whnf); refine wp_loop (fun m fr R => ∃ a n f : Nat, m = s.length - a ∧ a ≤ s.length ∧ s.length - a ≤ f ∧ L.drop n = itemsF f a (s.drop a) ∧ n ≤ L.length ∧ I n R ∧
      fr = frL [(0, .fn (.yield l) [] []), (1, .pt none (str s) 0), (3, i64V a)])
    s.length _ _ (.cons (.refl _) (.cons (.refl _) (.cons (.refl _) (.nil _)))) (List.Sublist.refl _) ⟨0, 0, s.length, rfl, Nat.zero_le _, by omega, by rw [hL]; rfl, Nat.zero_le _, h0, rfl⟩ ?_
  rintro m fr R ⟨a, n, f, rfl, ha, hf, hLn, hn, hI, rfl⟩
  have w1 : IntKind.i64.wrap ((a : Int) + 1) = ((a + 1 : Nat) : Int) := wadd (by omega) (by omega) (by omega)
  (conv => arg 2; whnf); refine wp_ite (fun h => ?_) (fun h => ?_)
  · have h : a < s.length := by have := of_decide_eq_true h; rw [S_size] at this; omega
    obtain ⟨c, hc⟩ : ∃ c, s[a]? = some c := ⟨_, List.getElem?_eq_getElem h⟩
    have hd := drop_at hc
    obtain ⟨f, rfl⟩ : ∃ f', f = f' + 1 := ⟨f - 1, by omega⟩
    rw [hd, itemsF_cons] at hLn
    have hb : byteAt (S s) (Int.toNat (a : Int)) = c := byte_at hc
    (conv => arg 2; whnf); refine wp_need (by rw [S_size]; omega) ?_
    (conv => arg 2; whnf); refine wp_ite (fun h1 => ?_) (fun h1 => ?_)
    · rw [hb, c_int_eq c 32 32 rfl] at h1
      rw [if_pos (of_decide_eq_true h1)] at hLn
      (conv => arg 2; whnf)
      exact wp_leaf (loop_next (s.length - (a + 1)) _ _ (by omega) (.cons (.refl _) (.cons (.refl _) (.cons (Vle.i64 _ rfl w1) (.nil _)))) (List.Sublist.refl _) ⟨a + 1, n, f, rfl, h, by omega, hLn, hn, hI, rfl⟩)
    · rw [hb, c_int_eq c 32 32 rfl] at h1
      rw [if_neg (of_decide_eq_false h1), ← hd] at hLn
      have f1 := next_call s a h hs
      have hlen := @nextR_len (s.drop a)
      generalize nextR (s.drop a) = x at hLn f1 hlen
      have hlt : n < L.length := by
        rcases Nat.lt_or_ge n L.length with h2 | h2
        · exact h2
        · rw [List.drop_eq_nil_of_le h2] at hLn
          cases x <;> cases hLn
      have hget : ∀ p r, L.drop n = p :: r → (L.map itemA)[n]? = some (itemA p) ∧ L.drop (n + 1) = r := by
        intro p r e
        rw [List.drop_eq_getElem_cons hlt] at e
        injection e with e1 e2
        exact ⟨by rw [List.getElem?_map, List.getElem?_eq_getElem hlt, e1]; rfl, e2⟩
      cases x with
      | error e =>
        obtain ⟨g1, g2⟩ := hget _ _ hLn
        (conv => arg 2; whnf); refine wp_pcall f1 ?_
        (conv => arg 2; whnf); refine wp_allocE (wdL wd0) rfl fun b => ?_
        (conv => arg 2; whnf); refine wp_storeE (cs := wdL wd0) R.length 0 (wdL wd0) (by simp) rfl (VleL.refl _) (Nat.le_refl _) rfl (R' := R ++ [.obj b (wdL wd0)]) (by simp [splice, wdL]) ?_
        (conv => arg 2; whnf); refine wp_load (cs := wdL wd0) R.length (by simp) rfl ?_
        have hyy := (hy n _ R g1 hI).frame (A := []) (B := [.obj b (wdL wd0)])
        rw [List.nil_append] at hyy
        (conv => arg 2; whnf); refine wp_yld hyy ?_
        rintro b' R' ⟨R2, ⟨rfl, hI2⟩ | ⟨rfl, hE⟩, rfl⟩
        · (repeat ((conv => arg 2; whnf); first | refine wp_ite (fun _ => ?_) (fun h => Bool.noConfusion h) | refine wp_ite (fun h => Bool.noConfusion h) (fun _ => ?_)))
          have hend : n + 1 = (L.map itemA).length := by
            rw [List.length_map]
            have := congrArg List.length hLn
            simp at this; omega
          (conv => arg 2; whnf); refine w_ret0 rfl (by rw [List.nil_append]; exact List.sublist_append_left _ _) (.inl (hend ▸ hI2))
        · (repeat ((conv => arg 2; whnf); first | refine wp_ite (fun _ => ?_) (fun h => Bool.noConfusion h) | refine wp_ite (fun h => Bool.noConfusion h) (fun _ => ?_)))
          (conv => arg 2; whnf); refine w_ret0 rfl (by rw [List.nil_append]; exact List.sublist_append_left _ _) (.inr hE)
      | ok x =>
        obtain ⟨g1, g2⟩ := hget _ _ hLn
        obtain ⟨k1, k2⟩ := hlen (by rw [hd]; simp) rfl
        rw [List.length_drop] at k2
        rw [List.drop_drop] at g2
        have w2 : IntKind.i64.wrap ((a : Int) + x.len) = ((a + x.len : Nat) : Int) := wadd (by omega) (by omega) (by omega)
        (conv => arg 2; whnf); refine wp_pcall f1 ?_
        (conv => arg 2; whnf); refine wp_allocE (wdL wd0) rfl fun b => ?_
        (conv => arg 2; whnf); refine wp_storeE (cs := wdL wd0) R.length 0 (wdL (x.wd a)) (by simp) rfl (VleL.refl _) (Nat.le_refl _) rfl (R' := R ++ [.obj b (wdL (x.wd a))]) (by simp [splice, wdL]) ?_
        (conv => arg 2; whnf); refine wp_load (cs := wdL (x.wd a)) R.length (by simp) rfl ?_
        have hyy := (hy n _ R g1 hI).frame (A := []) (B := [.obj b (wdL (x.wd a))])
        rw [List.nil_append] at hyy
        (conv => arg 2; whnf); refine wp_yld hyy ?_
        rintro b' R' ⟨R2, ⟨rfl, hI2⟩ | ⟨rfl, hE⟩, rfl⟩
        · (repeat ((conv => arg 2; whnf); first | refine wp_ite (fun _ => ?_) (fun h => Bool.noConfusion h) | refine wp_ite (fun h => Bool.noConfusion h) (fun _ => ?_)))
          (conv => arg 2; whnf)
          refine wp_leaf (loop_next (s.length - (a + x.len)) _ R2 (by omega) (.cons (.refl _) (.cons (.refl _) (.cons (Vle.i64 _ rfl w2) (.nil _)))) (by rw [List.nil_append]; exact List.sublist_append_left _ _) ⟨a + x.len, n + 1, f, rfl, by omega, by omega, g2, by omega, hI2, rfl⟩)
        · (repeat ((conv => arg 2; whnf); first | refine wp_ite (fun _ => ?_) (fun h => Bool.noConfusion h) | refine wp_ite (fun h => Bool.noConfusion h) (fun _ => ?_)))
          (conv => arg 2; whnf)
          refine wp_leaf (loop_ret ?_)
          (conv => arg 2; whnf); refine w_ret0 rfl (by rw [List.nil_append]; exact List.sublist_append_left _ _) (.inr hE)
  · have h : a = s.length := by have := of_decide_eq_false h; rw [S_size] at this; omega
    have hend : n = (L.map itemA).length := by
      rw [List.length_map]
      rw [h, List.drop_length] at hLn
      have e : itemsF f s.length [] = [] := by cases f <;> rfl
      rw [e] at hLn
      have := List.drop_eq_nil_iff.1 hLn
      omega
    (conv => arg 2; whnf)
    refine wp_leaf (loop_exit ?_)
    (conv => arg 2; whnf); refine w_norm0 rfl (List.Sublist.refl _) (.inl (hend ▸ hI))
end Go.Sv
