/- The package word: numbers. -/
import Derived.Test.YtdkbdmfhidimmaaDoorWord2
import Derived.Test.YtdkbdmfhidimmaaDoorLibWord
namespace Go.Sv
open Go Go.Proofs

theorem take_span (p : UInt8 → Bool) : ∀ l : List UInt8, l.take (spanN p l) = l.takeWhile p
  | [] => by simp [spanN]
  | c :: l => by
    cases h : p c with
    | true =>
      have := take_span p l
      rw [spanN_cons h, List.take_succ_cons, this, List.takeWhile_cons_of_pos h]
    | false => rw [spanN_stop h, List.takeWhile_cons_of_neg (by rw [h]; decide)]; rfl
theorem isDg_iff {c : UInt8} : isDg c = true ↔ 48 ≤ c.toNat ∧ c.toNat ≤ 57 := by simp [isDg]
theorem parseM_digits (M : Nat) : ∀ (l : List UInt8) (acc : Nat), (∀ d ∈ l, isDg d = true) → (∃ u, Lib.parseUintM M acc l = .ok u) ∨ Lib.parseUintM M acc l = .range
  | [], acc, _ => .inl ⟨acc, rfl⟩
  | c :: l, acc, h => by
    have hc := isDg_iff.1 (h c (by simp))
    rw [Lib.parseUintM, if_pos hc]
    split
    · exact .inr rfl
    · split
      · exact .inr rfl
      · exact parseM_digits M l _ fun d hd => h d (by simp [hd])
theorem parseI_digits {c : UInt8} {r : List UInt8} (hr : ∀ d ∈ r, isDg d = true) (h : isDg c = true ∨ (c = 45 ∧ r ≠ [])) : (∃ v, Lib.parseIntB 64 (c :: r) = .ok v) ∨ Lib.parseIntB 64 (c :: r) = .range := by
  have key : (∃ u, Lib.parseUintB 64 (if c.toNat = 43 ∨ c.toNat = 45 then r else c :: r) = .ok u) ∨ Lib.parseUintB 64 (if c.toNat = 43 ∨ c.toNat = 45 then r else c :: r) = .range := by
    rcases h with h | ⟨rfl, h⟩
    · have h1 := isDg_iff.1 h
      rw [if_neg (by omega), Lib.parseUintB, if_neg (by simp)]
      exact parseM_digits _ _ _ fun d hd => by rcases List.mem_cons.1 hd with rfl | hd; exact h; exact hr d hd
    · rw [if_pos (.inr rfl), Lib.parseUintB, if_neg h]
      exact parseM_digits _ _ _ hr
  rw [Lib.parseIntB]
  rcases key with ⟨u, e⟩ | e
  · rw [e]
    simp only
    split
    · exact .inr rfl
    · split
      · exact .inr rfl
      · exact .inl ⟨_, rfl⟩
  · rw [e]; exact .inr rfl

set_option maxRecDepth 100000 in
theorem number_call (s : List UInt8) (at_ : Nat) (c : UInt8) (hc : s[at_]? = some c) (h : isDg c = true ∨ (c = 45 ∧ at_ + 1 < s.length ∧ isDg ((s.drop (at_ + 1)).headD 0) = true)) (hs : s.length < 2 ^ 40) :
    PCall Tryd.prog 89 [str s, i64V at_] (nxV at_ (numR (s.drop at_))) := by
  have hat := (List.getElem?_eq_some_iff.1 hc).1
  have hsp := span_call s (at_ + 1) _ isDg isdigit_call hs hat
  have hle := spanN_le isDg (s.drop (at_ + 1))
  rw [List.length_drop] at hle
  have hl : (s.drop at_).take (1 + spanN isDg (s.drop (at_ + 1))) = c :: (s.drop (at_ + 1)).takeWhile isDg := by
    rw [drop_at hc, Nat.add_comm 1, List.take_succ_cons, take_span]
  have hp := parseI_digits (c := c) (r := (s.drop (at_ + 1)).takeWhile isDg) (fun d hd => by have := List.all_takeWhile (p := isDg) (l := s.drop (at_ + 1)); rw [List.all_eq_true] at this; exact this d hd) (by
    rcases h with h | ⟨h1, h2, h3⟩
    · exact .inl h
    · refine .inr ⟨h1, fun e => ?_⟩
      obtain ⟨d, hd⟩ : ∃ d, s[at_ + 1]? = some d := ⟨_, List.getElem?_eq_getElem h2⟩
      rw [drop_at hd] at h3 e
      have h3 : isDg d = true := h3
      rw [List.takeWhile_cons_of_pos h3] at e
      cases e)
  rw [← hl] at hp
  have e1 : numR (s.drop at_) = numE (1 + spanN isDg (s.drop (at_ + 1))) (Lib.parseIntB 64 ((s.drop at_).take (1 + spanN isDg (s.drop (at_ + 1))))) := by rw [numR, List.drop_drop]
  rw [e1]
  clear e1 hl
  generalize spanN isDg (s.drop (at_ + 1)) = n at *
  have w1 : IntKind.i64.wrap ((at_ : Int) + 1) = ((at_ + 1 : Nat) : Int) := wadd (by omega) (by omega) (by omega)
  have w2 : IntKind.i64.wrap (1 + (n : Int)) = ((1 + n : Nat) : Int) := wadd (by omega) (by omega) (by omega)
  have w3 : IntKind.i64.wrap ((at_ : Int) + (1 + n : Nat)) = ((at_ + (1 + n) : Nat) : Int) := wadd (by omega) (by omega) (by omega)
  refine scall_of (live := []) (ords := [(2, [])]) Tryd.func89 rfl (by kernel_rfl) (by kernel_rfl) (Nat.le_of_ble_eq_true rfl) ?_
  (conv => arg 2; whnf); refine wp_allocE (wdL wd0) rfl fun b => ?_
  (conv => arg 2; whnf); refine wp_pcallV (.cons (.refl _) (.cons (Vle.i64 _ rfl w1) (.cons (.refl _) .nil))) hsp ?_
  (conv => arg 2; whnf); refine wp_cutR (frL [(0, str s), (1, i64V at_), (4, .loc b 0), (5, i64V 0), (6, .c .nilIface), (7, i64V (1 + n : Nat))]) _ (.cons (.refl _) (.cons (.refl _) (.cons (.refl _) (.cons (.refl _) (.cons (.refl _) (.cons (Vle.i64 _ rfl w2) (.nil _))))))) (List.Sublist.refl _) ?_
  (conv => arg 2; whnf); refine wp_need (by rw [w3, S_size]; omega) ?_
  have hlen : ((s.drop at_).take (1 + n)).length < 2 ^ 40 := by simp; omega
  have ha : (S s).extract (Int.toNat (at_ : Int)) (Int.toNat (IntKind.i64.wrap ((at_ : Int) + (1 + n : Nat)))) = S ((s.drop at_).take (1 + n)) := by
    rw [w3, S_extract, Int.toNat_natCast, Int.toNat_natCast, List.take_drop]
  rcases hp with ⟨v, e⟩ | e
  · (conv => arg 2; whnf); refine wp_pcallV (.cons (Vle.of _ rfl (cStr ha)) (.cons (.refl _) (.cons (.refl _) .nil))) (parse_ok _ v hlen e) ?_
    rw [e]
    (repeat ((conv => arg 2; whnf); first | refine wp_ite (fun _ => ?_) (fun h => Bool.noConfusion h) | refine wp_ite (fun h => Bool.noConfusion h) (fun _ => ?_)))
    (conv => arg 2; whnf); refine wp_store' 0 rfl (Nat.le_of_ble_eq_true rfl) rfl ?_
    (conv => arg 2; whnf); refine w_ret3c (cs := wdL ((⟨2, [], v, 1 + n⟩ : Nx).wd at_)) b 0 0 rfl rfl rfl rfl rfl (.refl _) (.refl _) (.refl _)
  · (conv => arg 2; whnf); refine wp_pcallV (.cons (Vle.of _ rfl (cStr ha)) (.cons (.refl _) (.cons (.refl _) .nil))) (parse_range _ hlen e) ?_
    rw [e]
    (repeat ((conv => arg 2; whnf); first | refine wp_ite (fun _ => ?_) (fun h => Bool.noConfusion h) | refine wp_ite (fun h => Bool.noConfusion h) (fun _ => ?_)))
    (conv => arg 2; whnf); refine wp_store' 0 rfl (Nat.le_of_ble_eq_true rfl) rfl ?_
    (conv => arg 2; whnf); refine w_ret3c (cs := wdL wd0) b 0 0 rfl rfl rfl rfl rfl (.refl _) (.refl _) (.refl _)
end Go.Sv
