/- The package word: signs, the next word. -/
import Derived.Test.YtdkbdmfhidimmaaDoorWord4
namespace Go.Sv
open Go Go.Proofs

theorem extract_end {s : List UInt8} {i : Nat} : (S s).extract (Int.toNat (i : Int)) (S s).size = S (s.drop i) := by
  rw [S_extract, S_size, List.take_length, Int.toNat_natCast]

def twoV : V := .agg [str [33, 61], str [60, 61]]
set_option maxRecDepth 100000 in
set_option maxHeartbeats 1000000 in
theorem sign_call (s : List UInt8) (at_ : Nat) (hat : at_ < s.length) (hs : s.length < 2 ^ 40) : PCall Tryd.prog 91 [str s, i64V at_] (nxV at_ (signR (s.drop at_))) := by
  obtain ⟨c, hc⟩ : ∃ c, s[at_]? = some c := ⟨_, List.getElem?_eq_getElem hat⟩
  have hd := drop_at hc
  have hsg : signR (s.drop at_) = if [33, 61].isPrefixOf (s.drop at_) then .ok ⟨5, [33, 61], 0, 2⟩ else if [60, 61].isPrefixOf (s.drop at_) then .ok ⟨5, [60, 61], 0, 2⟩
      else if decide (Lib.indexByte signsL c < 0) then .error 21 else .ok ⟨5, [c], 0, 1⟩ := by
    rw [signR, hd]; rfl
  refine scall_of (live := []) (ords := [(4, []), (7, [])]) Tryd.func91 rfl (by kernel_rfl) (by kernel_rfl) (Nat.le_of_ble_eq_true rfl) ?_
  (conv => arg 2; whnf); refine wp_allocE (wdL wd0) rfl fun b => ?_
  (conv => arg 2; whnf); refine wp_loop (fun m fr R => ∃ n : Nat, m = 2 - n ∧ n ≤ 2 ∧ R = [.obj b (wdL wd0)] ∧ (1 ≤ n → [33, 61].isPrefixOf (s.drop at_) = false) ∧ (2 ≤ n → [60, 61].isPrefixOf (s.drop at_) = false) ∧
      fr = frL [(0, str s), (1, i64V at_), (4, .loc b 0), (9, twoV), (10, i64V n)])
    2 _ _ (.cons (.refl _) (.cons (.refl _) (.cons (.refl _) (.cons (.refl _) (.cons (.refl _) (.nil _)))))) (List.Sublist.refl _) ⟨0, rfl, by omega, rfl, by omega, by omega, rfl⟩ ?_
  rintro m fr R ⟨n, rfl, hn, rfl, h1, h2, rfl⟩
  (conv => arg 2; whnf); refine wp_ite (fun h => ?_) (fun h => ?_)
  · have h : n < 2 := by have := of_decide_eq_true h; omega
    (conv => arg 2; whnf); refine wp_need (by show 0 ≤ (n : Int) ∧ (n : Int) < 2 ∧ 2 ≤ 2; omega) ?_
    obtain ⟨p, hp, hpv⟩ : ∃ p : List UInt8, (p = if n = 0 then [33, 61] else [60, 61]) ∧ [str [33, 61], str [60, 61]].getD (Int.toNat (n : Int)) .undef = str p := by
      refine ⟨_, rfl, ?_⟩
      have : n = 0 ∨ n = 1 := by omega
      rcases this with rfl | rfl <;> rfl
    (conv => arg 2; whnf); refine wp_cutR (frL [(0, str s), (1, i64V at_), (4, .loc b 0), (8, str p), (9, twoV), (10, i64V n)]) _ (.cons (.refl _) (.cons (.refl _) (.cons (.refl _) (.cons (Vle.of _ rfl hpv) (.cons (.refl _) (.cons (.refl _) (.nil _))))))) (List.Sublist.refl _) ?_
    (conv => arg 2; whnf); refine wp_need (by rw [S_size]; omega) ?_
    (conv => arg 2; whnf); refine wp_pcallV (.cons (Vle.of _ rfl (cStr extract_end)) (.cons (.refl _) .nil)) (hasprefix_call (s.drop at_) p) ?_
    cases hpre : p.isPrefixOf (s.drop at_) with
    | true =>
      have hlen : p.length = 2 := by rw [hp]; split <;> rfl
      (repeat ((conv => arg 2; whnf); first | refine wp_ite (fun _ => ?_) (fun h => Bool.noConfusion h) | refine wp_ite (fun h => Bool.noConfusion h) (fun _ => ?_)))
      (conv => arg 2; whnf); refine wp_store' 0 rfl (Nat.le_of_ble_eq_true rfl) rfl ?_
      (conv => arg 2; whnf)
      refine wp_leaf (loop_ret ?_)
      (conv => arg 2; whnf); refine w_ret3cE (cs := wdL ((⟨5, p, 0, 2⟩ : Nx).wd at_)) b 0 0 rfl rfl rfl rfl rfl (.refl _) (Vle.i64 (y := ((2 : Nat) : Int)) _ rfl ?_) (.refl _) ?_
      · rw [S_size, hlen]
      · rw [hsg]
        have : n = 0 ∨ n = 1 := by omega
        rcases this with rfl | rfl
        · rw [if_pos rfl] at hp; subst hp; rw [if_pos hpre]; rfl
        · rw [if_neg (by decide)] at hp; subst hp; rw [if_neg (by rw [h1 (by omega)]; decide), if_pos hpre]; rfl
    | false =>
      (repeat ((conv => arg 2; whnf); first | refine wp_ite (fun _ => ?_) (fun h => Bool.noConfusion h) | refine wp_ite (fun h => Bool.noConfusion h) (fun _ => ?_)))
      (conv => arg 2; whnf)
      refine wp_leaf (loop_next (2 - (n + 1)) _ _ (by omega) (.cons (.refl _) (.cons (.refl _) (.cons (.refl _) (.cons (.refl _) (.cons (Vle.inc n rfl (by omega)) (.nil _)))))) (List.Sublist.refl _) ⟨n + 1, rfl, by omega, rfl, fun _ => ?_, fun hx => ?_, rfl⟩)
      · by_cases h0 : n = 0
        · rw [if_pos h0] at hp; rw [← hp]; exact hpre
        · exact h1 (by omega)
      · rw [if_neg (by omega)] at hp; rw [← hp]; exact hpre
  · have h : n = 2 := by have := of_decide_eq_false h; omega
    subst h
    rw [if_neg (by rw [h1 (by omega)]; decide), if_neg (by rw [h2 (by omega)]; decide)] at hsg
    (conv => arg 2; whnf)
    refine wp_leaf (loop_exit ?_)
    (conv => arg 2; whnf); refine wp_cutR (frL [(0, str s), (1, i64V at_), (4, .loc b 0)]) _ (.cons (.refl _) (.cons (.refl _) (.cons (.refl _) (.nil _)))) (List.Sublist.refl _) ?_
    (conv => arg 2; whnf); refine wp_need (by rw [S_size]; omega) ?_
    (conv => arg 2; whnf); refine wp_pcallV (.cons (.refl _) (.cons (cByteAt hc rfl rfl) .nil)) (indexbyte_call signsL c) ?_
    (conv => arg 2; whnf); refine wp_ite (fun h3 => ?_) (fun h3 => ?_)
    · rw [if_pos h3] at hsg
      (conv => arg 2; whnf); refine wp_store' 0 rfl (Nat.le_of_ble_eq_true rfl) rfl ?_
      (conv => arg 2; whnf); refine w_ret3cE (cs := wdL wd0) b 0 0 rfl rfl rfl rfl rfl (.refl _) (.refl _) (.refl _) (by rw [hsg]; rfl)
    · rw [if_neg (by rw [h3]; decide)] at hsg
      have w1 : IntKind.i64.wrap ((at_ : Int) + 1) = ((at_ + 1 : Nat) : Int) := wadd (by omega) (by omega) (by omega)
      (conv => arg 2; whnf); refine wp_need (by rw [w1, S_size]; omega) ?_
      (conv => arg 2; whnf); refine wp_store' 0 rfl (Nat.le_of_ble_eq_true rfl) rfl ?_
      (conv => arg 2; whnf); refine w_ret3cE (cs := wdL ((⟨5, [c], 0, 1⟩ : Nx).wd at_)) b 0 0 rfl rfl rfl ?_ rfl (.refl _) (.refl _) (.refl _) (by rw [hsg]; rfl)
      show some (Res.obj b [i64V 5, V.c (.string ((S s).extract (Int.toNat at_) (Int.toNat (IntKind.i64.wrap ((at_ : Int) + 1))))), i64V 0, i64V at_]) = _
      rw [w1, S_extract, Int.toNat_natCast, Int.toNat_natCast, List.take_add_one, hc, List.drop_append_of_le_length (by simp; omega)]
      have e : (s.take at_).drop at_ = [] := List.drop_eq_nil_of_le (by rw [List.length_take]; omega)
      rw [e]; rfl

theorem nextR_at {s : List UInt8} {at_ : Nat} {c : UInt8} (hc : s[at_]? = some c) : nextR (s.drop at_) = if isSm c then letR 1 isSm (s.drop at_) else if isGr c then letR 4 isGr (s.drop at_)
    else if isDg c || (c == 45 && decide (at_ + 1 < s.length) && isDg ((s.drop (at_ + 1)).headD 0)) then numR (s.drop at_) else if c == 34 then textN (s.drop at_) else signR (s.drop at_) := by
  have hi := (List.getElem?_eq_some_iff.1 hc).1
  have e : decide (1 < (c :: s.drop (at_ + 1)).length) = decide (at_ + 1 < s.length) := decide_eq_decide.2 (by simp; omega)
  rw [drop_at hc, nextR_cons, e]

set_option maxRecDepth 100000 in
set_option maxHeartbeats 1000000 in
theorem next_call (s : List UInt8) (at_ : Nat) (hat : at_ < s.length) (hs : s.length < 2 ^ 40) : PCall Tryd.prog 56 [str s, i64V at_] (nxV at_ (nextR (s.drop at_))) := by
  obtain ⟨c, hc⟩ : ∃ c, s[at_]? = some c := ⟨_, List.getElem?_eq_getElem hat⟩
  have hnx := nextR_at hc
  have f1 := letters_call s at_ 1 _ isSm issmall_call hs (by omega) (by omega)
  have f2 := letters_call s at_ 4 _ isGr isgreat_call hs (by omega) (by omega)
  have f3 := fun h => number_call s at_ c hc h hs
  have f4 := text_call s at_ hat hs
  have f5 := sign_call s at_ hat hs
  have hret : ∀ x : Except Nat Nx, ∃ (w : Wd) (n : V) (e : V), nxV at_ x = .tup [wdV w, n, e] := by
    intro x
    cases x with
    | ok x => exact ⟨_, _, _, rfl⟩
    | error e => exact ⟨_, _, _, rfl⟩
  refine scall_of (live := []) (ords := [(2, []), (4, []), (6, []), (7, []), (9, []), (11, [])]) Tryd.func56 rfl (by kernel_rfl) (by kernel_rfl) (Nat.le_of_ble_eq_true rfl) ?_
  (conv => arg 2; whnf); refine wp_allocE (wdL wd0) rfl fun b => ?_
  (conv => arg 2; whnf); refine wp_need (by rw [S_size]; omega) ?_
  (conv => arg 2; whnf); refine wp_cutR (frL [(0, str s), (1, i64V at_), (4, .loc b 0), (7, byteV c)]) _ (.cons (.refl _) (.cons (.refl _) (.cons (.refl _) (.cons (cByteAt hc rfl rfl) (.nil _))))) (List.Sublist.refl _) ?_
  (conv => arg 2; whnf); refine wp_pcall (issmall_call c) ?_
  cases hsm : isSm c with
  | true =>
    rw [hsm, if_pos rfl] at hnx
    rw [← hnx] at f1
    obtain ⟨w, n, e, hw⟩ := hret (nextR (s.drop at_))
    rw [hw] at f1
    (repeat ((conv => arg 2; whnf); first | refine wp_ite (fun _ => ?_) (fun h => Bool.noConfusion h) | refine wp_ite (fun h => Bool.noConfusion h) (fun _ => ?_)))
    (conv => arg 2; whnf); refine wp_pcall f1 ?_
    (conv => arg 2; whnf); refine wp_store' 0 rfl (Nat.le_of_ble_eq_true rfl) rfl ?_
    (conv => arg 2; whnf); refine w_ret3cE (cs := wdL w) b 0 0 rfl rfl rfl rfl rfl (.refl _) (.refl _) (.refl _) hw.symm
  | false =>
    rw [hsm, if_neg (by decide)] at hnx
    (repeat ((conv => arg 2; whnf); first | refine wp_ite (fun _ => ?_) (fun h => Bool.noConfusion h) | refine wp_ite (fun h => Bool.noConfusion h) (fun _ => ?_)))
    (conv => arg 2; whnf); refine wp_cutR (frL [(0, str s), (1, i64V at_), (4, .loc b 0), (7, byteV c)]) _ (.cons (.refl _) (.cons (.refl _) (.cons (.refl _) (.cons (.refl _) (.nil _))))) (List.Sublist.refl _) ?_
    (conv => arg 2; whnf); refine wp_pcall (isgreat_call c) ?_
    cases hgr : isGr c with
    | true =>
      rw [hgr, if_pos rfl] at hnx
      rw [← hnx] at f2
      obtain ⟨w, n, e, hw⟩ := hret (nextR (s.drop at_))
      rw [hw] at f2
      (repeat ((conv => arg 2; whnf); first | refine wp_ite (fun _ => ?_) (fun h => Bool.noConfusion h) | refine wp_ite (fun h => Bool.noConfusion h) (fun _ => ?_)))
      (conv => arg 2; whnf); refine wp_pcall f2 ?_
      (conv => arg 2; whnf); refine wp_store' 0 rfl (Nat.le_of_ble_eq_true rfl) rfl ?_
      (conv => arg 2; whnf); refine w_ret3cE (cs := wdL w) b 0 0 rfl rfl rfl rfl rfl (.refl _) (.refl _) (.refl _) hw.symm
    | false =>
      rw [hgr, if_neg (by decide)] at hnx
      (repeat ((conv => arg 2; whnf); first | refine wp_ite (fun _ => ?_) (fun h => Bool.noConfusion h) | refine wp_ite (fun h => Bool.noConfusion h) (fun _ => ?_)))
      (conv => arg 2; whnf); refine wp_cutR (frL [(0, str s), (1, i64V at_), (4, .loc b 0), (7, byteV c)]) _ (.cons (.refl _) (.cons (.refl _) (.cons (.refl _) (.cons (.refl _) (.nil _))))) (List.Sublist.refl _) ?_
      (conv => arg 2; whnf); refine wp_pcall (isdigit_call c) ?_
      cases hdg : isDg c with
      | true =>
        rw [hdg, Bool.true_or, if_pos rfl] at hnx
        obtain ⟨w, n, e, hw⟩ := hret (nextR (s.drop at_))
        replace f3 : ∀ h, PCall Tryd.prog 89 [str s, i64V at_] (.tup [wdV w, n, e]) := fun h => by have := f3 h; rw [← hnx, hw] at this; exact this
        (repeat ((conv => arg 2; whnf); first | refine wp_ite (fun _ => ?_) (fun h => Bool.noConfusion h) | refine wp_ite (fun h => Bool.noConfusion h) (fun _ => ?_)))
        (conv => arg 2; whnf); refine wp_pcall (f3 (.inl hdg)) ?_
        (conv => arg 2; whnf); refine wp_store' 0 rfl (Nat.le_of_ble_eq_true rfl) rfl ?_
        (conv => arg 2; whnf); refine w_ret3cE (cs := wdL w) b 0 0 rfl rfl rfl rfl rfl (.refl _) (.refl _) (.refl _) hw.symm
      | false =>
        rw [hdg, Bool.false_or] at hnx
        have w1 : IntKind.i64.wrap ((at_ : Int) + 1) = ((at_ + 1 : Nat) : Int) := wadd (by omega) (by omega) (by omega)
        (repeat ((conv => arg 2; whnf); first | refine wp_ite (fun _ => ?_) (fun h => Bool.noConfusion h) | refine wp_ite (fun h => Bool.noConfusion h) (fun _ => ?_)))
        (conv => arg 2; whnf); refine wp_cutR (frL [(0, str s), (1, i64V at_), (4, .loc b 0), (7, byteV c)]) _ (.cons (.refl _) (.cons (.refl _) (.cons (.refl _) (.cons (.refl _) (.nil _))))) (List.Sublist.refl _) ?_
        (conv => arg 2; whnf); refine wp_ite (fun h4 => ?_) (fun h4 => ?_)
        · rw [c_int_eq c 45 45 rfl] at h4
          have h4' : c = 45 := of_decide_eq_true h4
          (conv => arg 2; whnf); refine wp_ite (fun h5 => ?_) (fun h5 => ?_)
          · have h5' : at_ + 1 < s.length := by rw [w1] at h5; have := of_decide_eq_true h5; rw [S_size] at this; omega
            obtain ⟨d, hd⟩ : ∃ d, s[at_ + 1]? = some d := ⟨_, List.getElem?_eq_getElem h5'⟩
            have hhd : (s.drop (at_ + 1)).headD 0 = d := by rw [drop_at hd]; rfl
            rw [hhd] at hnx f3
            (conv => arg 2; whnf); refine wp_need (by rw [w1, S_size]; omega) ?_
            (conv => arg 2; whnf); refine wp_pcallV (.cons (cByteAt hd w1 rfl) .nil) (isdigit_call d) ?_
            cases hdd : isDg d with
            | true =>
              rw [hdd, decide_eq_true h5', if_pos (by rw [h4']; rfl)] at hnx
              obtain ⟨w, n, e, hw⟩ := hret (nextR (s.drop at_))
              replace f3 : ∀ h, PCall Tryd.prog 89 [str s, i64V at_] (.tup [wdV w, n, e]) := fun h => by have := f3 h; rw [← hnx, hw] at this; exact this
              (repeat ((conv => arg 2; whnf); first | refine wp_ite (fun _ => ?_) (fun h => Bool.noConfusion h) | refine wp_ite (fun h => Bool.noConfusion h) (fun _ => ?_)))
              (conv => arg 2; whnf); refine wp_pcall (f3 (.inr ⟨h4', h5', hdd⟩)) ?_
              (conv => arg 2; whnf); refine wp_store' 0 rfl (Nat.le_of_ble_eq_true rfl) rfl ?_
              (conv => arg 2; whnf); refine w_ret3cE (cs := wdL w) b 0 0 rfl rfl rfl rfl rfl (.refl _) (.refl _) (.refl _) hw.symm
            | false =>
              rw [hdd, Bool.and_false, if_neg (by decide)] at hnx
              (repeat ((conv => arg 2; whnf); first | refine wp_ite (fun _ => ?_) (fun h => Bool.noConfusion h) | refine wp_ite (fun h => Bool.noConfusion h) (fun _ => ?_)))
              (conv => arg 2; whnf); refine wp_cutR (frL [(0, str s), (1, i64V at_), (4, .loc b 0), (7, byteV c)]) _ (.cons (.refl _) (.cons (.refl _) (.cons (.refl _) (.cons (.refl _) (.nil _))))) (List.Sublist.refl _) ?_
              obtain ⟨w, n, e, hw⟩ := hret (nextR (s.drop at_))
              (conv => arg 2; whnf); refine wp_ite (fun h6 => ?_) (fun h6 => ?_)
              · rw [c_int_eq c 34 34 rfl] at h6
                rw [if_pos (by simpa using h6)] at hnx
                rw [← hnx, hw] at f4
                (conv => arg 2; whnf); refine wp_pcall f4 ?_
                (conv => arg 2; whnf); refine wp_store' 0 rfl (Nat.le_of_ble_eq_true rfl) rfl ?_
                (conv => arg 2; whnf); refine w_ret3cE (cs := wdL w) b 0 0 rfl rfl rfl rfl rfl (.refl _) (.refl _) (.refl _) hw.symm
              · rw [c_int_eq c 34 34 rfl] at h6
                rw [if_neg (by simpa using h6)] at hnx
                rw [← hnx, hw] at f5
                (conv => arg 2; whnf); refine wp_cutR (frL [(0, str s), (1, i64V at_), (4, .loc b 0)]) _ (.cons (.refl _) (.cons (.refl _) (.cons (.refl _) (.nil _)))) (List.Sublist.refl _) ?_
                (conv => arg 2; whnf); refine wp_pcall f5 ?_
                (conv => arg 2; whnf); refine wp_store' 0 rfl (Nat.le_of_ble_eq_true rfl) rfl ?_
                (conv => arg 2; whnf); refine w_ret3cE (cs := wdL w) b 0 0 rfl rfl rfl rfl rfl (.refl _) (.refl _) (.refl _) hw.symm
          · have h5' : ¬ at_ + 1 < s.length := by rw [w1] at h5; have := of_decide_eq_false h5; rw [S_size] at this; omega
            rw [decide_eq_false h5', Bool.and_false, Bool.false_and, if_neg (by decide)] at hnx
            (repeat ((conv => arg 2; whnf); first | refine wp_ite (fun _ => ?_) (fun h => Bool.noConfusion h) | refine wp_ite (fun h => Bool.noConfusion h) (fun _ => ?_)))
            (conv => arg 2; whnf); refine wp_cutR (frL [(0, str s), (1, i64V at_), (4, .loc b 0), (7, byteV c)]) _ (.cons (.refl _) (.cons (.refl _) (.cons (.refl _) (.cons (.refl _) (.nil _))))) (List.Sublist.refl _) ?_
            obtain ⟨w, n, e, hw⟩ := hret (nextR (s.drop at_))
            (conv => arg 2; whnf); refine wp_ite (fun h6 => ?_) (fun h6 => ?_)
            · rw [c_int_eq c 34 34 rfl] at h6
              rw [if_pos (by simpa using h6)] at hnx
              rw [← hnx, hw] at f4
              (conv => arg 2; whnf); refine wp_pcall f4 ?_
              (conv => arg 2; whnf); refine wp_store' 0 rfl (Nat.le_of_ble_eq_true rfl) rfl ?_
              (conv => arg 2; whnf); refine w_ret3cE (cs := wdL w) b 0 0 rfl rfl rfl rfl rfl (.refl _) (.refl _) (.refl _) hw.symm
            · rw [c_int_eq c 34 34 rfl] at h6
              rw [if_neg (by simpa using h6)] at hnx
              rw [← hnx, hw] at f5
              (conv => arg 2; whnf); refine wp_cutR (frL [(0, str s), (1, i64V at_), (4, .loc b 0)]) _ (.cons (.refl _) (.cons (.refl _) (.cons (.refl _) (.nil _)))) (List.Sublist.refl _) ?_
              (conv => arg 2; whnf); refine wp_pcall f5 ?_
              (conv => arg 2; whnf); refine wp_store' 0 rfl (Nat.le_of_ble_eq_true rfl) rfl ?_
              (conv => arg 2; whnf); refine w_ret3cE (cs := wdL w) b 0 0 rfl rfl rfl rfl rfl (.refl _) (.refl _) (.refl _) hw.symm
        · rw [c_int_eq c 45 45 rfl] at h4
          have h4' : (c == 45) = false := by simpa using h4
          rw [h4', Bool.false_and, Bool.false_and, if_neg (by decide)] at hnx
          (repeat ((conv => arg 2; whnf); first | refine wp_ite (fun _ => ?_) (fun h => Bool.noConfusion h) | refine wp_ite (fun h => Bool.noConfusion h) (fun _ => ?_)))
          (conv => arg 2; whnf); refine wp_cutR (frL [(0, str s), (1, i64V at_), (4, .loc b 0), (7, byteV c)]) _ (.cons (.refl _) (.cons (.refl _) (.cons (.refl _) (.cons (.refl _) (.nil _))))) (List.Sublist.refl _) ?_
          obtain ⟨w, n, e, hw⟩ := hret (nextR (s.drop at_))
          (conv => arg 2; whnf); refine wp_ite (fun h6 => ?_) (fun h6 => ?_)
          · rw [c_int_eq c 34 34 rfl] at h6
            rw [if_pos (by simpa using h6)] at hnx
            rw [← hnx, hw] at f4
            (conv => arg 2; whnf); refine wp_pcall f4 ?_
            (conv => arg 2; whnf); refine wp_store' 0 rfl (Nat.le_of_ble_eq_true rfl) rfl ?_
            (conv => arg 2; whnf); refine w_ret3cE (cs := wdL w) b 0 0 rfl rfl rfl rfl rfl (.refl _) (.refl _) (.refl _) hw.symm
          · rw [c_int_eq c 34 34 rfl] at h6
            rw [if_neg (by simpa using h6)] at hnx
            rw [← hnx, hw] at f5
            (conv => arg 2; whnf); refine wp_cutR (frL [(0, str s), (1, i64V at_), (4, .loc b 0)]) _ (.cons (.refl _) (.cons (.refl _) (.cons (.refl _) (.nil _)))) (List.Sublist.refl _) ?_
            (conv => arg 2; whnf); refine wp_pcall f5 ?_
            (conv => arg 2; whnf); refine wp_store' 0 rfl (Nat.le_of_ble_eq_true rfl) rfl ?_
            (conv => arg 2; whnf); refine w_ret3cE (cs := wdL w) b 0 0 rfl rfl rfl rfl rfl (.refl _) (.refl _) (.refl _) hw.symm
end Go.Sv
