/- The reference's words: the next one. -/
import Derived.Test.YtdkbdmfhidimmaaDoorRefWord2
namespace Go.Sv
open Go Go.Proofs

theorem kge (c : UInt8) (k : Nat) (m : Int) (h : m = k) : decide ((c.toNat : Int) ≥ m) = decide (k ≤ c.toNat) := by subst h; exact decide_eq_decide.2 (by omega)
theorem kle (c : UInt8) (k : Nat) (m : Int) (h : m = k) : decide ((c.toNat : Int) ≤ m) = decide (c.toNat ≤ k) := by subst h; exact decide_eq_decide.2 (by omega)

theorem indexByte_none (c : UInt8) : ∀ l : List UInt8, c ∉ l → Lib.indexByte l c < 0
  | [], _ => by rw [Lib.indexByte]; decide
  | b :: l, h => by
    have h1 : b ≠ c := fun e => h (by simp [e])
    have h2 := indexByte_none c l (fun hm => h (by simp [hm]))
    have h3 := Lib.indexByte_ge l c
    rw [Lib.indexByte, if_neg (by simpa using h1)]
    split
    · decide
    · rename_i h4; simp at h4; omega
theorem indexByte_some (c : UInt8) : ∀ l : List UInt8, c ∈ l → ¬ Lib.indexByte l c < 0
  | [], h => by cases h
  | b :: l, h => by
    have h3 := Lib.indexByte_ge l c
    rw [Lib.indexByte]
    split
    · decide
    · rename_i h1
      have h1 : b ≠ c := by simpa using h1
      have h2 := indexByte_some c l (by rcases List.mem_cons.1 h with e | e; exact absurd e.symm h1; exact e)
      split
      · rename_i h4; simp at h4; omega
      · omega
theorem prefix_two (a b : UInt8) (l : List UInt8) : [a, b].isPrefixOf l = decide (l.take 2 = [a, b]) := by
  rw [Bool.eq_iff_iff, decide_eq_true_eq, List.isPrefixOf_iff_prefix]
  constructor
  · rintro ⟨t, rfl⟩; rfl
  · intro h; rw [← h]; exact List.take_prefix _ _

set_option maxRecDepth 100000 in
set_option maxHeartbeats 2000000 in
theorem rword_call (s : List UInt8) (at_ : Nat) (hat : at_ < s.length) (hs : s.length < 2 ^ 40) : PCall Tryd.prog 53 [str s, i64V at_] (rnxV (nextR (s.drop at_))) := by
  obtain ⟨c, hc⟩ : ∃ c, s[at_]? = some c := ⟨_, List.getElem?_eq_getElem hat⟩
  have hnx := nextR_at hc
  have f3 := fun h => rnumber_call s at_ c hc h hs
  have f4 := rtext_call s at_ hat hs
  have hret : ∀ x : Except Nat Nx, ∃ (w : Wd) (n : V) (e : V), rnxV x = .tup [wdV w, n, e] := by
    intro x
    cases x with
    | ok x => exact ⟨_, _, _, rfl⟩
    | error e => exact ⟨_, _, _, rfl⟩
  refine scall_of (live := []) (ords := [(3, []), (6, []), (9, []), (12, []), (15, []), (17, []), (19, []), (20, []), (21, [])]) Tryd.func53 rfl (by kernel_rfl) (by kernel_rfl) (Nat.le_of_ble_eq_true rfl) ?_
  (conv => arg 2; whnf); refine wp_allocE (wdL wd0) rfl fun b => ?_
  (conv => arg 2; whnf); refine wp_need (by rw [S_size]; omega) ?_
  (conv => arg 2; whnf); refine wp_cutR (frL [(0, str s), (1, i64V at_), (4, .loc b 0), (7, byteV c), (8, i64V 1)]) _ (.cons (.refl _) (.cons (.refl _) (.cons (.refl _) (.cons (cByteAt hc rfl rfl) (.cons (.refl _) (.nil _)))))) (List.Sublist.refl _) ?_
  have hsmv : isSm c = (decide (97 ≤ c.toNat) && decide (c.toNat ≤ 122)) := rfl
  have hgrv : isGr c = (decide (65 ≤ c.toNat) && decide (c.toNat ≤ 90)) := rfl
  cases hsm : isSm c with
  | true =>
    rw [hsm, if_pos rfl] at hnx
    have hcd : 97 ≤ c.toNat ∧ c.toNat ≤ 122 := by simpa [isSm] using hsm
    (conv => arg 2; whnf); refine wp_ite (fun _ => ?_) (fun h => by have := of_decide_eq_false h; omega)
    (conv => arg 2; whnf); refine wp_ite (fun _ => ?_) (fun h => by have := of_decide_eq_false h; omega)
    have hK0 := spanN_le isSm (s.drop at_)
    rw [List.length_drop] at hK0
    obtain ⟨K, hK⟩ : ∃ K, K = spanN isSm (s.drop at_) := ⟨_, rfl⟩
    have hK1 : spanN isSm (s.drop at_) = 1 + spanN isSm (s.drop (at_ + 1)) := by rw [drop_at hc, spanN_cons hsm, Nat.add_comm]
    have hres : letR 1 isSm (s.drop at_) = if 8 < K then .error 12 else .ok ⟨1, (s.drop at_).take K, 0, K⟩ := by rw [letR, ← hK]
    rw [hres] at hnx
    rw [← hK] at hK0
    clear hres
    (conv => arg 2; whnf); refine wp_loop (fun m fr R => ∃ n : Nat, m = s.length - n ∧ 1 ≤ n ∧ at_ + n ≤ s.length ∧ R = [.obj b (wdL wd0)] ∧ spanN isSm (s.drop at_) = n + spanN isSm (s.drop (at_ + n)) ∧ fr = frL [(0, str s), (1, i64V at_), (4, .loc b 0), (8, i64V n)])
      (s.length - 1) _ [.obj b (wdL wd0)] (.cons (.refl _) (.cons (.refl _) (.cons (.refl _) (.cons (.refl _) (.nil _))))) (List.Sublist.refl _) ⟨1, rfl, Nat.le_refl _, hat, rfl, hK1, rfl⟩ ?_
    rintro m fr R ⟨n, rfl, hn1, hn, rfl, hsp, rfl⟩
    have w1 : IntKind.i64.wrap ((at_ : Int) + n) = ((at_ + n : Nat) : Int) := wadd (by omega) (by omega) (by omega)
    by_cases hz : spanN isSm (s.drop (at_ + n)) = 0
    · have hnK : n = K := by omega
      have hx : decide (IntKind.i64.wrap ((at_ : Int) + n) < ((S s).size : Int)) = true → ∃ c', s[at_ + n]? = some c' ∧ isSm c' = false := fun h => by
        rw [w1] at h
        have := of_decide_eq_true h
        rw [S_size] at this
        obtain ⟨c', hc'⟩ : ∃ c', s[at_ + n]? = some c' := ⟨_, List.getElem?_eq_getElem (by omega)⟩
        refine ⟨c', hc', ?_⟩
        cases e : isSm c' with
        | false => rfl
        | true => rw [drop_at hc', spanN_cons e] at hz; cases hz
      have hne : decide (IntKind.i64.wrap ((at_ : Int) + n) < ((S s).size : Int)) = true → (0 : Int) ≤ IntKind.i64.wrap ((at_ : Int) + n) ∧ IntKind.i64.wrap ((at_ : Int) + n) < (S s).size := fun h => by
        have := of_decide_eq_true h
        rw [w1] at this ⊢
        omega
      have hpb : ∀ c', isSm c' = false → decide ((c'.toNat : Int) ≥ 97) = true → decide ((c'.toNat : Int) ≤ 122) = true → False := fun c' h h1 h2 => by
        have h1 := of_decide_eq_true h1
        have h2 := of_decide_eq_true h2
        have : isSm c' = true := by rw [isSm, decide_eq_true (by omega), decide_eq_true (by omega)]; rfl
        rw [h] at this; cases this
      have hpb' : ∀ h : decide (IntKind.i64.wrap ((at_ : Int) + n) < ((S s).size : Int)) = true, decide (((byteAt (S s) (Int.toNat (IntKind.i64.wrap ((at_ : Int) + n)))).toNat : Int) ≥ 97) = true → decide (((byteAt (S s) (Int.toNat (IntKind.i64.wrap ((at_ : Int) + n)))).toNat : Int) ≤ 122) = true → False := fun h h1 h2 => by
        obtain ⟨c', hc', hp⟩ := hx h
        rw [w1, Int.toNat_natCast, byte_at hc'] at h1 h2
        exact hpb c' hp h1 h2
      apply wp_joinT
      case h1 =>
        intro rest
        (conv => arg 2; whnf); refine wp_ite (fun h => ?yes) (fun h => ?no)
        case no =>
          (repeat ((conv => arg 2; whnf); first | refine wp_ite (fun _ => ?_) (fun h => Bool.noConfusion h) | refine wp_ite (fun h => Bool.noConfusion h) (fun _ => ?_)))
          (conv => arg 2; whnf)
          refine wp_leaf (loop_exit ?_)
          (conv => arg 2; whnf)
          exact wp_cutR (frL [(0, str s), (1, i64V at_), (4, .loc b 0), (8, i64V K)]) [.obj b (wdL wd0)] (.cons (.refl _) (.cons (.refl _) (.cons (.refl _) (.cons (Vle.of (i64V n) rfl (congrArg (fun z : Nat => i64V z) hnK)) (.nil _))))) (List.Sublist.refl _) rest
        case yes =>
          (conv => arg 2; whnf); refine wp_need (hne h) ?_
          (conv => arg 2; whnf); refine wp_ite (fun h1 => ?yes) (fun h1 => ?no)
          case no =>
            (repeat ((conv => arg 2; whnf); first | refine wp_ite (fun _ => ?_) (fun h => Bool.noConfusion h) | refine wp_ite (fun h => Bool.noConfusion h) (fun _ => ?_)))
            (conv => arg 2; whnf)
            refine wp_leaf (loop_exit ?_)
            (conv => arg 2; whnf)
            exact wp_cutR (frL [(0, str s), (1, i64V at_), (4, .loc b 0), (8, i64V K)]) [.obj b (wdL wd0)] (.cons (.refl _) (.cons (.refl _) (.cons (.refl _) (.cons (Vle.of (i64V n) rfl (congrArg (fun z : Nat => i64V z) hnK)) (.nil _))))) (List.Sublist.refl _) rest
          case yes =>
            (conv => arg 2; whnf); refine wp_need (hne h) ?_
            (conv => arg 2; whnf); refine wp_ite (fun h2 => (hpb' h h1 h2).elim) (fun h2 => ?_)
            (conv => arg 2; whnf)
            refine wp_leaf (loop_exit ?_)
            (conv => arg 2; whnf)
            exact wp_cutR (frL [(0, str s), (1, i64V at_), (4, .loc b 0), (8, i64V K)]) [.obj b (wdL wd0)] (.cons (.refl _) (.cons (.refl _) (.cons (.refl _) (.cons (Vle.of (i64V n) rfl (congrArg (fun z : Nat => i64V z) hnK)) (.nil _))))) (List.Sublist.refl _) rest
      case rest =>
        by_cases h8 : 8 < K
        · rw [if_pos h8] at hnx
          (conv => arg 2; whnf); refine wp_ite (fun _ => ?_) (fun h => by have := of_decide_eq_false h; omega)
          (conv => arg 2; whnf); refine wp_store' 0 rfl (Nat.le_of_ble_eq_true rfl) rfl ?_
          (conv => arg 2; whnf); refine w_ret3cE (cs := wdL wd0) b 0 0 rfl rfl rfl rfl rfl (.refl _) (.refl _) (.refl _) (by rw [hnx]; rfl)
        · rw [if_neg h8] at hnx
          have w2 : IntKind.i64.wrap ((at_ : Int) + K) = ((at_ + K : Nat) : Int) := wadd (by omega) (by omega) (by omega)
          (conv => arg 2; whnf); refine wp_ite (fun h => by have := of_decide_eq_true h; omega) (fun _ => ?_)
          (conv => arg 2; whnf); refine wp_need (by rw [w2, S_size]; omega) ?_
          (conv => arg 2; whnf); refine wp_store' 0 rfl (Nat.le_of_ble_eq_true rfl) rfl ?_
          (conv => arg 2; whnf); refine w_ret3cE (cs := wdL ((⟨1, (s.drop at_).take K, 0, K⟩ : Nx).wd 0)) b 0 0 rfl rfl rfl ?_ rfl (.refl _) (.refl _) (.refl _) (by rw [hnx]; rfl)
          show some (Res.obj b [i64V 1, V.c (.string ((S s).extract (Int.toNat at_) (Int.toNat (IntKind.i64.wrap ((at_ : Int) + K))))), i64V 0, i64V 0]) = _
          rw [w2, S_extract, Int.toNat_natCast, Int.toNat_natCast, List.take_drop]; rfl
    · obtain ⟨c', hc'⟩ : ∃ c', s[at_ + n]? = some c' := by
        have : at_ + n < s.length := by
          rcases Nat.lt_or_ge (at_ + n) s.length with h | h
          · exact h
          · exact absurd (by rw [List.drop_eq_nil_of_le h]; rfl) hz
        exact ⟨_, List.getElem?_eq_getElem this⟩
      have hlen := (List.getElem?_eq_some_iff.1 hc').1
      have hpc : isSm c' = true := by
        cases e : isSm c' with
        | true => rfl
        | false => exact absurd (by rw [drop_at hc', spanN_stop e]) hz
      have hcd : 97 ≤ c'.toNat ∧ c'.toNat ≤ 122 := by simpa [isSm] using hpc
      have hbb : byteAt (S s) (Int.toNat (IntKind.i64.wrap ((at_ : Int) + n))) = c' := by rw [w1]; exact byte_at hc'
      have hne : (0 : Int) ≤ IntKind.i64.wrap ((at_ : Int) + n) ∧ IntKind.i64.wrap ((at_ : Int) + n) < (S s).size := by rw [w1, S_size]; omega
      have hspc : spanN isSm (s.drop (at_ + n)) = 1 + spanN isSm (s.drop (at_ + (n + 1))) := by rw [drop_at hc', spanN_cons hpc, Nat.add_comm]; rfl
      (conv => arg 2; whnf); refine wp_ite (fun _ => ?_) (fun h => by rw [w1] at h; have := of_decide_eq_false h; rw [S_size] at this; omega)
      (conv => arg 2; whnf); refine wp_need hne ?_
      (conv => arg 2; whnf); refine wp_ite (fun _ => ?_) (fun h => by rw [hbb] at h; have := of_decide_eq_false h; omega)
      (conv => arg 2; whnf); refine wp_need hne ?_
      (conv => arg 2; whnf); refine wp_ite (fun _ => ?_) (fun h => by rw [hbb] at h; have := of_decide_eq_false h; omega)
      (conv => arg 2; whnf)
      exact wp_leaf (loop_next (s.length - (n + 1)) _ [.obj b (wdL wd0)] (by omega) (.cons (.refl _) (.cons (.refl _) (.cons (.refl _) (.cons (Vle.inc n rfl (by omega)) (.nil _))))) (List.Sublist.refl _) ⟨n + 1, rfl, by omega, by omega, rfl, by omega, rfl⟩)
  | false =>
    rw [hsm, if_neg (by decide)] at hnx
    have hcd : ¬ (97 ≤ c.toNat ∧ c.toNat ≤ 122) := by simpa [isSm] using hsm
    have hno97 : decide ((c.toNat : Int) ≥ 97) = true → decide ((c.toNat : Int) ≤ 122) = true → False := fun h h' => hcd ⟨by have := of_decide_eq_true h; omega, by have := of_decide_eq_true h'; omega⟩
    apply wp_joinT
    case h1 =>
      intro rest
      (conv => arg 2; whnf); refine wp_ite (fun h => ?_) (fun h => ?_)
      · (conv => arg 2; whnf); refine wp_ite (fun h' => (hno97 h h').elim) (fun h' => ?_)
        (conv => arg 2; whnf)
        exact wp_cutR (frL [(0, str s), (1, i64V at_), (4, .loc b 0), (7, byteV c), (8, i64V 1)]) _ (.cons (.refl _) (.cons (.refl _) (.cons (.refl _) (.cons (.refl _) (.cons (.refl _) (.nil _)))))) (List.Sublist.refl _) rest
      · (repeat ((conv => arg 2; whnf); first | refine wp_ite (fun _ => ?_) (fun h => Bool.noConfusion h) | refine wp_ite (fun h => Bool.noConfusion h) (fun _ => ?_)))
        (conv => arg 2; whnf)
        exact wp_cutR (frL [(0, str s), (1, i64V at_), (4, .loc b 0), (7, byteV c), (8, i64V 1)]) _ (.cons (.refl _) (.cons (.refl _) (.cons (.refl _) (.cons (.refl _) (.cons (.refl _) (.nil _)))))) (List.Sublist.refl _) rest
    case rest =>
      cases hgr : isGr c with
      | true =>
        rw [hgr, if_pos rfl] at hnx
        have hsm := hgr
        have hcd : 65 ≤ c.toNat ∧ c.toNat ≤ 90 := by simpa [isGr] using hgr
        (conv => arg 2; whnf); refine wp_ite (fun _ => ?_) (fun h => by have := of_decide_eq_false h; omega)
        (conv => arg 2; whnf); refine wp_ite (fun _ => ?_) (fun h => by have := of_decide_eq_false h; omega)
        have hK0 := spanN_le isGr (s.drop at_)
        rw [List.length_drop] at hK0
        obtain ⟨K, hK⟩ : ∃ K, K = spanN isGr (s.drop at_) := ⟨_, rfl⟩
        have hK1 : spanN isGr (s.drop at_) = 1 + spanN isGr (s.drop (at_ + 1)) := by rw [drop_at hc, spanN_cons hsm, Nat.add_comm]
        have hres : letR 4 isGr (s.drop at_) = if 8 < K then .error 12 else .ok ⟨4, (s.drop at_).take K, 0, K⟩ := by rw [letR, ← hK]
        rw [hres] at hnx
        rw [← hK] at hK0
        clear hres
        (conv => arg 2; whnf); refine wp_loop (fun m fr R => ∃ n : Nat, m = s.length - n ∧ 1 ≤ n ∧ at_ + n ≤ s.length ∧ R = [.obj b (wdL wd0)] ∧ spanN isGr (s.drop at_) = n + spanN isGr (s.drop (at_ + n)) ∧ fr = frL [(0, str s), (1, i64V at_), (4, .loc b 0), (8, i64V n)])
          (s.length - 1) _ [.obj b (wdL wd0)] (.cons (.refl _) (.cons (.refl _) (.cons (.refl _) (.cons (.refl _) (.nil _))))) (List.Sublist.refl _) ⟨1, rfl, Nat.le_refl _, hat, rfl, hK1, rfl⟩ ?_
        rintro m fr R ⟨n, rfl, hn1, hn, rfl, hsp, rfl⟩
        have w1 : IntKind.i64.wrap ((at_ : Int) + n) = ((at_ + n : Nat) : Int) := wadd (by omega) (by omega) (by omega)
        by_cases hz : spanN isGr (s.drop (at_ + n)) = 0
        · have hnK : n = K := by omega
          have hx : decide (IntKind.i64.wrap ((at_ : Int) + n) < ((S s).size : Int)) = true → ∃ c', s[at_ + n]? = some c' ∧ isGr c' = false := fun h => by
            rw [w1] at h
            have := of_decide_eq_true h
            rw [S_size] at this
            obtain ⟨c', hc'⟩ : ∃ c', s[at_ + n]? = some c' := ⟨_, List.getElem?_eq_getElem (by omega)⟩
            refine ⟨c', hc', ?_⟩
            cases e : isGr c' with
            | false => rfl
            | true => rw [drop_at hc', spanN_cons e] at hz; cases hz
          have hne : decide (IntKind.i64.wrap ((at_ : Int) + n) < ((S s).size : Int)) = true → (0 : Int) ≤ IntKind.i64.wrap ((at_ : Int) + n) ∧ IntKind.i64.wrap ((at_ : Int) + n) < (S s).size := fun h => by
            have := of_decide_eq_true h
            rw [w1] at this ⊢
            omega
          have hpb : ∀ c', isGr c' = false → decide ((c'.toNat : Int) ≥ 65) = true → decide ((c'.toNat : Int) ≤ 90) = true → False := fun c' h h1 h2 => by
            have h1 := of_decide_eq_true h1
            have h2 := of_decide_eq_true h2
            have : isGr c' = true := by rw [isGr, decide_eq_true (by omega), decide_eq_true (by omega)]; rfl
            rw [h] at this; cases this
          have hpb' : ∀ h : decide (IntKind.i64.wrap ((at_ : Int) + n) < ((S s).size : Int)) = true, decide (((byteAt (S s) (Int.toNat (IntKind.i64.wrap ((at_ : Int) + n)))).toNat : Int) ≥ 65) = true → decide (((byteAt (S s) (Int.toNat (IntKind.i64.wrap ((at_ : Int) + n)))).toNat : Int) ≤ 90) = true → False := fun h h1 h2 => by
            obtain ⟨c', hc', hp⟩ := hx h
            rw [w1, Int.toNat_natCast, byte_at hc'] at h1 h2
            exact hpb c' hp h1 h2
          apply wp_joinT
          case h1 =>
            intro rest
            (conv => arg 2; whnf); refine wp_ite (fun h => ?yes) (fun h => ?no)
            case no =>
              (repeat ((conv => arg 2; whnf); first | refine wp_ite (fun _ => ?_) (fun h => Bool.noConfusion h) | refine wp_ite (fun h => Bool.noConfusion h) (fun _ => ?_)))
              (conv => arg 2; whnf)
              refine wp_leaf (loop_exit ?_)
              (conv => arg 2; whnf)
              exact wp_cutR (frL [(0, str s), (1, i64V at_), (4, .loc b 0), (8, i64V K)]) [.obj b (wdL wd0)] (.cons (.refl _) (.cons (.refl _) (.cons (.refl _) (.cons (Vle.of (i64V n) rfl (congrArg (fun z : Nat => i64V z) hnK)) (.nil _))))) (List.Sublist.refl _) rest
            case yes =>
              (conv => arg 2; whnf); refine wp_need (hne h) ?_
              (conv => arg 2; whnf); refine wp_ite (fun h1 => ?yes) (fun h1 => ?no)
              case no =>
                (repeat ((conv => arg 2; whnf); first | refine wp_ite (fun _ => ?_) (fun h => Bool.noConfusion h) | refine wp_ite (fun h => Bool.noConfusion h) (fun _ => ?_)))
                (conv => arg 2; whnf)
                refine wp_leaf (loop_exit ?_)
                (conv => arg 2; whnf)
                exact wp_cutR (frL [(0, str s), (1, i64V at_), (4, .loc b 0), (8, i64V K)]) [.obj b (wdL wd0)] (.cons (.refl _) (.cons (.refl _) (.cons (.refl _) (.cons (Vle.of (i64V n) rfl (congrArg (fun z : Nat => i64V z) hnK)) (.nil _))))) (List.Sublist.refl _) rest
              case yes =>
                (conv => arg 2; whnf); refine wp_need (hne h) ?_
                (conv => arg 2; whnf); refine wp_ite (fun h2 => (hpb' h h1 h2).elim) (fun h2 => ?_)
                (conv => arg 2; whnf)
                refine wp_leaf (loop_exit ?_)
                (conv => arg 2; whnf)
                exact wp_cutR (frL [(0, str s), (1, i64V at_), (4, .loc b 0), (8, i64V K)]) [.obj b (wdL wd0)] (.cons (.refl _) (.cons (.refl _) (.cons (.refl _) (.cons (Vle.of (i64V n) rfl (congrArg (fun z : Nat => i64V z) hnK)) (.nil _))))) (List.Sublist.refl _) rest
          case rest =>
            by_cases h8 : 8 < K
            · rw [if_pos h8] at hnx
              (conv => arg 2; whnf); refine wp_ite (fun _ => ?_) (fun h => by have := of_decide_eq_false h; omega)
              (conv => arg 2; whnf); refine wp_store' 0 rfl (Nat.le_of_ble_eq_true rfl) rfl ?_
              (conv => arg 2; whnf); refine w_ret3cE (cs := wdL wd0) b 0 0 rfl rfl rfl rfl rfl (.refl _) (.refl _) (.refl _) (by rw [hnx]; rfl)
            · rw [if_neg h8] at hnx
              have w2 : IntKind.i64.wrap ((at_ : Int) + K) = ((at_ + K : Nat) : Int) := wadd (by omega) (by omega) (by omega)
              (conv => arg 2; whnf); refine wp_ite (fun h => by have := of_decide_eq_true h; omega) (fun _ => ?_)
              (conv => arg 2; whnf); refine wp_need (by rw [w2, S_size]; omega) ?_
              (conv => arg 2; whnf); refine wp_store' 0 rfl (Nat.le_of_ble_eq_true rfl) rfl ?_
              (conv => arg 2; whnf); refine w_ret3cE (cs := wdL ((⟨4, (s.drop at_).take K, 0, K⟩ : Nx).wd 0)) b 0 0 rfl rfl rfl ?_ rfl (.refl _) (.refl _) (.refl _) (by rw [hnx]; rfl)
              show some (Res.obj b [i64V 4, V.c (.string ((S s).extract (Int.toNat at_) (Int.toNat (IntKind.i64.wrap ((at_ : Int) + K))))), i64V 0, i64V 0]) = _
              rw [w2, S_extract, Int.toNat_natCast, Int.toNat_natCast, List.take_drop]; rfl
        · obtain ⟨c', hc'⟩ : ∃ c', s[at_ + n]? = some c' := by
            have : at_ + n < s.length := by
              rcases Nat.lt_or_ge (at_ + n) s.length with h | h
              · exact h
              · exact absurd (by rw [List.drop_eq_nil_of_le h]; rfl) hz
            exact ⟨_, List.getElem?_eq_getElem this⟩
          have hlen := (List.getElem?_eq_some_iff.1 hc').1
          have hpc : isGr c' = true := by
            cases e : isGr c' with
            | true => rfl
            | false => exact absurd (by rw [drop_at hc', spanN_stop e]) hz
          have hcd : 65 ≤ c'.toNat ∧ c'.toNat ≤ 90 := by simpa [isGr] using hpc
          have hbb : byteAt (S s) (Int.toNat (IntKind.i64.wrap ((at_ : Int) + n))) = c' := by rw [w1]; exact byte_at hc'
          have hne : (0 : Int) ≤ IntKind.i64.wrap ((at_ : Int) + n) ∧ IntKind.i64.wrap ((at_ : Int) + n) < (S s).size := by rw [w1, S_size]; omega
          have hspc : spanN isGr (s.drop (at_ + n)) = 1 + spanN isGr (s.drop (at_ + (n + 1))) := by rw [drop_at hc', spanN_cons hpc, Nat.add_comm]; rfl
          (conv => arg 2; whnf); refine wp_ite (fun _ => ?_) (fun h => by rw [w1] at h; have := of_decide_eq_false h; rw [S_size] at this; omega)
          (conv => arg 2; whnf); refine wp_need hne ?_
          (conv => arg 2; whnf); refine wp_ite (fun _ => ?_) (fun h => by rw [hbb] at h; have := of_decide_eq_false h; omega)
          (conv => arg 2; whnf); refine wp_need hne ?_
          (conv => arg 2; whnf); refine wp_ite (fun _ => ?_) (fun h => by rw [hbb] at h; have := of_decide_eq_false h; omega)
          (conv => arg 2; whnf)
          exact wp_leaf (loop_next (s.length - (n + 1)) _ [.obj b (wdL wd0)] (by omega) (.cons (.refl _) (.cons (.refl _) (.cons (.refl _) (.cons (Vle.inc n rfl (by omega)) (.nil _))))) (List.Sublist.refl _) ⟨n + 1, rfl, by omega, by omega, rfl, by omega, rfl⟩)
      | false =>
        rw [hgr, if_neg (by decide)] at hnx
        have hcd : ¬ (65 ≤ c.toNat ∧ c.toNat ≤ 90) := by simpa [isGr] using hgr
        have hno65 : decide ((c.toNat : Int) ≥ 65) = true → decide ((c.toNat : Int) ≤ 90) = true → False := fun h h' => hcd ⟨by have := of_decide_eq_true h; omega, by have := of_decide_eq_true h'; omega⟩
        apply wp_joinT
        case h1 =>
          intro rest
          (conv => arg 2; whnf); refine wp_ite (fun h => ?_) (fun h => ?_)
          · (conv => arg 2; whnf); refine wp_ite (fun h' => (hno65 h h').elim) (fun h' => ?_)
            (conv => arg 2; whnf)
            exact wp_cutR (frL [(0, str s), (1, i64V at_), (4, .loc b 0), (7, byteV c), (8, i64V 1)]) _ (.cons (.refl _) (.cons (.refl _) (.cons (.refl _) (.cons (.refl _) (.cons (.refl _) (.nil _)))))) (List.Sublist.refl _) rest
          · (repeat ((conv => arg 2; whnf); first | refine wp_ite (fun _ => ?_) (fun h => Bool.noConfusion h) | refine wp_ite (fun h => Bool.noConfusion h) (fun _ => ?_)))
            (conv => arg 2; whnf)
            exact wp_cutR (frL [(0, str s), (1, i64V at_), (4, .loc b 0), (7, byteV c), (8, i64V 1)]) _ (.cons (.refl _) (.cons (.refl _) (.cons (.refl _) (.cons (.refl _) (.cons (.refl _) (.nil _)))))) (List.Sublist.refl _) rest
        case rest =>
          have w1 : IntKind.i64.wrap ((at_ : Int) + 1) = ((at_ + 1 : Nat) : Int) := wadd (by omega) (by omega) (by omega)
          have w2 : IntKind.i64.wrap ((at_ : Int) + 2) = ((at_ + 2 : Nat) : Int) := wadd (by omega) (by omega) (by omega)
          have k45 := c_int_eq c 45 45 rfl
          have k34 := c_int_eq c 34 34 rfl
          have hlt1 : decide (IntKind.i64.wrap ((at_ : Int) + 1) < ((S s).size : Int)) = decide (at_ + 1 < s.length) := by rw [w1, S_size]; exact decide_eq_decide.2 (by omega)
          have hne1 : at_ + 1 < s.length → (0 : Int) ≤ IntKind.i64.wrap ((at_ : Int) + 1) ∧ IntKind.i64.wrap ((at_ : Int) + 1) < (S s).size := fun h => by rw [w1, S_size]; omega
          have hdrop : ∀ d, s[at_ + 1]? = some d → (s.drop (at_ + 1)).headD 0 = d := fun d hd => by rw [drop_at hd]; rfl
          have hget1 : at_ + 1 < s.length → ∃ d, s[at_ + 1]? = some d := fun h => ⟨_, List.getElem?_eq_getElem h⟩
          cases hqv : (isDg c || (c == 45 && decide (at_ + 1 < s.length) && isDg ((s.drop (at_ + 1)).headD 0))) with
          | true =>
            rw [hqv, if_pos rfl] at hnx
            obtain ⟨w, n, e, hw⟩ := hret (nextR (s.drop at_))
            replace f3 : ∀ h, PCall Tryd.prog 79 [str s, i64V at_] (.tup [wdV w, n, e]) := fun h => by have := f3 h; rw [← hnx, hw] at this; exact this
            cases hdg : isDg c with
            | true =>
              have hrd := rdigit_call c
              rw [hdg] at hrd
              (conv => arg 2; whnf); refine wp_pcall hrd ?_
              (repeat ((conv => arg 2; whnf); first | refine wp_ite (fun _ => ?_) (fun h => Bool.noConfusion h) | refine wp_ite (fun h => Bool.noConfusion h) (fun _ => ?_)))
              (conv => arg 2; whnf); refine wp_pcall (f3 (.inl hdg)) ?_
              (conv => arg 2; whnf); refine wp_store' 0 rfl (Nat.le_of_ble_eq_true rfl) rfl ?_
              (conv => arg 2; whnf); refine w_ret3cE (cs := wdL w) b 0 0 rfl rfl rfl rfl rfl (.refl _) (.refl _) (.refl _) hw.symm
            | false =>
              rw [hdg, Bool.false_or, Bool.and_eq_true, Bool.and_eq_true, beq_iff_eq, decide_eq_true_eq] at hqv
              obtain ⟨⟨h45, hl1⟩, hdd⟩ := hqv
              obtain ⟨d, hd⟩ := hget1 hl1
              have f3 := f3 (.inr ⟨h45, hl1, hdd⟩)
              rw [hdrop d hd] at hdd
              have hrd := rdigit_call c
              rw [hdg] at hrd
              have hrd2 := rdigit_call d
              rw [hdd] at hrd2
              (conv => arg 2; whnf); refine wp_pcall hrd ?_
              (repeat ((conv => arg 2; whnf); first | refine wp_ite (fun _ => ?_) (fun h => Bool.noConfusion h) | refine wp_ite (fun h => Bool.noConfusion h) (fun _ => ?_)))
              (conv => arg 2; whnf); refine wp_ite (fun _ => ?_) (fun h => by rw [k45, h45] at h; cases h)
              (conv => arg 2; whnf); refine wp_ite (fun _ => ?_) (fun h => by rw [hlt1, decide_eq_true hl1] at h; cases h)
              (conv => arg 2; whnf); refine wp_need (hne1 hl1) ?_
              (conv => arg 2; whnf); refine wp_pcallV (.cons (cByteAt hd w1 rfl) .nil) hrd2 ?_
              (repeat ((conv => arg 2; whnf); first | refine wp_ite (fun _ => ?_) (fun h => Bool.noConfusion h) | refine wp_ite (fun h => Bool.noConfusion h) (fun _ => ?_)))
              (conv => arg 2; whnf); refine wp_pcall f3 ?_
              (conv => arg 2; whnf); refine wp_store' 0 rfl (Nat.le_of_ble_eq_true rfl) rfl ?_
              (conv => arg 2; whnf); refine w_ret3cE (cs := wdL w) b 0 0 rfl rfl rfl rfl rfl (.refl _) (.refl _) (.refl _) hw.symm
          | false =>
            rw [hqv, if_neg (by decide)] at hnx
            rw [Bool.or_eq_false_iff] at hqv
            obtain ⟨hdg, hqv⟩ := hqv
            have hrd := rdigit_call c
            rw [hdg] at hrd
            have hdd : c = 45 → ∀ hl1 : at_ + 1 < s.length, ∀ d, s[at_ + 1]? = some d → isDg d = false := fun h hl1 d hd => by
              rw [h, decide_eq_true hl1, hdrop d hd] at hqv
              simpa using hqv
            have hrd2 : c = 45 → ∀ hl1 : at_ + 1 < s.length, ∀ d, s[at_ + 1]? = some d → PCall Tryd.prog 78 [byteV d] (bV false) := fun h hl1 d hd => by
              have := rdigit_call d
              rw [hdd h hl1 d hd] at this; exact this
            apply wp_joinT
            case h1 =>
              intro rest
              (conv => arg 2; whnf); refine wp_pcall hrd ?_
              (repeat ((conv => arg 2; whnf); first | refine wp_ite (fun _ => ?_) (fun h => Bool.noConfusion h) | refine wp_ite (fun h => Bool.noConfusion h) (fun _ => ?_)))
              (conv => arg 2; whnf); refine wp_ite (fun h4 => ?_) (fun h4 => ?_)
              · have h45 : c = 45 := of_decide_eq_true (k45 ▸ h4)
                (conv => arg 2; whnf); refine wp_ite (fun h5 => ?_) (fun h5 => ?_)
                · have hl1 : at_ + 1 < s.length := of_decide_eq_true (hlt1 ▸ h5)
                  obtain ⟨d, hd⟩ := hget1 hl1
                  (conv => arg 2; whnf); refine wp_need (hne1 hl1) ?_
                  (conv => arg 2; whnf); refine wp_pcallV (.cons (cByteAt hd w1 rfl) .nil) (hrd2 h45 hl1 d hd) ?_
                  (repeat ((conv => arg 2; whnf); first | refine wp_ite (fun _ => ?_) (fun h => Bool.noConfusion h) | refine wp_ite (fun h => Bool.noConfusion h) (fun _ => ?_)))
                  (conv => arg 2; whnf)
                  exact wp_cutR (frL [(0, str s), (1, i64V at_), (4, .loc b 0), (7, byteV c)]) [.obj b (wdL wd0)] (.cons (.refl _) (.cons (.refl _) (.cons (.refl _) (.cons (.refl _) (.nil _))))) (List.Sublist.refl _) rest
                · (repeat ((conv => arg 2; whnf); first | refine wp_ite (fun _ => ?_) (fun h => Bool.noConfusion h) | refine wp_ite (fun h => Bool.noConfusion h) (fun _ => ?_)))
                  (conv => arg 2; whnf)
                  exact wp_cutR (frL [(0, str s), (1, i64V at_), (4, .loc b 0), (7, byteV c)]) [.obj b (wdL wd0)] (.cons (.refl _) (.cons (.refl _) (.cons (.refl _) (.cons (.refl _) (.nil _))))) (List.Sublist.refl _) rest
              · (repeat ((conv => arg 2; whnf); first | refine wp_ite (fun _ => ?_) (fun h => Bool.noConfusion h) | refine wp_ite (fun h => Bool.noConfusion h) (fun _ => ?_)))
                (conv => arg 2; whnf)
                exact wp_cutR (frL [(0, str s), (1, i64V at_), (4, .loc b 0), (7, byteV c)]) [.obj b (wdL wd0)] (.cons (.refl _) (.cons (.refl _) (.cons (.refl _) (.cons (.refl _) (.nil _))))) (List.Sublist.refl _) rest
            case rest =>
              cases h34 : (c == 34) with
              | true =>
                rw [h34, if_pos rfl] at hnx
                rw [← hnx] at f4
                obtain ⟨w, n, e, hw⟩ := hret (nextR (s.drop at_))
                rw [hw] at f4
                (conv => arg 2; whnf); refine wp_ite (fun _ => ?_) (fun h => by rw [k34] at h; rw [beq_iff_eq] at h34; rw [h34] at h; cases h)
                (conv => arg 2; whnf); refine wp_pcall f4 ?_
                (conv => arg 2; whnf); refine wp_store' 0 rfl (Nat.le_of_ble_eq_true rfl) rfl ?_
                (conv => arg 2; whnf); refine w_ret3cE (cs := wdL w) b 0 0 rfl rfl rfl rfl rfl (.refl _) (.refl _) (.refl _) hw.symm
              | false =>
                rw [h34, if_neg (by decide)] at hnx
                (conv => arg 2; whnf); refine wp_ite (fun h => by rw [k34] at h; rw [of_decide_eq_true h] at h34; cases h34) (fun _ => ?_)
                (conv => arg 2; whnf); refine wp_cutR (frL [(0, str s), (1, i64V at_), (4, .loc b 0), (7, byteV c)]) _ (.cons (.refl _) (.cons (.refl _) (.cons (.refl _) (.cons (.refl _) (.nil _))))) (List.Sublist.refl _) ?_
                obtain ⟨two, htwo⟩ : ∃ two, two = (s.drop at_).take 2 := ⟨_, rfl⟩
                have hsg : signR (s.drop at_) = if two = [33, 61] then .ok ⟨5, [33, 61], 0, 2⟩ else if two = [60, 61] then .ok ⟨5, [60, 61], 0, 2⟩ else if decide (Lib.indexByte signsL c < 0) then .error 21 else .ok ⟨5, [c], 0, 1⟩ := by
                  rw [signR, prefix_two, prefix_two, ← htwo, drop_at hc]
                  simp only [decide_eq_true_eq]; rfl
                rw [hsg] at hnx
                clear hsg
                have hsl2 : at_ + 1 < s.length → (0 : Int) ≤ (at_ : Int) ∧ (at_ : Int) ≤ IntKind.i64.wrap ((at_ : Int) + 2) ∧ IntKind.i64.wrap ((at_ : Int) + 2) ≤ (S s).size := fun h => by rw [w2, S_size]; omega
                have hext : (S s).extract (Int.toNat (at_ : Int)) (Int.toNat (IntKind.i64.wrap ((at_ : Int) + 2))) = S two := by
                  rw [w2, S_extract, Int.toNat_natCast, Int.toNat_natCast, htwo, List.take_drop]
                have hshort : ¬ at_ + 1 < s.length → two ≠ [33, 61] ∧ two ≠ [60, 61] := fun h => by
                  have : two.length ≤ 1 := by rw [htwo, List.length_take, List.length_drop]; omega
                  constructor <;> (intro e; rw [e] at this; simp at this)
                have q1 : ((S two).toList == (S [33, 61]).toList) = decide (two = [33, 61]) := strEq _ _
                have q2 : ((S two).toList == (S [60, 61]).toList) = decide (two = [60, 61]) := strEq _ _
                by_cases hbig : at_ + 1 < s.length ∧ (two = [33, 61] ∨ two = [60, 61])
                · obtain ⟨hl1, hor⟩ := hbig
                  have hnx : nextR (s.drop at_) = .ok ⟨5, two, 0, 2⟩ := by
                    rw [hnx]
                    rcases hor with h | h
                    · rw [if_pos h, h]
                    · rw [if_neg (by rw [h]; decide), if_pos h, h]
                  apply wp_joinT
                  case h1 =>
                    intro rest
                    (conv => arg 2; whnf); refine wp_ite (fun _ => ?_) (fun h => by rw [hlt1, decide_eq_true hl1] at h; cases h)
                    (conv => arg 2; whnf); refine wp_need (hsl2 hl1) ?_
                    (conv => arg 2; whnf); refine wp_ite (fun h => ?_) (fun h => ?_)
                    · (repeat ((conv => arg 2; whnf); first | refine wp_ite (fun _ => ?_) (fun h => Bool.noConfusion h) | refine wp_ite (fun h => Bool.noConfusion h) (fun _ => ?_)))
                      (conv => arg 2; whnf)
                      exact wp_cutR (frL [(0, str s), (1, i64V at_), (4, .loc b 0)]) [.obj b (wdL wd0)] (.cons (.refl _) (.cons (.refl _) (.cons (.refl _) (.nil _)))) (List.Sublist.refl _) rest
                    · (conv => arg 2; whnf); refine wp_need (hsl2 hl1) ?_
                      (conv => arg 2; whnf); refine wp_ite (fun h' => ?_) (fun h' => ?_)
                      · (conv => arg 2; whnf)
                        exact wp_cutR (frL [(0, str s), (1, i64V at_), (4, .loc b 0)]) [.obj b (wdL wd0)] (.cons (.refl _) (.cons (.refl _) (.cons (.refl _) (.nil _)))) (List.Sublist.refl _) rest
                      · exfalso
                        rw [hext, show (⟨#[33, 61]⟩ : ByteArray) = S [33, 61] from rfl, q1] at h
                        rw [hext, show (⟨#[60, 61]⟩ : ByteArray) = S [60, 61] from rfl, q2] at h'
                        rcases hor with e | e
                        · exact of_decide_eq_false h e
                        · exact of_decide_eq_false h' e
                  case rest =>
                    (conv => arg 2; whnf); refine wp_need (hsl2 hl1) ?_
                    (conv => arg 2; whnf); refine wp_store' 0 rfl (Nat.le_of_ble_eq_true rfl) rfl ?_
                    (conv => arg 2; whnf); refine w_ret3cE (cs := wdL ((⟨5, two, 0, 2⟩ : Nx).wd 0)) b 0 0 rfl rfl rfl ?_ rfl (.refl _) (.refl _) (.refl _) (by rw [hnx]; rfl)
                    show some (Res.obj b [i64V 5, V.c (.string ((S s).extract (Int.toNat at_) (Int.toNat (IntKind.i64.wrap ((at_ : Int) + 2))))), i64V 0, i64V 0]) = _
                    rw [hext]; rfl
                · have hno : two ≠ [33, 61] ∧ two ≠ [60, 61] := by
                    by_cases hl1 : at_ + 1 < s.length
                    · exact ⟨fun e => hbig ⟨hl1, .inl e⟩, fun e => hbig ⟨hl1, .inr e⟩⟩
                    · exact hshort hl1
                  rw [if_neg hno.1, if_neg hno.2] at hnx
                  apply wp_joinT
                  case h1 =>
                    intro rest
                    (conv => arg 2; whnf); refine wp_ite (fun h => ?_) (fun h => ?_)
                    · have hl1 : at_ + 1 < s.length := of_decide_eq_true (hlt1 ▸ h)
                      (conv => arg 2; whnf); refine wp_need (hsl2 hl1) ?_
                      (conv => arg 2; whnf); refine wp_ite (fun h => ?_) (fun h => ?_)
                      · exfalso
                        rw [hext, show (⟨#[33, 61]⟩ : ByteArray) = S [33, 61] from rfl, q1] at h
                        exact hno.1 (of_decide_eq_true h)
                      · (conv => arg 2; whnf); refine wp_need (hsl2 hl1) ?_
                        (conv => arg 2; whnf); refine wp_ite (fun h => ?_) (fun h => ?_)
                        · exfalso
                          rw [hext, show (⟨#[60, 61]⟩ : ByteArray) = S [60, 61] from rfl, q2] at h
                          exact hno.2 (of_decide_eq_true h)
                        · (conv => arg 2; whnf)
                          exact wp_cutR (frL [(0, str s), (1, i64V at_), (4, .loc b 0), (7, byteV c)]) [.obj b (wdL wd0)] (.cons (.refl _) (.cons (.refl _) (.cons (.refl _) (.cons (.refl _) (.nil _))))) (List.Sublist.refl _) rest
                    · (repeat ((conv => arg 2; whnf); first | refine wp_ite (fun _ => ?_) (fun h => Bool.noConfusion h) | refine wp_ite (fun h => Bool.noConfusion h) (fun _ => ?_)))
                      (conv => arg 2; whnf)
                      exact wp_cutR (frL [(0, str s), (1, i64V at_), (4, .loc b 0), (7, byteV c)]) [.obj b (wdL wd0)] (.cons (.refl _) (.cons (.refl _) (.cons (.refl _) (.cons (.refl _) (.nil _))))) (List.Sublist.refl _) rest
                  case rest =>
                    (conv => arg 2; whnf); refine wp_loop (fun m fr R => ∃ i : Nat, m = 14 - i ∧ i ≤ 14 ∧ R = [.obj b (wdL wd0)] ∧ c ∉ signsL.take i ∧ fr = frL [(0, str s), (1, i64V at_), (4, .loc b 0), (7, byteV c), (9, str signsL), (10, i64V i)])
                      14 _ [.obj b (wdL wd0)] (.cons (.refl _) (.cons (.refl _) (.cons (.refl _) (.cons (.refl _) (.cons (.refl _) (.cons (.refl _) (.nil _))))))) (List.Sublist.refl _) ⟨0, rfl, Nat.zero_le _, rfl, by simp, rfl⟩ ?_
                    rintro m fr R ⟨i, rfl, hi, rfl, hni, rfl⟩
                    have hsl : signsL.length = 14 := rfl
                    (conv => arg 2; whnf); refine wp_ite (fun h => ?_) (fun h => ?_)
                    · have h : i < 14 := by have := of_decide_eq_true h; rw [S_size, hsl] at this; omega
                      obtain ⟨x, hx⟩ : ∃ x, signsL[i]? = some x := ⟨_, List.getElem?_eq_getElem (by rw [hsl]; exact h)⟩
                      have kq : (((byteAt (S signsL) (Int.toNat (i : Int))).toNat : Int) == (c.toNat : Int)) = decide (x = c) := by rw [Int.toNat_natCast, byte_at hx]; exact c_int_eq x c _ rfl
                      have hni2 : x ≠ c → c ∉ signsL.take (i + 1) := fun hxc hm => by
                        rw [List.take_add_one, hx] at hm
                        rcases List.mem_append.1 hm with hm | hm
                        · exact hni hm
                        · simp at hm; exact hxc hm.symm
                      (conv => arg 2; whnf); refine wp_need (by rw [S_size, hsl]; omega) ?_
                      (conv => arg 2; whnf); refine wp_ite (fun h1 => ?_) (fun h1 => ?_)
                      · rw [kq] at h1
                        have hin : c ∈ signsL := by rw [← of_decide_eq_true h1]; exact List.mem_of_getElem? hx
                        rw [if_neg (by simpa using indexByte_some c signsL hin)] at hnx
                        (conv => arg 2; whnf); refine wp_need (by rw [w1, S_size]; omega) ?_
                        (conv => arg 2; whnf); refine wp_store' 0 rfl (Nat.le_of_ble_eq_true rfl) rfl ?_
                        (conv => arg 2; whnf)
                        refine wp_leaf (loop_ret ?_)
                        (conv => arg 2; whnf); refine w_ret3cE (cs := wdL ((⟨5, [c], 0, 1⟩ : Nx).wd 0)) b 0 0 rfl rfl rfl ?_ rfl (.refl _) (.refl _) (.refl _) (by rw [hnx]; rfl)
                        show some (Res.obj b [i64V 5, V.c (.string ((S s).extract (Int.toNat at_) (Int.toNat (IntKind.i64.wrap ((at_ : Int) + 1))))), i64V 0, i64V 0]) = _
                        rw [sliceOne hc rfl w1]; rfl
                      · rw [kq] at h1
                        (conv => arg 2; whnf)
                        exact wp_leaf (loop_next (14 - (i + 1)) _ [.obj b (wdL wd0)] (by omega) (.cons (.refl _) (.cons (.refl _) (.cons (.refl _) (.cons (.refl _) (.cons (.refl _) (.cons (Vle.inc i rfl (by omega)) (.nil _))))))) (List.Sublist.refl _) ⟨i + 1, rfl, h, rfl, hni2 (of_decide_eq_false h1), rfl⟩)
                    · have h : i = 14 := by have := of_decide_eq_false h; rw [S_size, hsl] at this; omega
                      subst h
                      have hni : c ∉ signsL := hni
                      rw [if_pos (by simpa using indexByte_none c signsL hni)] at hnx
                      (conv => arg 2; whnf)
                      refine wp_leaf (loop_exit ?_)
                      (conv => arg 2; whnf); refine wp_store' 0 rfl (Nat.le_of_ble_eq_true rfl) rfl ?_
                      (conv => arg 2; whnf); refine w_ret3cE (cs := wdL wd0) b 0 0 rfl rfl rfl rfl rfl (.refl _) (.refl _) (.refl _) (by rw [hnx]; rfl)
end Go.Sv
