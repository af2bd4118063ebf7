/- Parts of the proof, one behind the other. -/
import Derived.Test.YtjmkgippihpkoaaGreatDoorMgRowPTells11
import Derived.Test.YtjmkgippihpkoaaGreatDoorMgRowPTells5
/- The reference's words: the next one. -/
namespace Go.Sv
open Go Go.Proofs

theorem kge (c : UInt8) (k : Nat) (m : Int) (h : m = k) : decide ((c.toNat : Int) ≥ m) = decide (k ≤ c.toNat) := by subst h; exact decide_eq_decide.2 (by omega)
theorem kle (c : UInt8) (k : Nat) (m : Int) (h : m = k) : decide ((c.toNat : Int) ≤ m) = decide (c.toNat ≤ k) := by subst h; exact decide_eq_decide.2 (by omega)

theorem indexByte_none (c : UInt8) : ∀ l : List UInt8, c ∉ l → Lib.indexByte l c < 0
  | [], _ => by rw [Lib.indexByte]; decide
  | b :: l, h => by
    have h1 : b ≠ c := fun e => h (by simp [e])
    have h2 := indexByte_none c l (fun hm => h (by simp [hm]))
    have h3 := Lib.indexByte_ge l c
    rw [Lib.indexByte, if_neg (by simpa using h1)]
    split
    · decide
    · rename_i h4; simp at h4; omega
theorem indexByte_some (c : UInt8) : ∀ l : List UInt8, c ∈ l → ¬ Lib.indexByte l c < 0
  | [], h => by cases h
  | b :: l, h => by
    have h3 := Lib.indexByte_ge l c
    rw [Lib.indexByte]
    split
    · decide
    · rename_i h1
      have h1 : b ≠ c := by simpa using h1
      have h2 := indexByte_some c l (by rcases List.mem_cons.1 h with e | e; exact absurd e.symm h1; exact e)
      split
      · rename_i h4; simp at h4; omega
      · omega
theorem prefix_two (a b : UInt8) (l : List UInt8) : [a, b].isPrefixOf l = decide (l.take 2 = [a, b]) := by
  rw [Bool.eq_iff_iff, decide_eq_true_eq, List.isPrefixOf_iff_prefix]
  constructor
  · rintro ⟨t, rfl⟩; rfl
  · intro h; rw [← h]; exact List.take_prefix _ _

set_option maxRecDepth 100000 in
set_option maxHeartbeats 2000000 in
theorem rword_call (s : List UInt8) (at_ : Nat) (hat : at_ < s.length) (hs : s.length < 2 ^ 40) : PCall Tryz.prog 61 [str s, i64V at_] (rnxV (nextR (s.drop at_))) := by
  obtain ⟨c, hc⟩ : ∃ c, s[at_]? = some c := ⟨_, List.getElem?_eq_getElem hat⟩
  have hnx := nextR_at hc
  have f3 := fun h => rnumber_call s at_ c hc h hs
  have f4 := rtext_call s at_ hat hs
  have hret : ∀ x : Except Nat Nx, ∃ (w : Wd) (n : V) (e : V), rnxV x = .tup [wdV w, n, e] := by
    intro x
    cases x with
    | ok x => exact ⟨_, _, _, rfl⟩
    | error e => exact ⟨_, _, _, rfl⟩
  refine scall_of (live := []) (ords := [(3, []), (6, []), (9, []), (12, []), (15, []), (17, []), (19, []), (20, []), (21, [])]) Tryz.func61 rfl (by kernel_rfl) (by kernel_rfl) (Nat.le_of_ble_eq_true rfl) ?_
  (conv => arg 2; whnf); refine wp_allocE (wdL wd0) rfl fun b => ?_
  (conv => arg 2; whnf); refine wp_need (by rw [S_size]; omega) ?_
  (conv => arg 2; whnf); refine wp_cutR (frL [(0, str s), (1, i64V at_), (4, .loc b 0), (7, byteV c), (8, i64V 1)]) _ (.cons (.refl _) (.cons (.refl _) (.cons (.refl _) (.cons (cByteAt hc rfl rfl) (.cons (.refl _) (.nil _)))))) (List.Sublist.refl _) ?_
  have hsmv : isSm c = (decide (97 ≤ c.toNat) && decide (c.toNat ≤ 122)) := rfl
  have hgrv : isGr c = (decide (65 ≤ c.toNat) && decide (c.toNat ≤ 90)) := rfl
  cases hsm : isSm c with
  | true =>
    rw [hsm, if_pos rfl] at hnx
    have hcd : 97 ≤ c.toNat ∧ c.toNat ≤ 122 := by simpa [isSm] using hsm
    (conv => arg 2; whnf); refine wp_ite (fun _ => ?_) (fun h => by have := of_decide_eq_false h; omega)
    (conv => arg 2; whnf); refine wp_ite (fun _ => ?_) (fun h => by have := of_decide_eq_false h; omega)
    have hK0 := spanN_le isSm (s.drop at_)
    rw [List.length_drop] at hK0
    obtain ⟨K, hK⟩ : ∃ K, K = spanN isSm (s.drop at_) := ⟨_, rfl⟩
    have hK1 : spanN isSm (s.drop at_) = 1 + spanN isSm (s.drop (at_ + 1)) := by rw [drop_at hc, spanN_cons hsm, Nat.add_comm]
    have hres : letR 1 isSm (s.drop at_) = if 8 < K then .error 12 else .ok ⟨1, (s.drop at_).take K, 0, K⟩ := by rw [letR, ← hK]
    rw [hres] at hnx
    rw [← hK] at hK0
    clear hres
    (conv => arg 2; whnf); refine wp_loop (fun m fr R => ∃ n : Nat, m = s.length - n ∧ 1 ≤ n ∧ at_ + n ≤ s.length ∧ R = [.obj b (wdL wd0)] ∧ spanN isSm (s.drop at_) = n + spanN isSm (s.drop (at_ + n)) ∧ fr = frL [(0, str s), (1, i64V at_), (4, .loc b 0), (8, i64V n)])
      (s.length - 1) _ [.obj b (wdL wd0)] (.cons (.refl _) (.cons (.refl _) (.cons (.refl _) (.cons (.refl _) (.nil _))))) (List.Sublist.refl _) ⟨1, rfl, Nat.le_refl _, hat, rfl, hK1, rfl⟩ ?_
    rintro m fr R ⟨n, rfl, hn1, hn, rfl, hsp, rfl⟩
    have w1 : IntKind.i64.wrap ((at_ : Int) + n) = ((at_ + n : Nat) : Int) := wadd (by omega) (by omega) (by omega)
    by_cases hz : spanN isSm (s.drop (at_ + n)) = 0
    · have hnK : n = K := by omega
      have hx : decide (IntKind.i64.wrap ((at_ : Int) + n) < ((S s).size : Int)) = true → ∃ c', s[at_ + n]? = some c' ∧ isSm c' = false := fun h => by
        rw [w1] at h
        have := of_decide_eq_true h
        rw [S_size] at this
        obtain ⟨c', hc'⟩ : ∃ c', s[at_ + n]? = some c' := ⟨_, List.getElem?_eq_getElem (by omega)⟩
        refine ⟨c', hc', ?_⟩
        cases e : isSm c' with
        | false => rfl
        | true => rw [drop_at hc', spanN_cons e] at hz; cases hz
      have hne : decide (IntKind.i64.wrap ((at_ : Int) + n) < ((S s).size : Int)) = true → (0 : Int) ≤ IntKind.i64.wrap ((at_ : Int) + n) ∧ IntKind.i64.wrap ((at_ : Int) + n) < (S s).size := fun h => by
        have := of_decide_eq_true h
        rw [w1] at this ⊢
        omega
      have hpb : ∀ c', isSm c' = false → decide ((c'.toNat : Int) ≥ 97) = true → decide ((c'.toNat : Int) ≤ 122) = true → False := fun c' h h1 h2 => by
        have h1 := of_decide_eq_true h1
        have h2 := of_decide_eq_true h2
        have : isSm c' = true := by rw [isSm, decide_eq_true (by omega), decide_eq_true (by omega)]; rfl
        rw [h] at this; cases this
      have hpb' : ∀ h : decide (IntKind.i64.wrap ((at_ : Int) + n) < ((S s).size : Int)) = true, decide (((byteAt (S s) (Int.toNat (IntKind.i64.wrap ((at_ : Int) + n)))).toNat : Int) ≥ 97) = true → decide (((byteAt (S s) (Int.toNat (IntKind.i64.wrap ((at_ : Int) + n)))).toNat : Int) ≤ 122) = true → False := fun h h1 h2 => by
        obtain ⟨c', hc', hp⟩ := hx h
        rw [w1, Int.toNat_natCast, byte_at hc'] at h1 h2
        exact hpb c' hp h1 h2
      apply wp_joinT
      case h1 =>
        intro rest
        (conv => arg 2; whnf); refine wp_ite (fun h => ?yes) (fun h => ?no)
        case no =>
          (repeat ((conv => arg 2; whnf); first | refine wp_ite (fun _ => ?_) (fun h => Bool.noConfusion h) | refine wp_ite (fun h => Bool.noConfusion h) (fun _ => ?_)))
          (conv => arg 2; whnf)
          refine wp_leaf (loop_exit ?_)
          (conv => arg 2; whnf)
          exact wp_cutR (frL [(0, str s), (1, i64V at_), (4, .loc b 0), (8, i64V K)]) [.obj b (wdL wd0)] (.cons (.refl _) (.cons (.refl _) (.cons (.refl _) (.cons (Vle.of (i64V n) rfl (congrArg (fun z : Nat => i64V z) hnK)) (.nil _))))) (List.Sublist.refl _) rest
        case yes =>
          (conv => arg 2; whnf); refine wp_need (hne h) ?_
          (conv => arg 2; whnf); refine wp_ite (fun h1 => ?yes) (fun h1 => ?no)
          case no =>
            (repeat ((conv => arg 2; whnf); first | refine wp_ite (fun _ => ?_) (fun h => Bool.noConfusion h) | refine wp_ite (fun h => Bool.noConfusion h) (fun _ => ?_)))
            (conv => arg 2; whnf)
            refine wp_leaf (loop_exit ?_)
            (conv => arg 2; whnf)
            exact wp_cutR (frL [(0, str s), (1, i64V at_), (4, .loc b 0), (8, i64V K)]) [.obj b (wdL wd0)] (.cons (.refl _) (.cons (.refl _) (.cons (.refl _) (.cons (Vle.of (i64V n) rfl (congrArg (fun z : Nat => i64V z) hnK)) (.nil _))))) (List.Sublist.refl _) rest
          case yes =>
            (conv => arg 2; whnf); refine wp_need (hne h) ?_
            (conv => arg 2; whnf); refine wp_ite (fun h2 => (hpb' h h1 h2).elim) (fun h2 => ?_)
            (conv => arg 2; whnf)
            refine wp_leaf (loop_exit ?_)
            (conv => arg 2; whnf)
            exact wp_cutR (frL [(0, str s), (1, i64V at_), (4, .loc b 0), (8, i64V K)]) [.obj b (wdL wd0)] (.cons (.refl _) (.cons (.refl _) (.cons (.refl _) (.cons (Vle.of (i64V n) rfl (congrArg (fun z : Nat => i64V z) hnK)) (.nil _))))) (List.Sublist.refl _) rest
      case rest =>
        by_cases h8 : 8 < K
        · rw [if_pos h8] at hnx
          (conv => arg 2; whnf); refine wp_ite (fun _ => ?_) (fun h => by have := of_decide_eq_false h; omega)
          (conv => arg 2; whnf); refine wp_store' 0 rfl (Nat.le_of_ble_eq_true rfl) rfl ?_
          (conv => arg 2; whnf); refine w_ret3cE (cs := wdL wd0) b 0 0 rfl rfl rfl rfl rfl (.refl _) (.refl _) (.refl _) (by rw [hnx]; rfl)
        · rw [if_neg h8] at hnx
          have w2 : IntKind.i64.wrap ((at_ : Int) + K) = ((at_ + K : Nat) : Int) := wadd (by omega) (by omega) (by omega)
          (conv => arg 2; whnf); refine wp_ite (fun h => by have := of_decide_eq_true h; omega) (fun _ => ?_)
          (conv => arg 2; whnf); refine wp_need (by rw [w2, S_size]; omega) ?_
          (conv => arg 2; whnf); refine wp_store' 0 rfl (Nat.le_of_ble_eq_true rfl) rfl ?_
          (conv => arg 2; whnf); refine w_ret3cE (cs := wdL ((⟨1, (s.drop at_).take K, 0, K⟩ : Nx).wd 0)) b 0 0 rfl rfl rfl ?_ rfl (.refl _) (.refl _) (.refl _) (by rw [hnx]; rfl)
          show some (Res.obj b [i64V 1, V.c (.string ((S s).extract (Int.toNat at_) (Int.toNat (IntKind.i64.wrap ((at_ : Int) + K))))), i64V 0, i64V 0]) = _
          rw [w2, S_extract, Int.toNat_natCast, Int.toNat_natCast, List.take_drop]; rfl
    · obtain ⟨c', hc'⟩ : ∃ c', s[at_ + n]? = some c' := by
        have : at_ + n < s.length := by
          rcases Nat.lt_or_ge (at_ + n) s.length with h | h
          · exact h
          · exact absurd (by rw [List.drop_eq_nil_of_le h]; rfl) hz
        exact ⟨_, List.getElem?_eq_getElem this⟩
      have hlen := (List.getElem?_eq_some_iff.1 hc').1
      have hpc : isSm c' = true := by
        cases e : isSm c' with
        | true => rfl
        | false => exact absurd (by rw [drop_at hc', spanN_stop e]) hz
      have hcd : 97 ≤ c'.toNat ∧ c'.toNat ≤ 122 := by simpa [isSm] using hpc
      have hbb : byteAt (S s) (Int.toNat (IntKind.i64.wrap ((at_ : Int) + n))) = c' := by rw [w1]; exact byte_at hc'
      have hne : (0 : Int) ≤ IntKind.i64.wrap ((at_ : Int) + n) ∧ IntKind.i64.wrap ((at_ : Int) + n) < (S s).size := by rw [w1, S_size]; omega
      have hspc : spanN isSm (s.drop (at_ + n)) = 1 + spanN isSm (s.drop (at_ + (n + 1))) := by rw [drop_at hc', spanN_cons hpc, Nat.add_comm]; rfl
      (conv => arg 2; whnf); refine wp_ite (fun _ => ?_) (fun h => by rw [w1] at h; have := of_decide_eq_false h; rw [S_size] at this; omega)
      (conv => arg 2; whnf); refine wp_need hne ?_
      (conv => arg 2; whnf); refine wp_ite (fun _ => ?_) (fun h => by rw [hbb] at h; have := of_decide_eq_false h; omega)
      (conv => arg 2; whnf); refine wp_need hne ?_
      (conv => arg 2; whnf); refine wp_ite (fun _ => ?_) (fun h => by rw [hbb] at h; have := of_decide_eq_false h; omega)
      (conv => arg 2; whnf)
      exact wp_leaf (loop_next (s.length - (n + 1)) _ [.obj b (wdL wd0)] (by omega) (.cons (.refl _) (.cons (.refl _) (.cons (.refl _) (.cons (Vle.inc n rfl (by omega)) (.nil _))))) (List.Sublist.refl _) ⟨n + 1, rfl, by omega, by omega, rfl, by omega, rfl⟩)
  | false =>
    rw [hsm, if_neg (by decide)] at hnx
    have hcd : ¬ (97 ≤ c.toNat ∧ c.toNat ≤ 122) := by simpa [isSm] using hsm
    have hno97 : decide ((c.toNat : Int) ≥ 97) = true → decide ((c.toNat : Int) ≤ 122) = true → False := fun h h' => hcd ⟨by have := of_decide_eq_true h; omega, by have := of_decide_eq_true h'; omega⟩
    apply wp_joinT
    case h1 =>
      intro rest
      (conv => arg 2; whnf); refine wp_ite (fun h => ?_) (fun h => ?_)
      · (conv => arg 2; whnf); refine wp_ite (fun h' => (hno97 h h').elim) (fun h' => ?_)
        (conv => arg 2; whnf)
        exact wp_cutR (frL [(0, str s), (1, i64V at_), (4, .loc b 0), (7, byteV c), (8, i64V 1)]) _ (.cons (.refl _) (.cons (.refl _) (.cons (.refl _) (.cons (.refl _) (.cons (.refl _) (.nil _)))))) (List.Sublist.refl _) rest
      · (repeat ((conv => arg 2; whnf); first | refine wp_ite (fun _ => ?_) (fun h => Bool.noConfusion h) | refine wp_ite (fun h => Bool.noConfusion h) (fun _ => ?_)))
        (conv => arg 2; whnf)
        exact wp_cutR (frL [(0, str s), (1, i64V at_), (4, .loc b 0), (7, byteV c), (8, i64V 1)]) _ (.cons (.refl _) (.cons (.refl _) (.cons (.refl _) (.cons (.refl _) (.cons (.refl _) (.nil _)))))) (List.Sublist.refl _) rest
    case rest =>
      cases hgr : isGr c with
      | true =>
        rw [hgr, if_pos rfl] at hnx
        have hsm := hgr
        have hcd : 65 ≤ c.toNat ∧ c.toNat ≤ 90 := by simpa [isGr] using hgr
        (conv => arg 2; whnf); refine wp_ite (fun _ => ?_) (fun h => by have := of_decide_eq_false h; omega)
        (conv => arg 2; whnf); refine wp_ite (fun _ => ?_) (fun h => by have := of_decide_eq_false h; omega)
        have hK0 := spanN_le isGr (s.drop at_)
        rw [List.length_drop] at hK0
        obtain ⟨K, hK⟩ : ∃ K, K = spanN isGr (s.drop at_) := ⟨_, rfl⟩
        have hK1 : spanN isGr (s.drop at_) = 1 + spanN isGr (s.drop (at_ + 1)) := by rw [drop_at hc, spanN_cons hsm, Nat.add_comm]
        have hres : letR 4 isGr (s.drop at_) = if 8 < K then .error 12 else .ok ⟨4, (s.drop at_).take K, 0, K⟩ := by rw [letR, ← hK]
        rw [hres] at hnx
        rw [← hK] at hK0
        clear hres
        (conv => arg 2; whnf); refine wp_loop (fun m fr R => ∃ n : Nat, m = s.length - n ∧ 1 ≤ n ∧ at_ + n ≤ s.length ∧ R = [.obj b (wdL wd0)] ∧ spanN isGr (s.drop at_) = n + spanN isGr (s.drop (at_ + n)) ∧ fr = frL [(0, str s), (1, i64V at_), (4, .loc b 0), (8, i64V n)])
          (s.length - 1) _ [.obj b (wdL wd0)] (.cons (.refl _) (.cons (.refl _) (.cons (.refl _) (.cons (.refl _) (.nil _))))) (List.Sublist.refl _) ⟨1, rfl, Nat.le_refl _, hat, rfl, hK1, rfl⟩ ?_
        rintro m fr R ⟨n, rfl, hn1, hn, rfl, hsp, rfl⟩
        have w1 : IntKind.i64.wrap ((at_ : Int) + n) = ((at_ + n : Nat) : Int) := wadd (by omega) (by omega) (by omega)
        by_cases hz : spanN isGr (s.drop (at_ + n)) = 0
        · have hnK : n = K := by omega
          have hx : decide (IntKind.i64.wrap ((at_ : Int) + n) < ((S s).size : Int)) = true → ∃ c', s[at_ + n]? = some c' ∧ isGr c' = false := fun h => by
            rw [w1] at h
            have := of_decide_eq_true h
            rw [S_size] at this
            obtain ⟨c', hc'⟩ : ∃ c', s[at_ + n]? = some c' := ⟨_, List.getElem?_eq_getElem (by omega)⟩
            refine ⟨c', hc', ?_⟩
            cases e : isGr c' with
            | false => rfl
            | true => rw [drop_at hc', spanN_cons e] at hz; cases hz
          have hne : decide (IntKind.i64.wrap ((at_ : Int) + n) < ((S s).size : Int)) = true → (0 : Int) ≤ IntKind.i64.wrap ((at_ : Int) + n) ∧ IntKind.i64.wrap ((at_ : Int) + n) < (S s).size := fun h => by
            have := of_decide_eq_true h
            rw [w1] at this ⊢
            omega
          have hpb : ∀ c', isGr c' = false → decide ((c'.toNat : Int) ≥ 65) = true → decide ((c'.toNat : Int) ≤ 90) = true → False := fun c' h h1 h2 => by
            have h1 := of_decide_eq_true h1
            have h2 := of_decide_eq_true h2
            have : isGr c' = true := by rw [isGr, decide_eq_true (by omega), decide_eq_true (by omega)]; rfl
            rw [h] at this; cases this
          have hpb' : ∀ h : decide (IntKind.i64.wrap ((at_ : Int) + n) < ((S s).size : Int)) = true, decide (((byteAt (S s) (Int.toNat (IntKind.i64.wrap ((at_ : Int) + n)))).toNat : Int) ≥ 65) = true → decide (((byteAt (S s) (Int.toNat (IntKind.i64.wrap ((at_ : Int) + n)))).toNat : Int) ≤ 90) = true → False := fun h h1 h2 => by
            obtain ⟨c', hc', hp⟩ := hx h
            rw [w1, Int.toNat_natCast, byte_at hc'] at h1 h2
            exact hpb c' hp h1 h2
          apply wp_joinT
          case h1 =>
            intro rest
            (conv => arg 2; whnf); refine wp_ite (fun h => ?yes) (fun h => ?no)
            case no =>
              (repeat ((conv => arg 2; whnf); first | refine wp_ite (fun _ => ?_) (fun h => Bool.noConfusion h) | refine wp_ite (fun h => Bool.noConfusion h) (fun _ => ?_)))
              (conv => arg 2; whnf)
              refine wp_leaf (loop_exit ?_)
              (conv => arg 2; whnf)
              exact wp_cutR (frL [(0, str s), (1, i64V at_), (4, .loc b 0), (8, i64V K)]) [.obj b (wdL wd0)] (.cons (.refl _) (.cons (.refl _) (.cons (.refl _) (.cons (Vle.of (i64V n) rfl (congrArg (fun z : Nat => i64V z) hnK)) (.nil _))))) (List.Sublist.refl _) rest
            case yes =>
              (conv => arg 2; whnf); refine wp_need (hne h) ?_
              (conv => arg 2; whnf); refine wp_ite (fun h1 => ?yes) (fun h1 => ?no)
              case no =>
                (repeat ((conv => arg 2; whnf); first | refine wp_ite (fun _ => ?_) (fun h => Bool.noConfusion h) | refine wp_ite (fun h => Bool.noConfusion h) (fun _ => ?_)))
                (conv => arg 2; whnf)
                refine wp_leaf (loop_exit ?_)
                (conv => arg 2; whnf)
                exact wp_cutR (frL [(0, str s), (1, i64V at_), (4, .loc b 0), (8, i64V K)]) [.obj b (wdL wd0)] (.cons (.refl _) (.cons (.refl _) (.cons (.refl _) (.cons (Vle.of (i64V n) rfl (congrArg (fun z : Nat => i64V z) hnK)) (.nil _))))) (List.Sublist.refl _) rest
              case yes =>
                (conv => arg 2; whnf); refine wp_need (hne h) ?_
                (conv => arg 2; whnf); refine wp_ite (fun h2 => (hpb' h h1 h2).elim) (fun h2 => ?_)
                (conv => arg 2; whnf)
                refine wp_leaf (loop_exit ?_)
                (conv => arg 2; whnf)
                exact wp_cutR (frL [(0, str s), (1, i64V at_), (4, .loc b 0), (8, i64V K)]) [.obj b (wdL wd0)] (.cons (.refl _) (.cons (.refl _) (.cons (.refl _) (.cons (Vle.of (i64V n) rfl (congrArg (fun z : Nat => i64V z) hnK)) (.nil _))))) (List.Sublist.refl _) rest
          case rest =>
            by_cases h8 : 8 < K
            · rw [if_pos h8] at hnx
              (conv => arg 2; whnf); refine wp_ite (fun _ => ?_) (fun h => by have := of_decide_eq_false h; omega)
              (conv => arg 2; whnf); refine wp_store' 0 rfl (Nat.le_of_ble_eq_true rfl) rfl ?_
              (conv => arg 2; whnf); refine w_ret3cE (cs := wdL wd0) b 0 0 rfl rfl rfl rfl rfl (.refl _) (.refl _) (.refl _) (by rw [hnx]; rfl)
            · rw [if_neg h8] at hnx
              have w2 : IntKind.i64.wrap ((at_ : Int) + K) = ((at_ + K : Nat) : Int) := wadd (by omega) (by omega) (by omega)
              (conv => arg 2; whnf); refine wp_ite (fun h => by have := of_decide_eq_true h; omega) (fun _ => ?_)
              (conv => arg 2; whnf); refine wp_need (by rw [w2, S_size]; omega) ?_
              (conv => arg 2; whnf); refine wp_store' 0 rfl (Nat.le_of_ble_eq_true rfl) rfl ?_
              (conv => arg 2; whnf); refine w_ret3cE (cs := wdL ((⟨4, (s.drop at_).take K, 0, K⟩ : Nx).wd 0)) b 0 0 rfl rfl rfl ?_ rfl (.refl _) (.refl _) (.refl _) (by rw [hnx]; rfl)
              show some (Res.obj b [i64V 4, V.c (.string ((S s).extract (Int.toNat at_) (Int.toNat (IntKind.i64.wrap ((at_ : Int) + K))))), i64V 0, i64V 0]) = _
              rw [w2, S_extract, Int.toNat_natCast, Int.toNat_natCast, List.take_drop]; rfl
        · obtain ⟨c', hc'⟩ : ∃ c', s[at_ + n]? = some c' := by
            have : at_ + n < s.length := by
              rcases Nat.lt_or_ge (at_ + n) s.length with h | h
              · exact h
              · exact absurd (by rw [List.drop_eq_nil_of_le h]; rfl) hz
            exact ⟨_, List.getElem?_eq_getElem this⟩
          have hlen := (List.getElem?_eq_some_iff.1 hc').1
          have hpc : isGr c' = true := by
            cases e : isGr c' with
            | true => rfl
            | false => exact absurd (by rw [drop_at hc', spanN_stop e]) hz
          have hcd : 65 ≤ c'.toNat ∧ c'.toNat ≤ 90 := by simpa [isGr] using hpc
          have hbb : byteAt (S s) (Int.toNat (IntKind.i64.wrap ((at_ : Int) + n))) = c' := by rw [w1]; exact byte_at hc'
          have hne : (0 : Int) ≤ IntKind.i64.wrap ((at_ : Int) + n) ∧ IntKind.i64.wrap ((at_ : Int) + n) < (S s).size := by rw [w1, S_size]; omega
          have hspc : spanN isGr (s.drop (at_ + n)) = 1 + spanN isGr (s.drop (at_ + (n + 1))) := by rw [drop_at hc', spanN_cons hpc, Nat.add_comm]; rfl
          (conv => arg 2; whnf); refine wp_ite (fun _ => ?_) (fun h => by rw [w1] at h; have := of_decide_eq_false h; rw [S_size] at this; omega)
          (conv => arg 2; whnf); refine wp_need hne ?_
          (conv => arg 2; whnf); refine wp_ite (fun _ => ?_) (fun h => by rw [hbb] at h; have := of_decide_eq_false h; omega)
          (conv => arg 2; whnf); refine wp_need hne ?_
          (conv => arg 2; whnf); refine wp_ite (fun _ => ?_) (fun h => by rw [hbb] at h; have := of_decide_eq_false h; omega)
          (conv => arg 2; whnf)
          exact wp_leaf (loop_next (s.length - (n + 1)) _ [.obj b (wdL wd0)] (by omega) (.cons (.refl _) (.cons (.refl _) (.cons (.refl _) (.cons (Vle.inc n rfl (by omega)) (.nil _))))) (List.Sublist.refl _) ⟨n + 1, rfl, by omega, by omega, rfl, by omega, rfl⟩)
      | false =>
        rw [hgr, if_neg (by decide)] at hnx
        have hcd : ¬ (65 ≤ c.toNat ∧ c.toNat ≤ 90) := by simpa [isGr] using hgr
        have hno65 : decide ((c.toNat : Int) ≥ 65) = true → decide ((c.toNat : Int) ≤ 90) = true → False := fun h h' => hcd ⟨by have := of_decide_eq_true h; omega, by have := of_decide_eq_true h'; omega⟩
        apply wp_joinT
        case h1 =>
          intro rest
          (conv => arg 2; whnf); refine wp_ite (fun h => ?_) (fun h => ?_)
          · (conv => arg 2; whnf); refine wp_ite (fun h' => (hno65 h h').elim) (fun h' => ?_)
            (conv => arg 2; whnf)
            exact wp_cutR (frL [(0, str s), (1, i64V at_), (4, .loc b 0), (7, byteV c), (8, i64V 1)]) _ (.cons (.refl _) (.cons (.refl _) (.cons (.refl _) (.cons (.refl _) (.cons (.refl _) (.nil _)))))) (List.Sublist.refl _) rest
          · (repeat ((conv => arg 2; whnf); first | refine wp_ite (fun _ => ?_) (fun h => Bool.noConfusion h) | refine wp_ite (fun h => Bool.noConfusion h) (fun _ => ?_)))
            (conv => arg 2; whnf)
            exact wp_cutR (frL [(0, str s), (1, i64V at_), (4, .loc b 0), (7, byteV c), (8, i64V 1)]) _ (.cons (.refl _) (.cons (.refl _) (.cons (.refl _) (.cons (.refl _) (.cons (.refl _) (.nil _)))))) (List.Sublist.refl _) rest
        case rest =>
          have w1 : IntKind.i64.wrap ((at_ : Int) + 1) = ((at_ + 1 : Nat) : Int) := wadd (by omega) (by omega) (by omega)
          have w2 : IntKind.i64.wrap ((at_ : Int) + 2) = ((at_ + 2 : Nat) : Int) := wadd (by omega) (by omega) (by omega)
          have k45 := c_int_eq c 45 45 rfl
          have k34 := c_int_eq c 34 34 rfl
          have hlt1 : decide (IntKind.i64.wrap ((at_ : Int) + 1) < ((S s).size : Int)) = decide (at_ + 1 < s.length) := by rw [w1, S_size]; exact decide_eq_decide.2 (by omega)
          have hne1 : at_ + 1 < s.length → (0 : Int) ≤ IntKind.i64.wrap ((at_ : Int) + 1) ∧ IntKind.i64.wrap ((at_ : Int) + 1) < (S s).size := fun h => by rw [w1, S_size]; omega
          have hdrop : ∀ d, s[at_ + 1]? = some d → (s.drop (at_ + 1)).headD 0 = d := fun d hd => by rw [drop_at hd]; rfl
          have hget1 : at_ + 1 < s.length → ∃ d, s[at_ + 1]? = some d := fun h => ⟨_, List.getElem?_eq_getElem h⟩
          cases hqv : (isDg c || (c == 45 && decide (at_ + 1 < s.length) && isDg ((s.drop (at_ + 1)).headD 0))) with
          | true =>
            rw [hqv, if_pos rfl] at hnx
            obtain ⟨w, n, e, hw⟩ := hret (nextR (s.drop at_))
            replace f3 : ∀ h, PCall Tryz.prog 83 [str s, i64V at_] (.tup [wdV w, n, e]) := fun h => by have := f3 h; rw [← hnx, hw] at this; exact this
            cases hdg : isDg c with
            | true =>
              have hrd := rdigit_call c
              rw [hdg] at hrd
              (conv => arg 2; whnf); refine wp_pcall hrd ?_
              (repeat ((conv => arg 2; whnf); first | refine wp_ite (fun _ => ?_) (fun h => Bool.noConfusion h) | refine wp_ite (fun h => Bool.noConfusion h) (fun _ => ?_)))
              (conv => arg 2; whnf); refine wp_pcall (f3 (.inl hdg)) ?_
              (conv => arg 2; whnf); refine wp_store' 0 rfl (Nat.le_of_ble_eq_true rfl) rfl ?_
              (conv => arg 2; whnf); refine w_ret3cE (cs := wdL w) b 0 0 rfl rfl rfl rfl rfl (.refl _) (.refl _) (.refl _) hw.symm
            | false =>
              rw [hdg, Bool.false_or, Bool.and_eq_true, Bool.and_eq_true, beq_iff_eq, decide_eq_true_eq] at hqv
              obtain ⟨⟨h45, hl1⟩, hdd⟩ := hqv
              obtain ⟨d, hd⟩ := hget1 hl1
              have f3 := f3 (.inr ⟨h45, hl1, hdd⟩)
              rw [hdrop d hd] at hdd
              have hrd := rdigit_call c
              rw [hdg] at hrd
              have hrd2 := rdigit_call d
              rw [hdd] at hrd2
              (conv => arg 2; whnf); refine wp_pcall hrd ?_
              (repeat ((conv => arg 2; whnf); first | refine wp_ite (fun _ => ?_) (fun h => Bool.noConfusion h) | refine wp_ite (fun h => Bool.noConfusion h) (fun _ => ?_)))
              (conv => arg 2; whnf); refine wp_ite (fun _ => ?_) (fun h => by rw [k45, h45] at h; cases h)
              (conv => arg 2; whnf); refine wp_ite (fun _ => ?_) (fun h => by rw [hlt1, decide_eq_true hl1] at h; cases h)
              (conv => arg 2; whnf); refine wp_need (hne1 hl1) ?_
              (conv => arg 2; whnf); refine wp_pcallV (.cons (cByteAt hd w1 rfl) .nil) hrd2 ?_
              (repeat ((conv => arg 2; whnf); first | refine wp_ite (fun _ => ?_) (fun h => Bool.noConfusion h) | refine wp_ite (fun h => Bool.noConfusion h) (fun _ => ?_)))
              (conv => arg 2; whnf); refine wp_pcall f3 ?_
              (conv => arg 2; whnf); refine wp_store' 0 rfl (Nat.le_of_ble_eq_true rfl) rfl ?_
              (conv => arg 2; whnf); refine w_ret3cE (cs := wdL w) b 0 0 rfl rfl rfl rfl rfl (.refl _) (.refl _) (.refl _) hw.symm
          | false =>
            rw [hqv, if_neg (by decide)] at hnx
            rw [Bool.or_eq_false_iff] at hqv
            obtain ⟨hdg, hqv⟩ := hqv
            have hrd := rdigit_call c
            rw [hdg] at hrd
            have hdd : c = 45 → ∀ hl1 : at_ + 1 < s.length, ∀ d, s[at_ + 1]? = some d → isDg d = false := fun h hl1 d hd => by
              rw [h, decide_eq_true hl1, hdrop d hd] at hqv
              simpa using hqv
            have hrd2 : c = 45 → ∀ hl1 : at_ + 1 < s.length, ∀ d, s[at_ + 1]? = some d → PCall Tryz.prog 65 [byteV d] (bV false) := fun h hl1 d hd => by
              have := rdigit_call d
              rw [hdd h hl1 d hd] at this; exact this
            apply wp_joinT
            case h1 =>
              intro rest
              (conv => arg 2; whnf); refine wp_pcall hrd ?_
              (repeat ((conv => arg 2; whnf); first | refine wp_ite (fun _ => ?_) (fun h => Bool.noConfusion h) | refine wp_ite (fun h => Bool.noConfusion h) (fun _ => ?_)))
              (conv => arg 2; whnf); refine wp_ite (fun h4 => ?_) (fun h4 => ?_)
              · have h45 : c = 45 := of_decide_eq_true (k45 ▸ h4)
                (conv => arg 2; whnf); refine wp_ite (fun h5 => ?_) (fun h5 => ?_)
                · have hl1 : at_ + 1 < s.length := of_decide_eq_true (hlt1 ▸ h5)
                  obtain ⟨d, hd⟩ := hget1 hl1
                  (conv => arg 2; whnf); refine wp_need (hne1 hl1) ?_
                  (conv => arg 2; whnf); refine wp_pcallV (.cons (cByteAt hd w1 rfl) .nil) (hrd2 h45 hl1 d hd) ?_
                  (repeat ((conv => arg 2; whnf); first | refine wp_ite (fun _ => ?_) (fun h => Bool.noConfusion h) | refine wp_ite (fun h => Bool.noConfusion h) (fun _ => ?_)))
                  (conv => arg 2; whnf)
                  exact wp_cutR (frL [(0, str s), (1, i64V at_), (4, .loc b 0), (7, byteV c)]) [.obj b (wdL wd0)] (.cons (.refl _) (.cons (.refl _) (.cons (.refl _) (.cons (.refl _) (.nil _))))) (List.Sublist.refl _) rest
                · (repeat ((conv => arg 2; whnf); first | refine wp_ite (fun _ => ?_) (fun h => Bool.noConfusion h) | refine wp_ite (fun h => Bool.noConfusion h) (fun _ => ?_)))
                  (conv => arg 2; whnf)
                  exact wp_cutR (frL [(0, str s), (1, i64V at_), (4, .loc b 0), (7, byteV c)]) [.obj b (wdL wd0)] (.cons (.refl _) (.cons (.refl _) (.cons (.refl _) (.cons (.refl _) (.nil _))))) (List.Sublist.refl _) rest
              · (repeat ((conv => arg 2; whnf); first | refine wp_ite (fun _ => ?_) (fun h => Bool.noConfusion h) | refine wp_ite (fun h => Bool.noConfusion h) (fun _ => ?_)))
                (conv => arg 2; whnf)
                exact wp_cutR (frL [(0, str s), (1, i64V at_), (4, .loc b 0), (7, byteV c)]) [.obj b (wdL wd0)] (.cons (.refl _) (.cons (.refl _) (.cons (.refl _) (.cons (.refl _) (.nil _))))) (List.Sublist.refl _) rest
            case rest =>
              cases h34 : (c == 34) with
              | true =>
                rw [h34, if_pos rfl] at hnx
                rw [← hnx] at f4
                obtain ⟨w, n, e, hw⟩ := hret (nextR (s.drop at_))
                rw [hw] at f4
                (conv => arg 2; whnf); refine wp_ite (fun _ => ?_) (fun h => by rw [k34] at h; rw [beq_iff_eq] at h34; rw [h34] at h; cases h)
                (conv => arg 2; whnf); refine wp_pcall f4 ?_
                (conv => arg 2; whnf); refine wp_store' 0 rfl (Nat.le_of_ble_eq_true rfl) rfl ?_
                (conv => arg 2; whnf); refine w_ret3cE (cs := wdL w) b 0 0 rfl rfl rfl rfl rfl (.refl _) (.refl _) (.refl _) hw.symm
              | false =>
                rw [h34, if_neg (by decide)] at hnx
                (conv => arg 2; whnf); refine wp_ite (fun h => by rw [k34] at h; rw [of_decide_eq_true h] at h34; cases h34) (fun _ => ?_)
                (conv => arg 2; whnf); refine wp_cutR (frL [(0, str s), (1, i64V at_), (4, .loc b 0), (7, byteV c)]) _ (.cons (.refl _) (.cons (.refl _) (.cons (.refl _) (.cons (.refl _) (.nil _))))) (List.Sublist.refl _) ?_
                obtain ⟨two, htwo⟩ : ∃ two, two = (s.drop at_).take 2 := ⟨_, rfl⟩
                have hsg : signR (s.drop at_) = if two = [33, 61] then .ok ⟨5, [33, 61], 0, 2⟩ else if two = [60, 61] then .ok ⟨5, [60, 61], 0, 2⟩ else if decide (Lib.indexByte signsL c < 0) then .error 21 else .ok ⟨5, [c], 0, 1⟩ := by
                  rw [signR, prefix_two, prefix_two, ← htwo, drop_at hc]
                  simp only [decide_eq_true_eq]; rfl
                rw [hsg] at hnx
                clear hsg
                have hsl2 : at_ + 1 < s.length → (0 : Int) ≤ (at_ : Int) ∧ (at_ : Int) ≤ IntKind.i64.wrap ((at_ : Int) + 2) ∧ IntKind.i64.wrap ((at_ : Int) + 2) ≤ (S s).size := fun h => by rw [w2, S_size]; omega
                have hext : (S s).extract (Int.toNat (at_ : Int)) (Int.toNat (IntKind.i64.wrap ((at_ : Int) + 2))) = S two := by
                  rw [w2, S_extract, Int.toNat_natCast, Int.toNat_natCast, htwo, List.take_drop]
                have hshort : ¬ at_ + 1 < s.length → two ≠ [33, 61] ∧ two ≠ [60, 61] := fun h => by
                  have : two.length ≤ 1 := by rw [htwo, List.length_take, List.length_drop]; omega
                  constructor <;> (intro e; rw [e] at this; simp at this)
                have q1 : ((S two).toList == (S [33, 61]).toList) = decide (two = [33, 61]) := strEq _ _
                have q2 : ((S two).toList == (S [60, 61]).toList) = decide (two = [60, 61]) := strEq _ _
                by_cases hbig : at_ + 1 < s.length ∧ (two = [33, 61] ∨ two = [60, 61])
                · obtain ⟨hl1, hor⟩ := hbig
                  have hnx : nextR (s.drop at_) = .ok ⟨5, two, 0, 2⟩ := by
                    rw [hnx]
                    rcases hor with h | h
                    · rw [if_pos h, h]
                    · rw [if_neg (by rw [h]; decide), if_pos h, h]
                  apply wp_joinT
                  case h1 =>
                    intro rest
                    (conv => arg 2; whnf); refine wp_ite (fun _ => ?_) (fun h => by rw [hlt1, decide_eq_true hl1] at h; cases h)
                    (conv => arg 2; whnf); refine wp_need (hsl2 hl1) ?_
                    (conv => arg 2; whnf); refine wp_ite (fun h => ?_) (fun h => ?_)
                    · (repeat ((conv => arg 2; whnf); first | refine wp_ite (fun _ => ?_) (fun h => Bool.noConfusion h) | refine wp_ite (fun h => Bool.noConfusion h) (fun _ => ?_)))
                      (conv => arg 2; whnf)
                      exact wp_cutR (frL [(0, str s), (1, i64V at_), (4, .loc b 0)]) [.obj b (wdL wd0)] (.cons (.refl _) (.cons (.refl _) (.cons (.refl _) (.nil _)))) (List.Sublist.refl _) rest
                    · (conv => arg 2; whnf); refine wp_need (hsl2 hl1) ?_
                      (conv => arg 2; whnf); refine wp_ite (fun h' => ?_) (fun h' => ?_)
                      · (conv => arg 2; whnf)
                        exact wp_cutR (frL [(0, str s), (1, i64V at_), (4, .loc b 0)]) [.obj b (wdL wd0)] (.cons (.refl _) (.cons (.refl _) (.cons (.refl _) (.nil _)))) (List.Sublist.refl _) rest
                      · exfalso
                        rw [hext, show (⟨#[33, 61]⟩ : ByteArray) = S [33, 61] from rfl, q1] at h
                        rw [hext, show (⟨#[60, 61]⟩ : ByteArray) = S [60, 61] from rfl, q2] at h'
                        rcases hor with e | e
                        · exact of_decide_eq_false h e
                        · exact of_decide_eq_false h' e
                  case rest =>
                    (conv => arg 2; whnf); refine wp_need (hsl2 hl1) ?_
                    (conv => arg 2; whnf); refine wp_store' 0 rfl (Nat.le_of_ble_eq_true rfl) rfl ?_
                    (conv => arg 2; whnf); refine w_ret3cE (cs := wdL ((⟨5, two, 0, 2⟩ : Nx).wd 0)) b 0 0 rfl rfl rfl ?_ rfl (.refl _) (.refl _) (.refl _) (by rw [hnx]; rfl)
                    show some (Res.obj b [i64V 5, V.c (.string ((S s).extract (Int.toNat at_) (Int.toNat (IntKind.i64.wrap ((at_ : Int) + 2))))), i64V 0, i64V 0]) = _
                    rw [hext]; rfl
                · have hno : two ≠ [33, 61] ∧ two ≠ [60, 61] := by
                    by_cases hl1 : at_ + 1 < s.length
                    · exact ⟨fun e => hbig ⟨hl1, .inl e⟩, fun e => hbig ⟨hl1, .inr e⟩⟩
                    · exact hshort hl1
                  rw [if_neg hno.1, if_neg hno.2] at hnx
                  apply wp_joinT
                  case h1 =>
                    intro rest
                    (conv => arg 2; whnf); refine wp_ite (fun h => ?_) (fun h => ?_)
                    · have hl1 : at_ + 1 < s.length := of_decide_eq_true (hlt1 ▸ h)
                      (conv => arg 2; whnf); refine wp_need (hsl2 hl1) ?_
                      (conv => arg 2; whnf); refine wp_ite (fun h => ?_) (fun h => ?_)
                      · exfalso
                        rw [hext, show (⟨#[33, 61]⟩ : ByteArray) = S [33, 61] from rfl, q1] at h
                        exact hno.1 (of_decide_eq_true h)
                      · (conv => arg 2; whnf); refine wp_need (hsl2 hl1) ?_
                        (conv => arg 2; whnf); refine wp_ite (fun h => ?_) (fun h => ?_)
                        · exfalso
                          rw [hext, show (⟨#[60, 61]⟩ : ByteArray) = S [60, 61] from rfl, q2] at h
                          exact hno.2 (of_decide_eq_true h)
                        · (conv => arg 2; whnf)
                          exact wp_cutR (frL [(0, str s), (1, i64V at_), (4, .loc b 0), (7, byteV c)]) [.obj b (wdL wd0)] (.cons (.refl _) (.cons (.refl _) (.cons (.refl _) (.cons (.refl _) (.nil _))))) (List.Sublist.refl _) rest
                    · (repeat ((conv => arg 2; whnf); first | refine wp_ite (fun _ => ?_) (fun h => Bool.noConfusion h) | refine wp_ite (fun h => Bool.noConfusion h) (fun _ => ?_)))
                      (conv => arg 2; whnf)
                      exact wp_cutR (frL [(0, str s), (1, i64V at_), (4, .loc b 0), (7, byteV c)]) [.obj b (wdL wd0)] (.cons (.refl _) (.cons (.refl _) (.cons (.refl _) (.cons (.refl _) (.nil _))))) (List.Sublist.refl _) rest
                  case rest =>
                    (conv => arg 2; whnf); refine wp_loop (fun m fr R => ∃ i : Nat, m = 14 - i ∧ i ≤ 14 ∧ R = [.obj b (wdL wd0)] ∧ c ∉ signsL.take i ∧ fr = frL [(0, str s), (1, i64V at_), (4, .loc b 0), (7, byteV c), (9, str signsL), (10, i64V i)])
                      14 _ [.obj b (wdL wd0)] (.cons (.refl _) (.cons (.refl _) (.cons (.refl _) (.cons (.refl _) (.cons (.refl _) (.cons (.refl _) (.nil _))))))) (List.Sublist.refl _) ⟨0, rfl, Nat.zero_le _, rfl, by simp, rfl⟩ ?_
                    rintro m fr R ⟨i, rfl, hi, rfl, hni, rfl⟩
                    have hsl : signsL.length = 14 := rfl
                    (conv => arg 2; whnf); refine wp_ite (fun h => ?_) (fun h => ?_)
                    · have h : i < 14 := by have := of_decide_eq_true h; rw [S_size, hsl] at this; omega
                      obtain ⟨x, hx⟩ : ∃ x, signsL[i]? = some x := ⟨_, List.getElem?_eq_getElem (by rw [hsl]; exact h)⟩
                      have kq : (((byteAt (S signsL) (Int.toNat (i : Int))).toNat : Int) == (c.toNat : Int)) = decide (x = c) := by rw [Int.toNat_natCast, byte_at hx]; exact c_int_eq x c _ rfl
                      have hni2 : x ≠ c → c ∉ signsL.take (i + 1) := fun hxc hm => by
                        rw [List.take_add_one, hx] at hm
                        rcases List.mem_append.1 hm with hm | hm
                        · exact hni hm
                        · simp at hm; exact hxc hm.symm
                      (conv => arg 2; whnf); refine wp_need (by rw [S_size, hsl]; omega) ?_
                      (conv => arg 2; whnf); refine wp_ite (fun h1 => ?_) (fun h1 => ?_)
                      · rw [kq] at h1
                        have hin : c ∈ signsL := by rw [← of_decide_eq_true h1]; exact List.mem_of_getElem? hx
                        rw [if_neg (by simpa using indexByte_some c signsL hin)] at hnx
                        (conv => arg 2; whnf); refine wp_need (by rw [w1, S_size]; omega) ?_
                        (conv => arg 2; whnf); refine wp_store' 0 rfl (Nat.le_of_ble_eq_true rfl) rfl ?_
                        (conv => arg 2; whnf)
                        refine wp_leaf (loop_ret ?_)
                        (conv => arg 2; whnf); refine w_ret3cE (cs := wdL ((⟨5, [c], 0, 1⟩ : Nx).wd 0)) b 0 0 rfl rfl rfl ?_ rfl (.refl _) (.refl _) (.refl _) (by rw [hnx]; rfl)
                        show some (Res.obj b [i64V 5, V.c (.string ((S s).extract (Int.toNat at_) (Int.toNat (IntKind.i64.wrap ((at_ : Int) + 1))))), i64V 0, i64V 0]) = _
                        rw [sliceOne hc rfl w1]; rfl
                      · rw [kq] at h1
                        (conv => arg 2; whnf)
                        exact wp_leaf (loop_next (14 - (i + 1)) _ [.obj b (wdL wd0)] (by omega) (.cons (.refl _) (.cons (.refl _) (.cons (.refl _) (.cons (.refl _) (.cons (.refl _) (.cons (Vle.inc i rfl (by omega)) (.nil _))))))) (List.Sublist.refl _) ⟨i + 1, rfl, h, rfl, hni2 (of_decide_eq_false h1), rfl⟩)
                    · have h : i = 14 := by have := of_decide_eq_false h; rw [S_size, hsl] at this; omega
                      subst h
                      have hni : c ∉ signsL := hni
                      rw [if_pos (by simpa using indexByte_none c signsL hni)] at hnx
                      (conv => arg 2; whnf)
                      refine wp_leaf (loop_exit ?_)
                      (conv => arg 2; whnf); refine wp_store' 0 rfl (Nat.le_of_ble_eq_true rfl) rfl ?_
                      (conv => arg 2; whnf); refine w_ret3cE (cs := wdL wd0) b 0 0 rfl rfl rfl rfl rfl (.refl _) (.refl _) (.refl _) (by rw [hnx]; rfl)
end Go.Sv
/- The reference's words: a text cut into words. -/
namespace Go.Sv
open Go Go.Proofs

def rcutV : Except Nat (List Wd) → V
  | .ok l => .tup [wslV l, i64V 0]
  | .error e => .tup [wslV [], i64V e]
/-- An error is never 0. -/
theorem nextR_err {l : List UInt8} {e : Nat} (h : nextR l = .error e) : e = 12 ∨ e = 21 := by
  have hte : ∀ (n : Nat) (l out : List UInt8) (e : Nat), l.length ≤ n → textR out l = .error e → e = 12 ∨ e = 21 := by
    intro n
    induction n with
    | zero =>
      intro l out e hl h
      cases l with
      | nil => cases h; exact .inr rfl
      | cons c l => simp at hl
    | succ n ih =>
      intro l out e hl h
      cases l with
      | nil => cases h; exact .inr rfl
      | cons c l =>
        have hl : l.length ≤ n := by simpa using hl
        rw [textR.eq_def] at h
        simp only at h
        split at h
        · split at h
          · cases h; exact .inl rfl
          · cases h
        · split at h
          · cases l with
            | nil => cases h; exact .inr rfl
            | cons d l =>
              simp only at h
              split at h
              · cases e2 : textR (out ++ [d]) l with
                | error x =>
                  rw [e2] at h; cases h
                  exact ih l _ _ (by simp at hl; omega) e2
                | ok p => rw [e2] at h; cases h
              · cases h; exact .inr rfl
          · split at h
            · cases e2 : textR (out ++ [c]) l with
              | error x =>
                rw [e2] at h; cases h
                exact ih l _ _ hl e2
              | ok p => rw [e2] at h; cases h
            · cases h; exact .inr rfl
  have hlet : ∀ (k : Nat) (p : UInt8 → Bool), letR k p l = .error e → e = 12 ∨ e = 21 := by
    intro k p h
    unfold letR at h
    split at h
    · cases h; exact .inl rfl
    · cases h
  unfold nextR at h
  split at h
  · exact hlet _ _ h
  · split at h
    · exact hlet _ _ h
    · split at h
      · unfold numR numE at h
        split at h
        · cases h
        · cases h; exact .inl rfl
      · split at h
        · unfold textN textE at h
          split at h
          · cases h
          · rename_i x e2
            cases h
            exact hte _ _ _ _ (Nat.le_refl _) e2
        · unfold signR at h
          split at h
          · cases h
          · split at h
            · cases h
            · split at h
              · cases h; exact .inr rfl
              · cases h

theorem w_ret2E {P : Program} {R : List Res} {fn : Func} {fr : Fr} {t u : Tmp} {a b v : V} (h : fn.results.toList = [.tmp t, .tmp u]) (ha : Vle (fr t) a) (hb : Vle (fr u) b) (he : .tup [a, b] = v) : (Tree.leaf .ret fr).wp P R (Ends P fn fun u _ => u = v) := by
  subst he; exact w_ret2 h ha hb (List.nil_sublist _) rfl

set_option maxRecDepth 100000 in
set_option maxHeartbeats 1000000 in
theorem rcut_call (s : List UInt8) (hs : s.length < 2 ^ 40) : PCall Tryz.prog 32 [str s] (rcutV (cutW s)) := by
  obtain ⟨res, hres⟩ : ∃ res, res = cutW s := ⟨_, rfl⟩
  rw [← hres]
  refine scall_of (live := []) (ords := [(6, []), (9, []), (11, []), (12, []), (13, [])]) Tryz.func32 rfl (by kernel_rfl) (by kernel_rfl) (Nat.le_of_ble_eq_true rfl) ?_
  (conv => arg 2; whnf); refine wp_loop (fun m fr R => ∃ (a f : Nat) (t : Option Nat) (ws : List Wd), m = s.length - a ∧ a ≤ s.length ∧ s.length - a ≤ f ∧ res = collect ws (itemsF f a (s.drop a)) ∧ ws.length ≤ 500 ∧ (t = none → ws = []) ∧ R = tokR (some 4) t ∧
      fr = frL [(0, str s), (4, .sl (shOf (some 4) t) (ws.map wdV) (tkOf t)), (5, i64V a)])
    s.length _ [] (.cons (.refl _) (.cons (.refl _) (.cons (.refl _) (.nil _)))) (List.Sublist.refl _) ⟨0, s.length, none, [], rfl, Nat.zero_le _, by omega, hres, Nat.zero_le _, fun _ => rfl, rfl, rfl⟩ ?_
  rintro m fr R ⟨a, f, t, ws, rfl, ha, hf, hcol, hlen, ht, rfl, rfl⟩
  have w1 : IntKind.i64.wrap ((a : Int) + 1) = ((a + 1 : Nat) : Int) := wadd (by omega) (by omega) (by omega)
  (conv => arg 2; whnf); refine wp_ite (fun h => ?_) (fun h => ?_)
  · have h : a < s.length := by have := of_decide_eq_true h; rw [S_size] at this; omega
    obtain ⟨c, hc⟩ : ∃ c, s[a]? = some c := ⟨_, List.getElem?_eq_getElem h⟩
    have hd := drop_at hc
    obtain ⟨f, rfl⟩ : ∃ f', f = f' + 1 := ⟨f - 1, by omega⟩
    rw [hd, itemsF_cons] at hcol
    have hb : byteAt (S s) (Int.toNat (a : Int)) = c := byte_at hc
    (conv => arg 2; whnf); refine wp_need (by rw [S_size]; omega) ?_
    (conv => arg 2; whnf); refine wp_ite (fun h1 => ?_) (fun h1 => ?_)
    · rw [hb, c_int_eq c 32 32 rfl] at h1
      rw [if_pos (of_decide_eq_true h1)] at hcol
      (conv => arg 2; whnf)
      exact wp_leaf (loop_next (s.length - (a + 1)) _ (tokR (some 4) t) (by omega) (.cons (.refl _) (.cons (.refl _) (.cons (Vle.i64 _ rfl w1) (.nil _)))) (List.Sublist.refl _) ⟨a + 1, f, t, ws, rfl, h, by omega, hcol, hlen, ht, rfl, rfl⟩)
    · rw [hb, c_int_eq c 32 32 rfl] at h1
      rw [if_neg (of_decide_eq_false h1), ← hd] at hcol
      have f1 := rword_call s a h hs
      have hnl := @nextR_len (s.drop a)
      have hne := @nextR_err (s.drop a)
      (conv => arg 2; whnf); refine wp_cutR (frL [(0, str s), (4, .sl (shOf (some 4) t) (ws.map wdV) (tkOf t)), (5, i64V a)]) _ (.cons (.refl _) (.cons (.refl _) (.cons (.refl _) (.nil _)))) (List.Sublist.refl _) ?_
      cases hx : nextR (s.drop a) with
      | error e =>
        rw [hx] at f1 hcol
        have hcol : res = .error e := hcol
        have he := hne hx
        (conv => arg 2; whnf); refine wp_pcall f1 ?_
        (conv => arg 2; whnf); refine wp_allocE (wdL wd0) rfl fun b => ?_
        (conv => arg 2; whnf); refine wp_storeE (cs := wdL wd0) (tokR (some 4) t).length 0 (wdL wd0) (by simp) rfl (VleL.refl _) (Nat.le_refl _) rfl (R' := tokR (some 4) t ++ [.obj b (wdL wd0)]) (by simp [splice, wdL]) ?_
        (conv => arg 2; whnf); refine wp_ite (fun _ => ?_) (fun h => by rcases he with rfl | rfl <;> cases h)
        (conv => arg 2; whnf)
        refine wp_leaf (loop_ret ?_)
        (conv => arg 2; whnf); refine w_ret2E rfl (Vle.nil _ _ _) (.refl _) (by rw [hcol]; rfl)
      | ok x =>
        rw [hx] at f1 hcol
        have hcol : res = collect ws ((x.wd a, none) :: itemsF f (a + x.len) ((s.drop a).drop x.len)) := hcol
        rw [collect_none, List.drop_drop] at hcol
        obtain ⟨k1, k2⟩ := hnl (by rw [hd]; simp) hx
        rw [List.length_drop] at k2
        have w2 : IntKind.i64.wrap ((a : Int) + x.len) = ((a + x.len : Nat) : Int) := wadd (by omega) (by omega) (by omega)
        have hwl : (ws ++ [x.wd a]).length = ws.length + 1 := by simp
        (conv => arg 2; whnf); refine wp_pcall f1 ?_
        (conv => arg 2; whnf); refine wp_allocE (wdL wd0) rfl fun b => ?_
        (conv => arg 2; whnf); refine wp_storeE (cs := wdL wd0) (tokR (some 4) t).length 0 (wdL (x.wd 0)) (by simp) rfl (VleL.refl _) (Nat.le_refl _) rfl (R' := tokR (some 4) t ++ [.obj b (wdL (x.wd 0))]) (by simp [splice, wdL]) ?_
        (repeat ((conv => arg 2; whnf); first | refine wp_ite (fun _ => ?_) (fun h => Bool.noConfusion h) | refine wp_ite (fun h => Bool.noConfusion h) (fun _ => ?_)))
        (conv => arg 2; whnf); refine wp_cutR (frL [(0, str s), (4, .sl (shOf (some 4) t) (ws.map wdV) (tkOf t)), (5, i64V a), (6, .loc b 0), (7, i64V x.len)]) _ (.cons (.refl _) (.cons (.refl _) (.cons (.refl _) (.cons (.refl _) (.cons (.refl _) (.nil _)))))) (List.Sublist.refl _) ?_
        (conv => arg 2; whnf); refine wp_ite (fun h5 => ?_) (fun h5 => ?_)
        · have h5 : 500 ≤ ws.length := by have := of_decide_eq_true h5; rw [List.length_map] at this; omega
          rw [if_pos (by omega)] at hcol
          (conv => arg 2; whnf)
          refine wp_leaf (loop_ret ?_)
          (conv => arg 2; whnf); refine w_ret2E rfl (Vle.nil _ _ _) (.refl _) (by rw [hcol]; rfl)
        · have h5 : ws.length < 500 := by have := of_decide_eq_false h5; rw [List.length_map] at this; omega
          rw [if_neg (by omega)] at hcol
          (conv => arg 2; whnf); refine wp_cutR (frL [(0, str s), (4, .sl (shOf (some 4) t) (ws.map wdV) (tkOf t)), (5, i64V a), (6, .loc b 0), (7, i64V x.len)]) _ (.cons (.refl _) (.cons (.refl _) (.cons (.refl _) (.cons (.refl _) (.cons (.refl _) (.nil _)))))) (List.Sublist.refl _) ?_
          (conv => arg 2; whnf); refine wp_storeE (cs := wdL (x.wd 0)) (tokR (some 4) t).length 3 [i64V a] (by simp) rfl (VleL.refl _) (Nat.le_of_ble_eq_true rfl) rfl (R' := tokR (some 4) t ++ [.obj b (wdL (x.wd a))]) (by simp [splice, wdL, Nx.wd]) ?_
          (conv => arg 2; whnf); refine wp_cutR (frL [(0, str s), (4, .sl (shOf (some 4) t) (ws.map wdV) (tkOf t)), (5, i64V a), (6, .loc b 0), (7, i64V x.len)]) _ (.cons (.refl _) (.cons (.refl _) (.cons (.refl _) (.cons (.refl _) (.cons (.refl _) (.nil _)))))) (List.Sublist.refl _) ?_
          (conv => arg 2; whnf); refine wp_load (cs := wdL (x.wd a)) (tokR (some 4) t).length (by simp) rfl ?_
          (conv => arg 2; whnf); refine wp_append_x (A := []) (B := [.obj b (wdL (x.wd a))]) (sh := some 4) (t := t) (xs := ws.map wdV) (ys := [wdV (x.wd a)]) (fun h => by rw [ht h]; rfl) (okE_wd [x.wd a]) (show (_ + 1) * 40 ≤ _ by simp; omega) (fun t' S' hS => ?_)
          (conv => arg 2; whnf)
          refine wp_leaf (loop_next (s.length - (a + x.len)) _ [.tok t' (some 4)] (by omega) (.cons (.refl _) (.cons (Vle.of (.sl (some 4) (ws.map wdV ++ [wdV (x.wd a)]) (.t t')) rfl ?_) (.cons (Vle.i64 _ rfl w2) (.nil _)))) hS ⟨a + x.len, f, some t', ws ++ [x.wd a], rfl, by omega, by omega, hcol, by omega, (fun h => by cases h), rfl, rfl⟩)
          rw [List.map_append]; rfl
  · have h : a = s.length := by have := of_decide_eq_false h; rw [S_size] at this; omega
    have hcol : res = .ok ws := by
      rw [hcol, h, List.drop_length]
      cases f <;> rfl
    (conv => arg 2; whnf)
    refine wp_leaf (loop_exit ?_)
    (conv => arg 2; whnf); refine wp_cutR (frL [(4, .sl (shOf (some 4) t) (ws.map wdV) (tkOf t))]) _ (.cons (.refl _) (.nil _)) (List.Sublist.refl _) ?_
    (conv => arg 2; whnf); refine w_ret2E rfl ?_ (.refl _) (by rw [hcol]; rfl)
    cases t with
    | none => rw [ht rfl]; exact Vle.nil _ _ _
    | some t => exact Vle.sl _ _ _
end Go.Sv
/- The reference's parser: its smaller methods. -/
namespace Go.Sv
open Go Go.Proofs

theorem Vle.viaR {v a b : V} (h : a = b) (hv : v = a) : Vle v b := Vle.eq (hv.trans h)
def eI : Option Nat → Int
  | none => 0
  | some k => k
/-- The reference's parser's cells: its text, its words, where it is, how many nodes, what is wrong. -/
def rfL (s : List UInt8) (L : List Wd) (at_ : Nat) (e : Option Nat) (n : Nat) : List V := [str s, wslV L, i64V at_, i64V n, i64V (eI e)]
def RSt (b : Nat) (s : List UInt8) (L l : List Wd) (e : Option Nat) (n : Nat) (R : List Res) : Prop := ∃ a, a ≤ L.length ∧ L.drop a = l ∧ R = [.obj b (rfL s L a e n)]
theorem drop_tail {L l : List Wd} {a : Nat} (h : L.drop a = l) (hl : l ≠ []) : a + 1 ≤ L.length ∧ L.drop (a + 1) = l.tail := by
  subst h
  refine ⟨?_, by rw [← List.drop_one, List.drop_drop]⟩
  have : a < L.length := by
    rcases Nat.lt_or_ge a L.length with h | h
    · exact h
    · exact absurd (List.drop_eq_nil_of_le h) hl
  omega
theorem dropW_at {L : List Wd} {w : Wd} {r : List Wd} {a : Nat} (h : L.drop a = w :: r) : L[a]? = some w := by
  have : (L.drop a)[0]? = some w := by rw [h]; rfl
  rwa [List.getElem?_drop, Nat.add_zero] at this
theorem isP_ne {l : List Wd} {e : Option Nat} {kind : Nat} {t : List UInt8} (h : isP l e kind t = true) : l ≠ [] := by
  obtain ⟨w, r, rfl⟩ := isP_cons h
  exact List.cons_ne_nil _ _

set_option maxRecDepth 100000 in
theorem peek_call (b : Nat) (s : List UInt8) (L l : List Wd) (a : Nat) (e : Option Nat) (n : Nat) (ha : a ≤ L.length) (hl : L.drop a = l) : SCall Tryz.prog 62 [.loc b 0] [.obj b (rfL s L a e n)] fun v R' => v = wdV (l.headD wd0) ∧ R' = [.obj b (rfL s L a e n)] := by
  refine scall_of (live := [6, 10, 17, 21]) (ords := []) Tryz.func62 rfl (by kernel_rfl) (by kernel_rfl) (Nat.le_of_ble_eq_true rfl) ?_
  (conv => arg 2; whnf); refine wp_allocE (wdL wd0) rfl fun c => ?_
  (conv => arg 2; whnf); refine wp_load (cs := rfL s L a e n) 0 rfl rfl ?_
  (conv => arg 2; whnf); refine wp_load (cs := rfL s L a e n) 0 rfl rfl ?_
  cases l with
  | nil =>
    have hge : decide ((a : Int) ≥ (((L.map wdV).length : Nat) : Int)) = true := by
      have := congrArg List.length hl
      rw [List.length_drop, List.length_nil] at this
      rw [List.length_map]; exact decide_eq_true (by omega)
    (conv => arg 2; whnf); refine wp_ite (fun _ => ?_) (fun h => Bool.noConfusion (hge.symm.trans h))
    (conv => arg 2; whnf); refine wp_storeE (cs := wdL wd0) 1 0 (wdL wd0) rfl rfl (VleL.refl _) (Nat.le_refl _) rfl (R' := [.obj b (rfL s L a e n), .obj c (wdL wd0)]) rfl ?_
    (conv => arg 2; whnf); refine w_ret1k (R' := [.obj b (rfL s L a e n)]) c 0 1 rfl rfl rfl rfl rfl (Vle.refl _) (by simp) ⟨rfl, rfl⟩
  | cons w r =>
    have hw := dropW_at hl
    have hlt := (List.getElem?_eq_some_iff.1 hw).1
    have hge : decide ((a : Int) ≥ (((L.map wdV).length : Nat) : Int)) = false := by rw [List.length_map]; exact decide_eq_false (by omega)
    (conv => arg 2; whnf); refine wp_ite (fun h => Bool.noConfusion (hge.symm.trans h)) (fun _ => ?_)
    (conv => arg 2; whnf); refine wp_load (cs := rfL s L a e n) 0 rfl rfl ?_
    (conv => arg 2; whnf); refine wp_load (cs := rfL s L a e n) 0 rfl rfl ?_
    (conv => arg 2; whnf); refine wp_elem a (wdV w) rfl (wd_at hw) (Vle.refl _) ?_
    (conv => arg 2; whnf); refine wp_storeE (cs := wdL wd0) 1 0 (wdL w) rfl rfl (VleL.refl _) (Nat.le_refl _) rfl (R' := [.obj b (rfL s L a e n), .obj c (wdL w)]) rfl ?_
    (conv => arg 2; whnf); refine w_ret1k (R' := [.obj b (rfL s L a e n)]) c 0 1 rfl rfl rfl rfl rfl (Vle.refl _) (by simp) ⟨rfl, rfl⟩

theorem eI_ne {e : Option Nat} (he : e ≠ some 0) : (eI e == 0) = decide (e = none) := by
  cases e with
  | none => rfl
  | some k =>
    have : (k : Int) ≠ 0 := fun h => he (by rw [show k = 0 by omega])
    rw [decide_eq_false (by simp)]
    exact beq_eq_false_iff_ne.2 this
theorem failE_ne {e : Option Nat} {k : Nat} (he : e ≠ some 0) (hk : k ≠ 0) : failE e k ≠ some 0 := by
  unfold failE
  split
  · intro h; cases h; exact hk rfl
  · exact he

set_option maxRecDepth 100000 in
theorem rfails_call (b : Nat) (s : List UInt8) (L : List Wd) (a : Nat) (e : Option Nat) (n k : Nat) (he : e ≠ some 0) : SCall Tryz.prog 63 [.loc b 0, i64V k] [.obj b (rfL s L a e n)] fun v R' => v = .tup [] ∧ R' = [.obj b (rfL s L a (failE e k) n)] := by
  have h0 := eI_ne he
  refine scall_of (live := []) (ords := []) Tryz.func63 rfl (by kernel_rfl) (by kernel_rfl) (Nat.le_of_ble_eq_true rfl) ?_
  (conv => arg 2; whnf); refine wp_load (cs := rfL s L a e n) 0 rfl rfl ?_
  cases e with
  | none =>
    (repeat ((conv => arg 2; whnf); first | refine wp_ite (fun _ => ?_) (fun h => Bool.noConfusion h) | refine wp_ite (fun h => Bool.noConfusion h) (fun _ => ?_)))
    (conv => arg 2; whnf); refine wp_storeE (cs := rfL s L a none n) 0 4 [i64V k] rfl rfl (VleL.refl _) (Nat.le_of_ble_eq_true rfl) rfl (R' := [.obj b (rfL s L a (some k) n)]) rfl ?_
    (conv => arg 2; whnf); refine w_norm0 rfl (List.Sublist.refl _) ⟨rfl, rfl⟩
  | some m =>
    (conv => arg 2; whnf); refine wp_ite (fun h => Bool.noConfusion (h0.symm.trans h)) (fun _ => ?_)
    (conv => arg 2; whnf); refine w_norm0 rfl (List.Sublist.refl _) ⟨rfl, rfl⟩

set_option maxRecDepth 100000 in
theorem ris_call (b : Nat) (s : List UInt8) (L l : List Wd) (a : Nat) (e : Option Nat) (n kind : Nat) (t : List UInt8) (hk : kind ≠ 0) (ht : t ≠ []) (he : e ≠ some 0) (ha : a ≤ L.length) (hl : L.drop a = l) (hL : L.length < 2 ^ 40) :
    SCall Tryz.prog 36 [.loc b 0, i64V kind, str t] [.obj b (rfL s L a e n)] fun v R' => v = bV (isP l e kind t) ∧ RSt b s L (mayL l e kind t) e n R' := by
  have h0 := eI_ne he
  have hp := peek_call b s L l a e n ha hl
  refine scall_of (live := []) (ords := []) Tryz.func36 rfl (by kernel_rfl) (by kernel_rfl) (Nat.le_of_ble_eq_true rfl) ?_
  (conv => arg 2; whnf); refine wp_call hp ?_
  rintro v R1 ⟨rfl, rfl⟩
  (conv => arg 2; whnf); refine wp_allocE (wdL wd0) rfl fun c => ?_
  (conv => arg 2; whnf); refine wp_storeE (cs := wdL wd0) 1 0 (wdL (l.headD wd0)) rfl rfl (VleL.refl _) (Nat.le_refl _) rfl (R' := [.obj b (rfL s L a e n), .obj c (wdL (l.headD wd0))]) rfl ?_
  (conv => arg 2; whnf); refine wp_load (cs := rfL s L a e n) 0 rfl rfl ?_
  have hno : isP l e kind t = false → bV false = bV (isP l e kind t) ∧ RSt b s L (mayL l e kind t) e n [.obj b (rfL s L a e n)] := fun h => by
    rw [h, mayL, h]; exact ⟨rfl, a, ha, hl, rfl⟩
  cases e with
  | some m =>
    have h0 : (!(eI (some m) == 0)) = true := by rw [h0]; rfl
    (conv => arg 2; whnf); refine wp_ite (fun _ => ?_) (fun h => Bool.noConfusion (h0.symm.trans h))
    (repeat ((conv => arg 2; whnf); first | refine wp_ite (fun _ => ?_) (fun h => Bool.noConfusion h) | refine wp_ite (fun h => Bool.noConfusion h) (fun _ => ?_)))
    (conv => arg 2; whnf); refine w_ret1 rfl (Vle.refl _) (List.sublist_append_left [_] [_]) (hno rfl)
  | none =>
    (repeat ((conv => arg 2; whnf); first | refine wp_ite (fun _ => ?_) (fun h => Bool.noConfusion h) | refine wp_ite (fun h => Bool.noConfusion h) (fun _ => ?_)))
    (conv => arg 2; whnf); refine wp_load (cs := wdL (l.headD wd0)) 1 rfl rfl ?_
    (conv => arg 2; whnf); refine wp_ite (fun h => ?_) (fun h => ?_)
    · have hkk : (l.headD wd0).kind ≠ kind := fun e => by rw [e] at h; simp at h
      have hn : isP l none kind t = false := by
        cases l with
        | nil => exact isP_nil
        | cons w r => exact isP_kind hkk
      (repeat ((conv => arg 2; whnf); first | refine wp_ite (fun _ => ?_) (fun h => Bool.noConfusion h) | refine wp_ite (fun h => Bool.noConfusion h) (fun _ => ?_)))
      (conv => arg 2; whnf); refine w_ret1 rfl (Vle.refl _) (List.sublist_append_left [_] [_]) (hno hn)
    · have hkk : (l.headD wd0).kind = kind := by
        have : (((l.headD wd0).kind : Int) == (kind : Int)) = true := by simpa using h
        have := eq_of_beq this; omega
      have hne : l ≠ [] := by
        rintro rfl
        exact hk hkk.symm
      (conv => arg 2; whnf); refine wp_load (cs := wdL (l.headD wd0)) 1 rfl rfl ?_
      (conv => arg 2; whnf); refine wp_ite (fun h => ?_) (fun h => ?_)
      · have hx : decide ((l.headD wd0).text = t) = false := by
          rw [← strEq]
          revert h
          cases (S (l.headD wd0).text).toList == (S t).toList
          · intro _; rfl
          · intro h; cases h
        have hn : isP l none kind t = false := by
          cases l with
          | nil => exact isP_nil
          | cons w r => exact (isP_text (w := w) (l := r) hkk ht).trans hx
        (conv => arg 2; whnf); refine w_ret1 rfl (Vle.refl _) (List.sublist_append_left [_] [_]) (hno hn)
      · have hx : decide ((l.headD wd0).text = t) = true := by
          rw [← strEq]
          revert h
          cases (S (l.headD wd0).text).toList == (S t).toList
          · intro h; cases h
          · intro _; rfl
        have hy : isP l none kind t = true := by
          cases l with
          | nil => exact absurd rfl hne
          | cons w r => exact (isP_text (w := w) (l := r) hkk ht).trans hx
        obtain ⟨h1, h2⟩ := drop_tail hl hne
        (conv => arg 2; whnf); refine wp_load (cs := rfL s L a none n) 0 rfl rfl ?_
        (conv => arg 2; whnf); refine wp_storeE (cs := rfL s L a none n) 0 2 [i64V ((a + 1 : Nat) : Int)] rfl rfl (.cons (Vle.inc a rfl (by omega)) .nil) (Nat.le_of_ble_eq_true rfl) rfl (R' := [.obj b (rfL s L (a + 1) none n), .obj c (wdL (l.headD wd0))]) rfl ?_
        (conv => arg 2; whnf); refine w_ret1 rfl (Vle.refl _) (List.sublist_append_left [_] [_]) (by rw [hy, mayL, hy, if_pos rfl]; exact ⟨rfl, a + 1, h1, h2, rfl⟩)

set_option maxRecDepth 100000 in
theorem want_call (b : Nat) (s : List UInt8) (L l : List Wd) (a : Nat) (e : Option Nat) (n kind : Nat) (t : List UInt8) (hk : kind ≠ 0) (ht : t ≠ []) (he : e ≠ some 0) (ha : a ≤ L.length) (hl : L.drop a = l) (hL : L.length < 2 ^ 40) :
    SCall Tryz.prog 34 [.loc b 0, i64V kind, str t] [.obj b (rfL s L a e n)] fun v R' => v = .tup [] ∧ RSt b s L (mayL l e kind t) (mustX l e kind t) n R' := by
  have hp := ris_call b s L l a e n kind t hk ht he ha hl hL
  refine scall_of (live := []) (ords := []) Tryz.func34 rfl (by kernel_rfl) (by kernel_rfl) (Nat.le_of_ble_eq_true rfl) ?_
  (conv => arg 2; whnf); refine wp_call hp ?_
  rintro v R1 ⟨rfl, a1, h1, h2, rfl⟩
  (conv => arg 2; whnf); refine wp_ite (fun h => ?_) (fun h => ?_)
  · have h : isP l e kind t = false := by simpa using h
    (conv => arg 2; whnf); refine wp_call (rfails_call b s L a1 e n 10 he) ?_
    rintro v R1 ⟨rfl, rfl⟩
    (conv => arg 2; whnf); refine w_norm0 rfl (List.Sublist.refl _) ⟨rfl, a1, h1, h2, by rw [mustX, h]; rfl⟩
  · have h : isP l e kind t = true := by simpa using h
    (conv => arg 2; whnf); refine w_norm0 rfl (List.Sublist.refl _) ⟨rfl, a1, h1, h2, by rw [mustX, h]; rfl⟩

set_option maxRecDepth 100000 in
theorem some_call (b : Nat) (s : List UInt8) (L l : List Wd) (a : Nat) (e : Option Nat) (n kind : Nat) (hk : kind ≠ 0) (he : e ≠ some 0) (ha : a ≤ L.length) (hl : L.drop a = l) (hL : L.length < 2 ^ 40) :
    SCall Tryz.prog 37 [.loc b 0, i64V kind] [.obj b (rfL s L a e n)] fun v R' => v = wdV (takeW l e kind) ∧ RSt b s L (mayL l e kind []) (mustX l e kind []) n R' := by
  have h0 := eI_ne he
  have hp := peek_call b s L l a e n ha hl
  have hno : isP l e kind [] = false → wdV wd0 = wdV (takeW l e kind) ∧ RSt b s L (mayL l e kind []) (mustX l e kind []) n [.obj b (rfL s L a (failE e 10) n)] := fun h => by
    rw [takeW, mayL, mustX, h]; exact ⟨rfl, a, ha, hl, rfl⟩
  refine scall_of (live := []) (ords := []) Tryz.func37 rfl (by kernel_rfl) (by kernel_rfl) (Nat.le_of_ble_eq_true rfl) ?_
  (conv => arg 2; whnf); refine wp_allocE (wdL wd0) rfl fun d => ?_
  (conv => arg 2; whnf); refine wp_callF [] [.obj b (rfL s L a e n)] [.obj d (wdL wd0)] rfl hp ?_
  rintro v R1 ⟨rfl, rfl⟩
  (conv => arg 2; whnf); refine wp_allocE (wdL wd0) rfl fun c => ?_
  (conv => arg 2; whnf); refine wp_storeE (cs := wdL wd0) 2 0 (wdL (l.headD wd0)) rfl rfl (VleL.refl _) (Nat.le_refl _) rfl (R' := [.obj b (rfL s L a e n), .obj d (wdL wd0), .obj c (wdL (l.headD wd0))]) rfl ?_
  (conv => arg 2; whnf); refine wp_load (cs := rfL s L a e n) 0 rfl rfl ?_
  cases e with
  | some m =>
    have h0 : (!(eI (some m) == 0)) = true := by rw [h0]; rfl
    (conv => arg 2; whnf); refine wp_ite (fun _ => ?_) (fun h => Bool.noConfusion (h0.symm.trans h))
    (repeat ((conv => arg 2; whnf); first | refine wp_ite (fun _ => ?_) (fun h => Bool.noConfusion h) | refine wp_ite (fun h => Bool.noConfusion h) (fun _ => ?_)))
    (conv => arg 2; whnf); refine wp_callF [] [.obj b (rfL s L a (some m) n)] [.obj d (wdL wd0), .obj c (wdL (l.headD wd0))] rfl (rfails_call b s L a (some m) n 10 he) ?_
    rintro v R1 ⟨rfl, rfl⟩
    (conv => arg 2; whnf); refine wp_storeE (cs := wdL wd0) 1 0 (wdL wd0) rfl rfl (VleL.refl _) (Nat.le_refl _) rfl (R' := [.obj b (rfL s L a (some m) n), .obj d (wdL wd0), .obj c (wdL (l.headD wd0))]) rfl ?_
    (conv => arg 2; whnf); refine w_ret1k (R' := [.obj b (rfL s L a (some m) n)]) d 0 1 rfl rfl rfl rfl rfl (Vle.refl _) (by simp) (hno rfl)
  | none =>
    (repeat ((conv => arg 2; whnf); first | refine wp_ite (fun _ => ?_) (fun h => Bool.noConfusion h) | refine wp_ite (fun h => Bool.noConfusion h) (fun _ => ?_)))
    (conv => arg 2; whnf); refine wp_load (cs := wdL (l.headD wd0)) 2 rfl rfl ?_
    (conv => arg 2; whnf); refine wp_ite (fun h => ?_) (fun h => ?_)
    · have hkk : (l.headD wd0).kind ≠ kind := fun e => by rw [e] at h; simp at h
      have hn : isP l none kind [] = false := by
        cases l with
        | nil => exact isP_nil
        | cons w r => exact isP_kind hkk
      (conv => arg 2; whnf); refine wp_callF [] [.obj b (rfL s L a none n)] [.obj d (wdL wd0), .obj c (wdL (l.headD wd0))] rfl (rfails_call b s L a none n 10 he) ?_
      rintro v R1 ⟨rfl, rfl⟩
      (conv => arg 2; whnf); refine wp_storeE (cs := wdL wd0) 1 0 (wdL wd0) rfl rfl (VleL.refl _) (Nat.le_refl _) rfl (R' := [.obj b (rfL s L a (some 10) n), .obj d (wdL wd0), .obj c (wdL (l.headD wd0))]) rfl ?_
      (conv => arg 2; whnf); refine w_ret1k (R' := [.obj b (rfL s L a (some 10) n)]) d 0 1 rfl rfl rfl rfl rfl (Vle.refl _) (by simp) (hno hn)
    · have hkk : (l.headD wd0).kind = kind := by
        have : (((l.headD wd0).kind : Int) == (kind : Int)) = true := by simpa using h
        have := eq_of_beq this; omega
      have hne : l ≠ [] := by
        rintro rfl
        exact hk hkk.symm
      have hy : isP l none kind [] = true := by
        cases l with
        | nil => exact absurd rfl hne
        | cons w r => exact isP_any hkk
      obtain ⟨h1, h2⟩ := drop_tail hl hne
      (conv => arg 2; whnf); refine wp_load (cs := rfL s L a none n) 0 rfl rfl ?_
      (conv => arg 2; whnf); refine wp_storeE (cs := rfL s L a none n) 0 2 [i64V ((a + 1 : Nat) : Int)] rfl rfl (.cons (Vle.inc a rfl (by omega)) .nil) (Nat.le_of_ble_eq_true rfl) rfl (R' := [.obj b (rfL s L (a + 1) none n), .obj d (wdL wd0), .obj c (wdL (l.headD wd0))]) rfl ?_
      (conv => arg 2; whnf); refine wp_load (cs := wdL (l.headD wd0)) 2 rfl rfl ?_
      (conv => arg 2; whnf); refine wp_storeE (cs := wdL wd0) 1 0 (wdL (l.headD wd0)) rfl rfl (VleL.refl _) (Nat.le_refl _) rfl (R' := [.obj b (rfL s L (a + 1) none n), .obj d (wdL (l.headD wd0)), .obj c (wdL (l.headD wd0))]) rfl ?_
      (conv => arg 2; whnf); refine w_ret1k (R' := [.obj b (rfL s L (a + 1) none n)]) d 0 1 rfl rfl rfl rfl rfl (Vle.refl _) (by simp) (by rw [takeW, mayL, mustX, hy, if_pos rfl, if_pos rfl, if_pos rfl]; exact ⟨rfl, a + 1, h1, h2, rfl⟩)
end Go.Sv
/- The reference's parser: numbers as Dec writes them; the sign between two kids. -/
namespace Go.Sv
open Go Go.Proofs

theorem prefix_eq {t l : List UInt8} : t.isPrefixOf l = decide (l.take t.length = t) := by
  rw [Bool.eq_iff_iff, List.isPrefixOf_iff_prefix, decide_eq_true_eq, List.prefix_iff_eq_take]
  exact eq_comm

set_option maxRecDepth 100000 in
set_option maxHeartbeats 4000000 in
theorem rplain_call (b : Nat) (s : List UInt8) (L : List Wd) (a : Nat) (e : Option Nat) (n : Nat) (w : Wd) (hs : s.length < 2 ^ 40) (hw : WdOk s.length w) :
    SCall Tryz.prog 38 [.loc b 0, wdV w] [.obj b (rfL s L a e n)] fun v R' => v = bV (plainW s w) ∧ R' = [.obj b (rfL s L a e n)] := by
  have hn := hw.nx.n
  have hat := hw.at_
  have fd := dec_call w.n hn.1 hn.2
  have hlen := decD_len21 w.n hn.1 hn.2
  have hpl : plainW s w = ((decD w.n).isPrefixOf (s.drop w.at_) && !hdDg ((s.drop w.at_).drop (decD w.n).length)) := by rw [plainW, decF_eq w.n hn.1 hn.2]
  obtain ⟨t, ht⟩ : ∃ t, t = decD w.n := ⟨_, rfl⟩
  rw [← ht] at fd hlen hpl
  have hpx : t.isPrefixOf (s.drop w.at_) = decide ((s.take (w.at_ + t.length)).drop w.at_ = t) := by
    rw [prefix_eq, List.drop_take, Nat.add_sub_cancel_left]
  refine scall_of (live := [19, 26, 39, 46]) (ords := [(3, [0, 1, 2, 3, 4, 5, 6, 7, 8, 9, 10, 11, 12, 13, 14, 15, 16, 17, 18, 19, 20, 21, 22, 23, 24, 25, 26, 27, 28, 29, 30, 31, 32, 33, 34, 35, 36, 37, 38])]) Tryz.func38 rfl (by kernel_rfl) (by kernel_rfl) (Nat.le_of_ble_eq_true rfl) ?_
  (conv => arg 2; whnf); refine wp_pcall fd ?_
  have he : IntKind.i64.wrap ((w.at_ : Int) + ((S t).size : Int)) = ((w.at_ + t.length : Nat) : Int) := by rw [S_size, w_i64_small (by omega) (by omega)]; rfl
  (conv => arg 2; whnf)
  refine wp_cutR (frL [(0, .loc b 0), (3, .pt (some 4) (wdV w) 0), (5, str t), (6, i64V ((w.at_ + t.length : Nat) : Int))]) [.obj b (rfL s L a e n)] (.cons (.refl _) (.cons (.refl _) (.cons (.refl _) (.cons (Vle.eq (cI64 he)) (.nil _))))) (List.Sublist.refl _) ?_
  (conv => arg 2; whnf); refine wp_load (cs := rfL s L a e n) 0 rfl rfl ?_
  (conv => arg 2; whnf); refine wp_ite (fun h1 => ?_) (fun h1 => ?_)
  · have h1 : w.at_ + t.length ≤ s.length := by have := of_decide_eq_true h1; rw [S_size] at this; omega
    (conv => arg 2; whnf); refine wp_load (cs := rfL s L a e n) 0 rfl rfl ?_
    (conv => arg 2; whnf); refine wp_need ⟨Int.natCast_nonneg _, by omega, by rw [S_size]; omega⟩ ?_
    have hx : (S s).extract (Int.toNat (w.at_ : Int)) (Int.toNat ((w.at_ + t.length : Nat) : Int)) = S ((s.take (w.at_ + t.length)).drop w.at_) := by rw [S_extract, Int.toNat_natCast, Int.toNat_natCast]
    have hq : ((((S s).extract (Int.toNat (w.at_ : Int)) (Int.toNat ((w.at_ + t.length : Nat) : Int))).toList == (S t).toList)) = t.isPrefixOf (s.drop w.at_) := by rw [hx, strEq, hpx]
    (conv => arg 2; whnf); refine wp_ite (fun h2 => ?_) (fun h2 => ?_)
    · have h2 := hq.symm.trans h2
      (conv => arg 2; whnf); refine wp_load (cs := rfL s L a e n) 0 rfl rfl ?_
      (conv => arg 2; whnf); refine wp_ite (fun h3 => ?_) (fun h3 => ?_)
      · have h3 : w.at_ + t.length = s.length := by have := eq_of_beq h3; rw [S_size] at this; omega
        (conv => arg 2; whnf); refine w_ret1 rfl (Vle.refl _) (List.Sublist.refl _) ⟨cBool ?_, rfl⟩
        rw [hpl, h2, List.drop_drop, h3, List.drop_length]; rfl
      · have h3 : w.at_ + t.length ≠ s.length := fun h => by rw [S_size, h] at h3; simp at h3
        obtain ⟨c, hc⟩ : ∃ c, s[w.at_ + t.length]? = some c := ⟨_, List.getElem?_eq_getElem (by omega)⟩
        have hb : byteAt (S s) (Int.toNat ((w.at_ + t.length : Nat) : Int)) = c := byte_at hc
        have hd : hdDg ((s.drop w.at_).drop t.length) = isDg c := by
          rw [List.drop_drop]
          have h5 : (s.drop (w.at_ + t.length))[0]? = some c := by rw [List.getElem?_drop]; exact hc
          cases h6 : s.drop (w.at_ + t.length) with
          | nil => rw [h6] at h5; cases h5
          | cons d r => rw [h6] at h5; cases h5; rfl
        (conv => arg 2; whnf); refine wp_load (cs := rfL s L a e n) 0 rfl rfl ?_
        (conv => arg 2; whnf); refine wp_need ⟨Int.natCast_nonneg _, by rw [S_size]; omega⟩ ?_
        (conv => arg 2; whnf); refine wp_pcV (.cons (Vle.eq (congrArg (fun z : UInt8 => V.c (.int .u8 z.toNat)) hb)) .nil) (rdigit_call c) ?_
        (conv => arg 2; whnf); refine w_ret1 rfl (Vle.refl _) (List.Sublist.refl _) ⟨cBool ?_, rfl⟩
        rw [hpl, h2, hd]; rfl
    · have h2 := hq.symm.trans h2
      (repeat ((conv => arg 2; whnf); first | refine wp_ite (fun _ => ?_) (fun h => Bool.noConfusion h) | refine wp_ite (fun h => Bool.noConfusion h) (fun _ => ?_)))
      (conv => arg 2; whnf); refine w_ret1 rfl (Vle.refl _) (List.Sublist.refl _) ⟨cBool (by rw [hpl, h2]; rfl), rfl⟩
  · have h1 : ¬ w.at_ + t.length ≤ s.length := by have := of_decide_eq_false h1; rw [S_size] at this; omega
    have h2 : t.isPrefixOf (s.drop w.at_) = false := by
      cases h : t.isPrefixOf (s.drop w.at_) with
      | false => rfl
      | true =>
        have := (List.isPrefixOf_iff_prefix.1 h).length_le
        rw [List.length_drop] at this; omega
    (repeat ((conv => arg 2; whnf); first | refine wp_ite (fun _ => ?_) (fun h => Bool.noConfusion h) | refine wp_ite (fun h => Bool.noConfusion h) (fun _ => ?_)))
    (conv => arg 2; whnf); refine w_ret1 rfl (Vle.refl _) (List.Sublist.refl _) ⟨cBool (by rw [hpl, h2]; rfl), rfl⟩

def sgnL : List (List UInt8) := [[43], [45], [42], [61], [33, 61], [60], [60, 61], andL, orL]
theorem sgn_at {k : Nat} (h : k < 9) : sgnL.getD k [] = signT (3 + (k : Int)) := by
  match k, h with
  | 0, _ | 1, _ | 2, _ | 3, _ | 4, _ | 5, _ | 6, _ | 7, _ | 8, _ => rfl
def fiveB (w : Wd) : Bool := decide (w.kind = 5) || decide (w.kind = 4)
theorem os_hit {m : Nat} {w : Wd} {k : Nat} (hw : WdOk m w) (hk : k < 9) (h5 : fiveB w = true) (ht : w.text = sgnL.getD k []) : osW w = 3 + (k : Int) := by
  have h5 : w.kind = 5 ∨ w.kind = 4 := by simpa [fiveB] using h5
  rcases h5 with h5 | h4
  · have hs := hw.nx.sign h5
    simp only [ht] at hs
    rw [osW, if_pos h5, ht]
    match k, hk with
    | 0, _ | 1, _ | 2, _ | 3, _ | 4, _ | 5, _ | 6, _ => rfl
    | 7, _ => exact absurd (hs 65 (by decide)) (by decide)
    | 8, _ => exact absurd (hs 79 (by decide)) (by decide)
  · have hg := hw.nx.great h4
    simp only [ht] at hg
    rw [osW, if_neg (by omega), if_pos h4, ht]
    match k, hk with
    | 0, _ => exact absurd (hg 43 (by decide)) (by decide)
    | 1, _ => exact absurd (hg 45 (by decide)) (by decide)
    | 2, _ => exact absurd (hg 42 (by decide)) (by decide)
    | 3, _ => exact absurd (hg 61 (by decide)) (by decide)
    | 4, _ => exact absurd (hg 33 (by decide)) (by decide)
    | 5, _ => exact absurd (hg 60 (by decide)) (by decide)
    | 6, _ => exact absurd (hg 60 (by decide)) (by decide)
    | 7, _ | 8, _ => rfl
theorem os_miss {w : Wd} (h : fiveB w = true → ∀ t ∈ sgnL, w.text ≠ t) : osW w = 0 := by
  by_cases h5 : w.kind = 5
  · have h := h (by rw [fiveB, decide_eq_true h5]; rfl)
    rw [osW, if_pos h5, if_neg (h _ (by decide)), if_neg (h _ (by decide)), if_neg (h _ (by decide)), if_neg (h _ (by decide)), if_neg (h _ (by decide)), if_neg (h _ (by decide)), if_neg (h _ (by decide))]
  · by_cases h4 : w.kind = 4
    · have h := h (by rw [fiveB, decide_eq_true h4, Bool.or_true])
      rw [osW, if_neg h5, if_pos h4, if_neg (h _ (by decide)), if_neg (h _ (by decide))]
    · rw [osW, if_neg h5, if_neg h4]

set_option maxRecDepth 100000 in
theorem rop_call {m0 : Nat} (w : Wd) (hw : w = wd0 ∨ WdOk m0 w) : PCall Tryz.prog 64 [wdV w] (i64V (osW w)) := by
  have h5 : ((w.kind : Int) == 5) = decide (w.kind = 5) := by rw [Bool.eq_iff_iff, beq_iff_eq, decide_eq_true_eq]; omega
  have h4 : ((w.kind : Int) == 4) = decide (w.kind = 4) := by rw [Bool.eq_iff_iff, beq_iff_eq, decide_eq_true_eq]; omega
  refine scall_of (live := []) (ords := []) Tryz.func64 rfl (by kernel_rfl) (by kernel_rfl) (Nat.le_of_ble_eq_true rfl) ?_
  (conv => arg 2; whnf); refine wp_loop (fun m fr R => ∃ k : Nat, m = 9 - k ∧ k ≤ 9 ∧ R = [] ∧ (fiveB w = true → ∀ t ∈ sgnL.take k, w.text ≠ t) ∧ fr = frL [(1, .pt (some 4) (wdV w) 0), (3, i64V ((3 + k : Nat) : Int))])
    9 _ _ (.cons (.refl _) (.cons (.refl _) (.nil _))) (List.nil_sublist _) ⟨0, rfl, Nat.zero_le _, rfl, fun _ t ht => by simp at ht, rfl⟩ ?_
  rintro m fr R ⟨k, rfl, hk, rfl, hI, rfl⟩
  (conv => arg 2; whnf); refine wp_ite (fun h => ?_) (fun h => ?_)
  · have hk9 : k < 9 := by have := of_decide_eq_true h; omega
    have fs := refsign_call ((3 + k : Nat) : Int) (by omega) (by omega)
    have es : signT ((3 + k : Nat) : Int) = sgnL.getD k [] := by rw [sgn_at hk9]; congr 1
    rw [es] at fs
    have hg : sgnL[k]? = some (sgnL.getD k []) := by
      match k, hk9 with
      | 0, _ | 1, _ | 2, _ | 3, _ | 4, _ | 5, _ | 6, _ | 7, _ | 8, _ => rfl
    have next : ∀ (hne : fiveB w = true → w.text ≠ sgnL.getD k []), fiveB w = true → ∀ t ∈ sgnL.take (k + 1), w.text ≠ t := fun hne h t ht => by
      rw [List.take_add_one, hg] at ht
      rcases List.mem_append.1 ht with ht | ht
      · exact hI h t ht
      · have : t = sgnL.getD k [] := by simpa using ht
        rw [this]; exact hne h
    have eI3 : IntKind.i64.wrap (((3 + k : Nat) : Int) + 1) = ((3 + (k + 1) : Nat) : Int) := by rw [w_i64_small (by omega) (by omega)]; omega
    have hq : (((S w.text).toList == (S (sgnL.getD k [])).toList)) = decide (w.text = sgnL.getD k []) := strEq _ _
    have hit : fiveB w = true → decide (w.text = sgnL.getD k []) = true → i64V ((3 + k : Nat) : Int) = i64V (osW w) := fun h5 ht => by
      rcases hw with rfl | hw
      · exact absurd h5 (by decide)
      · rw [os_hit hw hk9 h5 (of_decide_eq_true ht)]; rfl
    (conv => arg 2; whnf); refine wp_ite (fun h => ?_) (fun h => ?_)
    · have h5' : fiveB w = true := by rw [fiveB, ← h5, h]; rfl
      (repeat ((conv => arg 2; whnf); first | refine wp_ite (fun _ => ?_) (fun h => Bool.noConfusion h) | refine wp_ite (fun h => Bool.noConfusion h) (fun _ => ?_)))
      (conv => arg 2; whnf); refine wp_pc fs ?_
      (conv => arg 2; whnf); refine wp_ite (fun ht => ?_) (fun ht => ?_)
      · (conv => arg 2; whnf); refine w_ret1 rfl (Vle.eq (hit h5' (hq.symm.trans ht))) (List.nil_sublist _) rfl
      · (conv => arg 2; whnf)
        exact wp_leaf (loop_next (9 - (k + 1)) _ _ (by omega) (.cons (.refl _) (.cons (Vle.viaR (cI64 eI3) rfl) (.nil _))) (List.Sublist.refl _) ⟨k + 1, rfl, by omega, rfl, next (fun _ => of_decide_eq_false (hq.symm.trans ht)), rfl⟩)
    · (conv => arg 2; whnf); refine wp_ite (fun h' => ?_) (fun h' => ?_)
      · have h5' : fiveB w = true := by rw [fiveB, ← h4, h', Bool.or_true]
        (conv => arg 2; whnf); refine wp_pc fs ?_
        (conv => arg 2; whnf); refine wp_ite (fun ht => ?_) (fun ht => ?_)
        · (conv => arg 2; whnf); refine w_ret1 rfl (Vle.eq (hit h5' (hq.symm.trans ht))) (List.nil_sublist _) rfl
        · (conv => arg 2; whnf)
          exact wp_leaf (loop_next (9 - (k + 1)) _ _ (by omega) (.cons (.refl _) (.cons (Vle.viaR (cI64 eI3) rfl) (.nil _))) (List.Sublist.refl _) ⟨k + 1, rfl, by omega, rfl, next (fun _ => of_decide_eq_false (hq.symm.trans ht)), rfl⟩)
      · have h5' : fiveB w = false := by rw [fiveB, ← h4, ← h5, h, h']; rfl
        (repeat ((conv => arg 2; whnf); first | refine wp_ite (fun _ => ?_) (fun h => Bool.noConfusion h) | refine wp_ite (fun h => Bool.noConfusion h) (fun _ => ?_)))
        (conv => arg 2; whnf)
        exact wp_leaf (loop_next (9 - (k + 1)) _ _ (by omega) (.cons (.refl _) (.cons (Vle.viaR (cI64 eI3) rfl) (.nil _))) (List.Sublist.refl _) ⟨k + 1, rfl, by omega, rfl, next (fun h => by rw [h5'] at h; cases h), rfl⟩)
  · have hk9 : k = 9 := by have := of_decide_eq_false h; omega
    subst hk9
    have h0 : i64V 0 = i64V (osW w) := by rw [os_miss (w := w) hI]
    (conv => arg 2; whnf)
    refine wp_leaf (loop_exit ?_)
    (conv => arg 2; whnf); refine w_ret1 rfl (Vle.eq h0) (List.nil_sublist _) rfl
end Go.Sv
