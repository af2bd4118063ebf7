/- The reference's words: numbers, texts. -/
import Derived.Test.YtdkbdmfhidimmaaDoorWord7
import Derived.Test.YtdkbdmfhidimmaaDoorRefWord0
namespace Go.Sv
open Go Go.Proofs

def rnxV : Except Nat Nx → V
  | .ok x => .tup [wdV (x.wd 0), i64V x.len, i64V 0]
  | .error e => .tup [wdV wd0, i64V 0, i64V e]

theorem rdigit_call (c : UInt8) : PCall Tryd.prog 78 [byteV c] (bV (isDg c)) := by
  refine scall_of (live := []) (ords := []) Tryd.func78 rfl (by kernel_rfl) (by kernel_rfl) (Nat.le_of_ble_eq_true rfl) ?_
  (conv => arg 2; whnf); refine wp_ite (fun h => ?_) (fun h => ?_)
  · have h := of_decide_eq_true h
    (conv => arg 2; whnf); refine w_retp rfl (Vle.eq (cBool ?_))
    rw [isDg, decide_eq_true (by omega : 48 ≤ c.toNat), Bool.true_and]
    exact decide_eq_decide.2 (by omega)
  · have h := of_decide_eq_false h
    (conv => arg 2; whnf); refine w_retp rfl (Vle.eq (cBool ?_))
    rw [isDg, decide_eq_false (by omega : ¬ 48 ≤ c.toNat), Bool.false_and]

set_option maxRecDepth 100000 in
set_option maxHeartbeats 1000000 in
theorem rnumber_call (s : List UInt8) (at_ : Nat) (c : UInt8) (hc : s[at_]? = some c) (h : isDg c = true ∨ (c = 45 ∧ at_ + 1 < s.length ∧ isDg ((s.drop (at_ + 1)).headD 0) = true)) (hs : s.length < 2 ^ 40) :
    PCall Tryd.prog 79 [str s, i64V at_] (rnxV (numR (s.drop at_))) := by
  have hat := (List.getElem?_eq_some_iff.1 hc).1
  obtain ⟨neg, hneg⟩ : ∃ neg : Bool, neg = decide (c = 45) := ⟨_, rfl⟩
  obtain ⟨q, hq⟩ : ∃ q : Nat, q = if neg then 1 else 0 := ⟨_, rfl⟩
  obtain ⟨most, hmost⟩ : ∃ most : Nat, most = if neg then 9223372036854775808 else 9223372036854775807 := ⟨_, rfl⟩
  have hq1 : q ≤ 1 := by rw [hq]; split <;> omega
  have hm1 : 9223372036854775807 ≤ most ∧ most ≤ 9223372036854775808 := by rw [hmost]; split <;> omega
  have hnum : numR (s.drop at_) = if digV 0 ((s.drop (at_ + q)).take (spanN isDg (s.drop (at_ + q)))) ≤ most then .ok ⟨2, [], (if neg then -((digV 0 ((s.drop (at_ + q)).take (spanN isDg (s.drop (at_ + q)))) : Nat) : Int) else (digV 0 ((s.drop (at_ + q)).take (spanN isDg (s.drop (at_ + q)))) : Nat)), q + spanN isDg (s.drop (at_ + q))⟩ else .error 12 := by
    rcases h with h | ⟨h1, h2, h3⟩
    · have hn : neg = false := by
        rw [hneg]; refine decide_eq_false ?_
        rintro rfl; revert h; decide
      rw [hn] at hq hmost
      simp only [Bool.false_eq_true, if_false] at hq hmost
      subst hq; subst hmost
      rw [hn, Nat.add_zero, drop_at hc, numR_pos h]; simp
    · have hn : neg = true := by rw [hneg, h1]; rfl
      rw [hn] at hq hmost
      simp only [if_true] at hq hmost
      subst hq; subst hmost
      rw [hn, drop_at hc, h1, numR_neg h3 (by intro e; have := congrArg List.length e; simp at this; omega)]; simp
  have hlq : at_ + q ≤ s.length := by omega
  have hkn : (((byteAt (S s) (Int.toNat (at_ : Int))).toNat : Int) == 45) = neg := by rw [hneg, Int.toNat_natCast, byte_at hc]; exact c_int_eq c 45 45 rfl
  refine scall_of (live := []) (ords := [(3, []), (5, []), (9, []), (10, []), (11, []), (13, []), (15, []), (18, [])]) Tryd.func79 rfl (by kernel_rfl) (by kernel_rfl) (Nat.le_of_ble_eq_true rfl) ?_
  (conv => arg 2; whnf); refine wp_allocE (wdL wd0) rfl fun b => ?_
  (conv => arg 2; whnf); refine wp_need (by rw [S_size]; omega) ?_
  (conv => arg 2; whnf); refine wp_cutR (frL [(0, str s), (1, i64V at_), (4, .loc b 0), (7, bV neg), (8, i64V 0)]) _ (.cons (.refl _) (.cons (.refl _) (.cons (.refl _) (.cons (Vle.of _ rfl (cBool hkn)) (.cons (.refl _) (.nil _)))))) (List.Sublist.refl _) ?_
  have hqt : neg = true → (i64V 1 : V) = i64V q := fun h => by rw [hq, h]; rfl
  have hqf : neg = false → (i64V 0 : V) = i64V q := fun h => by rw [hq, h]; rfl
  have hmt : neg = true → V.c (.int .u64 9223372036854775808) = u64V most := fun h => by rw [hmost, h]; rfl
  have hmf : neg = false → V.c (.int .u64 9223372036854775807) = u64V most := fun h => by rw [hmost, h]; rfl
  apply wp_joinT
  case h1 =>
    intro rest
    (conv => arg 2; whnf); refine wp_ite (fun hn => ?_) (fun hn => ?_)
    · (conv => arg 2; whnf)
      exact wp_cutR (frL [(0, str s), (1, i64V at_), (4, .loc b 0), (7, bV neg), (8, i64V q)]) [.obj b (wdL wd0)] (.cons (.refl _) (.cons (.refl _) (.cons (.refl _) (.cons (.refl _) (.cons (Vle.of (i64V 1) rfl (hqt hn)) (.nil _)))))) (List.Sublist.refl _) rest
    · (conv => arg 2; whnf)
      exact wp_cutR (frL [(0, str s), (1, i64V at_), (4, .loc b 0), (7, bV neg), (8, i64V q)]) [.obj b (wdL wd0)] (.cons (.refl _) (.cons (.refl _) (.cons (.refl _) (.cons (.refl _) (.cons (Vle.of (i64V 0) rfl (hqf hn)) (.nil _)))))) (List.Sublist.refl _) rest
  case rest =>
    have hsp0 : spanN isDg (s.drop (at_ + q)) = 0 + spanN isDg (s.drop (at_ + q + 0)) := by simp
    apply wp_joinT
    case h1 =>
      intro rest
      (conv => arg 2; whnf); refine wp_ite (fun hn => ?_) (fun hn => ?_)
      · (conv => arg 2; whnf)
        exact wp_loop (fun m fr R => ∃ i : Nat, m = s.length - i ∧ at_ + q + i ≤ s.length ∧ R = [.obj b (wdL wd0)] ∧ spanN isDg (s.drop (at_ + q)) = i + spanN isDg (s.drop (at_ + q + i)) ∧ digV 0 ((s.drop (at_ + q)).take i) ≤ most ∧ fr = frL [(0, str s), (1, i64V at_), (4, .loc b 0), (7, bV neg), (8, i64V (q + i : Nat)), (9, u64V (digV 0 ((s.drop (at_ + q)).take i))), (10, u64V most)]) s.length _ _ (.cons (.refl _) (.cons (.refl _) (.cons (.refl _) (.cons (.refl _) (.cons (.refl _) (.cons (.refl _) (.cons (Vle.of (V.c (.int .u64 9223372036854775808)) rfl (hmt hn)) (.nil _)))))))) (List.Sublist.refl _) ⟨0, rfl, hlq, rfl, hsp0, Nat.zero_le _, rfl⟩ rest
      · (conv => arg 2; whnf)
        exact wp_loop (fun m fr R => ∃ i : Nat, m = s.length - i ∧ at_ + q + i ≤ s.length ∧ R = [.obj b (wdL wd0)] ∧ spanN isDg (s.drop (at_ + q)) = i + spanN isDg (s.drop (at_ + q + i)) ∧ digV 0 ((s.drop (at_ + q)).take i) ≤ most ∧ fr = frL [(0, str s), (1, i64V at_), (4, .loc b 0), (7, bV neg), (8, i64V (q + i : Nat)), (9, u64V (digV 0 ((s.drop (at_ + q)).take i))), (10, u64V most)]) s.length _ _ (.cons (.refl _) (.cons (.refl _) (.cons (.refl _) (.cons (.refl _) (.cons (.refl _) (.cons (.refl _) (.cons (Vle.of (V.c (.int .u64 9223372036854775807)) rfl (hmf hn)) (.nil _)))))))) (List.Sublist.refl _) ⟨0, rfl, hlq, rfl, hsp0, Nat.zero_le _, rfl⟩ rest
    case rest =>
      rintro m fr R ⟨i, rfl, hi, rfl, hsp, hv, rfl⟩
      have w1 : IntKind.i64.wrap ((at_ : Int) + (q + i : Nat)) = ((at_ + q + i : Nat) : Int) := wadd (by omega) (by omega) (by omega)
      (conv => arg 2; whnf); refine wp_cutR (frL [(0, str s), (1, i64V at_), (4, .loc b 0), (7, bV neg), (8, i64V (q + i : Nat)), (9, u64V (digV 0 ((s.drop (at_ + q)).take i))), (10, u64V most)]) _ (.cons (.refl _) (.cons (.refl _) (.cons (.refl _) (.cons (.refl _) (.cons (.refl _) (.cons (.refl _) (.cons (.refl _) (.nil _)))))))) (List.Sublist.refl _) ?_
      obtain ⟨K, hK⟩ : ∃ K, K = spanN isDg (s.drop (at_ + q)) := ⟨_, rfl⟩
      obtain ⟨u, hu⟩ : ∃ u, u = digV 0 ((s.drop (at_ + q)).take K) := ⟨_, rfl⟩
      rw [← hK, ← hu] at hnum
      have eqi : spanN isDg (s.drop (at_ + q + i)) = 0 → i = K := fun h => by omega
      have eqK : spanN isDg (s.drop (at_ + q + i)) = 0 → i64V (q + i : Nat) = i64V (q + K : Nat) := fun h => by rw [eqi h]
      have eqU : spanN isDg (s.drop (at_ + q + i)) = 0 → u64V (digV 0 ((s.drop (at_ + q)).take i)) = u64V u := fun h => by rw [hu, eqi h]
      have hz1 : decide (IntKind.i64.wrap ((at_ : Int) + (q + i : Nat)) < ((S s).size : Int)) = false → spanN isDg (s.drop (at_ + q + i)) = 0 := fun h => by
        rw [w1] at h
        have := of_decide_eq_false h
        rw [S_size] at this
        rw [List.drop_eq_nil_of_le (by omega)]; rfl
      have hlt : decide (IntKind.i64.wrap ((at_ : Int) + (q + i : Nat)) < ((S s).size : Int)) = true → at_ + q + i < s.length := fun h => by
        rw [w1] at h
        have := of_decide_eq_true h
        rw [S_size] at this; omega
      have hvu : i = K → u ≤ most := fun h => by rw [hu, ← h]; exact hv
      have hzr : spanN isDg (s.drop (at_ + q + i)) = 0 → u ≤ most := fun h => hvu (eqi h)
      clear hvu
      by_cases hend : spanN isDg (s.drop (at_ + q + i)) = 0
      · have hum := hzr hend
        rw [if_pos hum] at hnum
        have hx : ∀ c' : UInt8, s[at_ + q + i]? = some c' → isDg c' = false := fun c' hc' => by
          cases e : isDg c' with
          | false => rfl
          | true => rw [drop_at hc', spanN_cons e] at hend; cases hend
        have hne : decide (IntKind.i64.wrap ((at_ : Int) + (q + i : Nat)) < ((S s).size : Int)) = true → (0 : Int) ≤ IntKind.i64.wrap ((at_ : Int) + (q + i : Nat)) ∧ IntKind.i64.wrap ((at_ : Int) + (q + i : Nat)) < (S s).size := fun h => by
          have := hlt h
          rw [w1, S_size]; omega
        have hget : decide (IntKind.i64.wrap ((at_ : Int) + (q + i : Nat)) < ((S s).size : Int)) = true → ∃ c', s[at_ + q + i]? = some c' := fun h => ⟨_, List.getElem?_eq_getElem (hlt h)⟩
        apply wp_joinT
        case h1 =>
          intro rest
          (conv => arg 2; whnf); refine wp_ite (fun h => ?yes) (fun h => ?no)
          case no =>
            (repeat ((conv => arg 2; whnf); first | refine wp_ite (fun _ => ?_) (fun h => Bool.noConfusion h) | refine wp_ite (fun h => Bool.noConfusion h) (fun _ => ?_)))
            (conv => arg 2; whnf)
            refine wp_leaf (loop_exit ?_)
            (conv => arg 2; whnf)
            exact wp_cutR (frL [(4, .loc b 0), (7, bV neg), (8, i64V (q + K : Nat)), (9, u64V u)]) [.obj b (wdL wd0)] (.cons (.refl _) (.cons (.refl _) (.cons (Vle.of (i64V (q + i : Nat)) rfl (eqK hend)) (.cons (Vle.of (u64V (digV 0 ((s.drop (at_ + q)).take i))) rfl (eqU hend)) (.nil _))))) (List.Sublist.refl _) rest
          case yes =>
            obtain ⟨c', hc'⟩ := hget h
            (conv => arg 2; whnf); refine wp_need (hne h) ?_
            (conv => arg 2; whnf); refine wp_pcallV (.cons (cByteAt hc' w1 rfl) .nil) (rdigit_call c') ?_
            rw [hx c' hc']
            (repeat ((conv => arg 2; whnf); first | refine wp_ite (fun _ => ?_) (fun h => Bool.noConfusion h) | refine wp_ite (fun h => Bool.noConfusion h) (fun _ => ?_)))
            (conv => arg 2; whnf)
            refine wp_leaf (loop_exit ?_)
            (conv => arg 2; whnf)
            exact wp_cutR (frL [(4, .loc b 0), (7, bV neg), (8, i64V (q + K : Nat)), (9, u64V u)]) [.obj b (wdL wd0)] (.cons (.refl _) (.cons (.refl _) (.cons (Vle.of (i64V (q + i : Nat)) rfl (eqK hend)) (.cons (Vle.of (u64V (digV 0 ((s.drop (at_ + q)).take i))) rfl (eqU hend)) (.nil _))))) (List.Sublist.refl _) rest
        case rest =>
          obtain ⟨N, hN⟩ : ∃ N : Int, N = if neg then -((u : Nat) : Int) else (u : Nat) := ⟨_, rfl⟩
          rw [← hN] at hnum
          have hA : neg = true → decide ((u : Int) > 0) = true → IntKind.i64.wrap (IntKind.i64.wrap (0 - IntKind.i64.wrap (IntKind.u64.wrap ((u : Int) - 1))) - 1) = N := fun h h0 => by
            have h0 := of_decide_eq_true h0
            have a1 : IntKind.u64.wrap ((u : Int) - 1) = (u : Int) - 1 := w_u64_small (by omega) (by omega)
            have a2 : IntKind.i64.wrap ((u : Int) - 1) = (u : Int) - 1 := w_i64_small (by omega) (by omega)
            have a3 : IntKind.i64.wrap (0 - ((u : Int) - 1)) = 0 - ((u : Int) - 1) := w_i64_small (by omega) (by omega)
            rw [a1, a2, a3, hN, h, if_pos rfl, w_i64_small (by omega) (by omega)]; omega
          have hB : neg = true → decide ((u : Int) > 0) = false → IntKind.i64.wrap (u : Int) = N := fun h h0 => by
            have h0 := of_decide_eq_false h0
            rw [hN, h, if_pos rfl, w_i64_small (by omega) (by omega)]; omega
          have hC : neg = false → IntKind.i64.wrap (u : Int) = N := fun h => by
            rw [h] at hmost
            simp only [Bool.false_eq_true, if_false] at hmost
            rw [hN, h, if_neg (by decide), w_i64_small (by omega) (by omega)]
          (conv => arg 2; whnf); refine wp_allocE (wdL wd0) rfl fun b2 => ?_
          (conv => arg 2; whnf); refine wp_storeE (cs := wdL wd0) 1 0 (wdL ⟨2, [], IntKind.i64.wrap (u : Int), 0⟩) rfl rfl (VleL.refl _) (Nat.le_refl _) rfl (R' := [.obj b (wdL wd0), .obj b2 (wdL ⟨2, [], IntKind.i64.wrap (u : Int), 0⟩)]) rfl ?_
          apply wp_joinT
          case h1 =>
            intro rest
            (conv => arg 2; whnf); refine wp_ite (fun hn => ?_) (fun hn => ?_)
            · (conv => arg 2; whnf); refine wp_ite (fun h0 => ?_) (fun h0 => ?_)
              · (conv => arg 2; whnf); refine wp_storeE (cs := wdL ⟨2, [], IntKind.i64.wrap (u : Int), 0⟩) 1 2 [i64V N] rfl rfl (.cons (Vle.i64 _ rfl (hA hn h0)) .nil) (Nat.le_of_ble_eq_true rfl) rfl (R' := [.obj b (wdL wd0), .obj b2 (wdL ⟨2, [], N, 0⟩)]) rfl ?_
                (conv => arg 2; whnf)
                exact wp_cutR (frL [(4, .loc b 0), (8, i64V (q + K : Nat)), (12, .loc b2 0)]) [.obj b (wdL wd0), .obj b2 (wdL ⟨2, [], N, 0⟩)] (.cons (.refl _) (.cons (.refl _) (.cons (.refl _) (.nil _)))) (List.Sublist.refl _) rest
              · (conv => arg 2; whnf)
                exact wp_cutR (frL [(4, .loc b 0), (8, i64V (q + K : Nat)), (12, .loc b2 0)]) [.obj b (wdL wd0), .obj b2 (wdL ⟨2, [], N, 0⟩)] (.cons (.refl _) (.cons (.refl _) (.cons (.refl _) (.nil _)))) (by rw [hB hn h0]; exact List.Sublist.refl _) rest
            · (repeat ((conv => arg 2; whnf); first | refine wp_ite (fun _ => ?_) (fun h => Bool.noConfusion h) | refine wp_ite (fun h => Bool.noConfusion h) (fun _ => ?_)))
              (conv => arg 2; whnf)
              exact wp_cutR (frL [(4, .loc b 0), (8, i64V (q + K : Nat)), (12, .loc b2 0)]) [.obj b (wdL wd0), .obj b2 (wdL ⟨2, [], N, 0⟩)] (.cons (.refl _) (.cons (.refl _) (.cons (.refl _) (.nil _)))) (by rw [hC hn]; exact List.Sublist.refl _) rest
          case rest =>
            (conv => arg 2; whnf); refine wp_load (cs := wdL ⟨2, [], N, 0⟩) 1 rfl rfl ?_
            (conv => arg 2; whnf); refine wp_store' 0 rfl (Nat.le_of_ble_eq_true rfl) rfl ?_
            (conv => arg 2; whnf); refine w_ret3cE (cs := wdL ((⟨2, [], N, q + K⟩ : Nx).wd 0)) b 0 0 rfl rfl rfl rfl rfl (.refl _) (.refl _) (.refl _) (by rw [hnum]; rfl)
      · obtain ⟨c', hc'⟩ : ∃ c', s[at_ + q + i]? = some c' := by
          have : at_ + q + i < s.length := by
            rcases Nat.lt_or_ge (at_ + q + i) s.length with h | h
            · exact h
            · exact absurd (by rw [List.drop_eq_nil_of_le h]; rfl) hend
          exact ⟨_, List.getElem?_eq_getElem this⟩
        have hdg : isDg c' = true := by
          cases e : isDg c' with
          | true => rfl
          | false => exact absurd (by rw [drop_at hc', spanN_stop e]) hend
        have hcd : 48 ≤ c'.toNat ∧ c'.toNat ≤ 57 := by simpa [isDg] using hdg
        have hlen := (List.getElem?_eq_some_iff.1 hc').1
        have hspc : spanN isDg (s.drop (at_ + q + i)) = 1 + spanN isDg (s.drop (at_ + q + (i + 1))) := by rw [drop_at hc', spanN_cons hdg, Nat.add_comm]; rfl
        have htk : (s.drop (at_ + q)).take (i + 1) = (s.drop (at_ + q)).take i ++ [c'] := by
          rw [List.take_add_one, List.getElem?_drop, hc']; rfl
        have hval : digV 0 ((s.drop (at_ + q)).take (i + 1)) = digV 0 ((s.drop (at_ + q)).take i) * 10 + (c'.toNat - 48) := by rw [htk, digV_app]
        have hmono : digV 0 ((s.drop (at_ + q)).take (i + 1)) ≤ u := by
          rw [hu]
          have e : (s.drop (at_ + q)).take K = (s.drop (at_ + q)).take (i + 1) ++ ((s.drop (at_ + q)).drop (i + 1)).take (K - (i + 1)) := by
            rw [← List.take_add]; congr 1; omega
          rw [e]; exact digV_mono _ _ _
        obtain ⟨v, hvv⟩ : ∃ v, v = digV 0 ((s.drop (at_ + q)).take i) := ⟨_, rfl⟩
        rw [← hvv] at hv hval ⊢
        obtain ⟨d, hdd⟩ : ∃ d, d = c'.toNat - 48 := ⟨_, rfl⟩
        rw [← hdd] at hval
        have hd9 : d ≤ 9 := by omega
        have e1 : IntKind.u64.wrap (IntKind.u8.wrap ((c'.toNat : Int) - 48)) = (d : Int) := by
          rw [show IntKind.u8.wrap ((c'.toNat : Int) - 48) = (d : Int) by rw [w_u8]; omega, w_u64_small (by omega) (by omega)]
        have e2 : IntKind.u64.wrap ((IntKind.u64.wrap ((most : Int) - (d : Int))).tdiv 10) = (((most - d) / 10 : Nat) : Int) := by
          rw [w_u64_small (n := (most : Int) - d) (by omega) (by omega), Int.tdiv_eq_ediv_of_nonneg (by omega), w_u64_small (by omega) (by omega)]; omega
        have hne : (0 : Int) ≤ IntKind.i64.wrap ((at_ : Int) + (q + i : Nat)) ∧ IntKind.i64.wrap ((at_ : Int) + (q + i : Nat)) < (S s).size := by rw [w1, S_size]; omega
        have hbb : byteAt (S s) (Int.toNat (IntKind.i64.wrap ((at_ : Int) + (q + i : Nat)))) = c' := by rw [w1]; exact byte_at hc'
        (conv => arg 2; whnf); refine wp_ite (fun _ => ?_) (fun h => by rw [w1] at h; have := of_decide_eq_false h; rw [S_size] at this; omega)
        (conv => arg 2; whnf); refine wp_need hne ?_
        (conv => arg 2; whnf); refine wp_pcallV (.cons (cByteAt hc' w1 rfl) .nil) (rdigit_call c') ?_
        rw [hdg]
        (repeat ((conv => arg 2; whnf); first | refine wp_ite (fun _ => ?_) (fun h => Bool.noConfusion h) | refine wp_ite (fun h => Bool.noConfusion h) (fun _ => ?_)))
        (conv => arg 2; whnf); refine wp_cutR (frL [(0, str s), (1, i64V at_), (4, .loc b 0), (7, bV neg), (8, i64V (q + i : Nat)), (9, u64V v), (10, u64V most)]) _ (.cons (.refl _) (.cons (.refl _) (.cons (.refl _) (.cons (.refl _) (.cons (.refl _) (.cons (.refl _) (.cons (.refl _) (.nil _)))))))) (List.Sublist.refl _) ?_
        (conv => arg 2; whnf); refine wp_need hne ?_
        (conv => arg 2; whnf); refine wp_cutR (frL [(0, str s), (1, i64V at_), (4, .loc b 0), (7, bV neg), (8, i64V (q + i : Nat)), (9, u64V v), (10, u64V most), (11, u64V d)]) _ (.cons (.refl _) (.cons (.refl _) (.cons (.refl _) (.cons (.refl _) (.cons (.refl _) (.cons (.refl _) (.cons (.refl _) (.cons (Vle.of _ rfl (cU64 (by rw [hbb]; exact e1))) (.nil _))))))))) (List.Sublist.refl _) ?_
        (conv => arg 2; whnf); refine wp_ite (fun h => ?_) (fun h => ?_)
        · rw [e2] at h
          have h := of_decide_eq_true h
          rw [if_neg (by omega)] at hnum
          (conv => arg 2; whnf); refine wp_store' 0 rfl (Nat.le_of_ble_eq_true rfl) rfl ?_
          (conv => arg 2; whnf)
          refine wp_leaf (loop_ret ?_)
          (conv => arg 2; whnf); refine w_ret3cE (cs := wdL wd0) b 0 0 rfl rfl rfl rfl rfl (.refl _) (.refl _) (.refl _) (by rw [hnum]; rfl)
        · rw [e2] at h
          have h := of_decide_eq_false h
          have hle : v * 10 + d ≤ most := by omega
          have e3 : IntKind.u64.wrap (IntKind.u64.wrap ((v : Int) * 10) + (d : Int)) = ((digV 0 ((s.drop (at_ + q)).take (i + 1)) : Nat) : Int) := by
            rw [hval, w_u64_small (n := (v : Int) * 10) (by omega) (by omega), w_u64_small (by omega) (by omega)]; omega
          (conv => arg 2; whnf); refine wp_cutR (frL [(0, str s), (1, i64V at_), (4, .loc b 0), (7, bV neg), (8, i64V (q + i : Nat)), (9, u64V v), (10, u64V most), (11, u64V d)]) _ (.cons (.refl _) (.cons (.refl _) (.cons (.refl _) (.cons (.refl _) (.cons (.refl _) (.cons (.refl _) (.cons (.refl _) (.cons (.refl _) (.nil _))))))))) (List.Sublist.refl _) ?_
          (conv => arg 2; whnf)
          refine wp_leaf (loop_next (s.length - (i + 1)) _ [.obj b (wdL wd0)] (by omega) (.cons (.refl _) (.cons (.refl _) (.cons (.refl _) (.cons (.refl _) (.cons (Vle.inc (q + i) rfl (by omega)) (.cons (Vle.of (V.c (.int .u64 (IntKind.u64.wrap (IntKind.u64.wrap ((v : Int) * 10) + (d : Int))))) rfl (cU64 e3)) (.cons (.refl _) (.nil _)))))))) (List.Sublist.refl _) ⟨i + 1, rfl, by omega, rfl, by omega, by rw [hval]; exact hle, rfl⟩)
end Go.Sv
