/- pasternlaw7.WordBlanks. -/
import Derived.Test.YtdkbdmfhidimmaaDoorKnown7
import Derived.Test.YtdkbdmfhidimmaaDoorWBlanks0
namespace Go.Sv
open Go Go.Proofs

def bsl (l : List UInt8) : V := .sl none (l.map byteV) .no
def kkAt (ks : List UInt8) (i : Nat) : Nat := (ks.getD i 0).toNat % 12
def bbAt (bs : List UInt8) (i : Nat) : Nat := if i < bs.length then (bs.getD i 0).toNat % 4 else 0
def segs (ks : List UInt8) (f : Nat → Nat) : Nat → List (Nat × Nat)
  | 0 => []
  | n + 1 => segs ks f n ++ [(kkAt ks n, f n)]
theorem segs_length (ks : List UInt8) (f : Nat → Nat) : ∀ n, (segs ks f n).length = n
  | 0 => rfl
  | n + 1 => by rw [segs, List.length_append, segs_length ks f n]; rfl
theorem segs_lt (ks : List UInt8) (f : Nat → Nat) : ∀ n, ∀ p ∈ segs ks f n, p.1 < 12
  | 0, p, h => by cases h
  | n + 1, p, h => by
    rcases List.mem_append.1 h with h | h
    · exact segs_lt ks f n p h
    · rw [List.mem_singleton.1 h]; exact Nat.mod_lt _ (by decide)
theorem segs_get (ks : List UInt8) (f : Nat → Nat) : ∀ n i, i < n → (segs ks f n)[i]? = some (kkAt ks i, f i)
  | 0, i, h => by omega
  | n + 1, i, h => by
    rw [segs]
    by_cases hi : i < n
    · rw [List.getElem?_append_left (by rw [segs_length]; exact hi)]; exact segs_get ks f n i hi
    · have : i = n := by omega
      subst this
      rw [List.getElem?_append_right (by rw [segs_length]; exact Nat.le_refl _), segs_length, Nat.sub_self]; rfl
theorem bw_le (k : Nat) (h : k < 12) : (bw k).length ≤ 5 := by
  have : k = 0 ∨ k = 1 ∨ k = 2 ∨ k = 3 ∨ k = 4 ∨ k = 5 ∨ k = 6 ∨ k = 7 ∨ k = 8 ∨ k = 9 ∨ k = 10 ∨ k = 11 := by omega
  rcases this with rfl | rfl | rfl | rfl | rfl | rfl | rfl | rfl | rfl | rfl | rfl | rfl <;> decide
theorem segs_le (ks : List UInt8) (f : Nat → Nat) (hf : ∀ i, f i ≤ 3) : ∀ n, (bText (segs ks f n)).length ≤ 9 * n
  | 0 => Nat.le_refl _
  | n + 1 => by
    have h1 := segs_le ks f hf n
    have h2 := bw_le (kkAt ks n) (Nat.mod_lt _ (by decide))
    have h3 := hf n
    rw [segs, bText_app]
    simp only [List.length_append, List.length_cons, List.length_replicate]
    omega
theorem bbAt_le (bs : List UInt8) (i : Nat) : bbAt bs i ≤ 3 := by unfold bbAt; split <;> omega
theorem addStr2 {v : V} (a b c : List UInt8) (h : v = V.c (.string ((S a ++ S b) ++ S c))) : Vle v (str (a ++ (b ++ c))) := by rw [S_append, S_append, List.append_assoc] at h; exact Vle.eq h
def atW (l : List Wd) (i : Nat) : Wd := l.getD i wd0
theorem atW_get {l : List Wd} {i : Nat} (h : i < l.length) : l[i]? = some (atW l i) := by
  rw [List.getElem?_eq_getElem h, atW, List.getD_eq_getElem?_getD, List.getElem?_eq_getElem h]; rfl
theorem addStrE {v : V} (a b : List UInt8) {c : List UInt8} (h : v = V.c (.string (S a ++ S b))) (e : a ++ b = c) : Vle v (str c) := by subst e; exact addStr a b h
theorem getD_str (l : List (List UInt8)) {k : Nat} (h : k < l.length) : (l.map str).getD k .undef = str (l.getD k []) := by
  rw [List.getD_eq_getElem?_getD, List.getElem?_map, List.getD_eq_getElem?_getD, List.getElem?_eq_getElem h]; rfl

set_option maxRecDepth 100000 in
set_option maxHeartbeats 2000000 in
theorem wblanks_law (ks bs : List UInt8) : PCall Tryd.prog 3 [bsl ks, bsl bs] (bV true) := by
  refine scall_of (live := []) (ords := [(5, []), (10, []), (11, []), (15, []), (16, []), (17, []), (19, [])]) Tryd.func3 rfl (by kernel_rfl) (by kernel_rfl) (Nat.le_of_ble_eq_true rfl) ?_
  (conv => arg 2; whnf); refine wp_pcall known7_call ?_
  (conv => arg 2; whnf); refine wp_ite (fun h => by first | cases h | (simp at h; done)) (fun _ => ?_)
  (conv => arg 2; whnf); refine wp_ite (fun h40 => ?_) (fun h40 => ?_)
  · (conv => arg 2; whnf); refine w_retp rfl (.refl _)
  have h40 : ks.length ≤ 40 := by have := of_decide_eq_false h40; rw [List.length_map] at this; omega
  (conv => arg 2; whnf); refine wp_cutR (frL [(0, bsl ks), (1, bsl bs)]) [] (.cons (.refl _) (.cons (.refl _) (.nil _))) (List.Sublist.refl _) ?_
  (conv => arg 2; whnf); refine wp_loop (fun m fr R => ∃ i : Nat, m = ks.length - i ∧ i ≤ ks.length ∧ R = [] ∧ fr = frL [(0, bsl ks), (1, bsl bs), (5, str (bText (segs ks (fun _ => 0) i))), (6, str (bText (segs ks (bbAt bs) i))), (7, i64V i)])
    ks.length _ _ (.cons (.refl _) (.cons (.refl _) (.cons (.refl _) (.cons (.refl _) (.cons (.refl _) (.nil _)))))) (List.Sublist.refl _) ⟨0, rfl, Nat.zero_le _, rfl, rfl⟩ ?_
  rintro m fr R ⟨i, rfl, hi, rfl, rfl⟩
  (conv => arg 2; whnf); refine wp_ite (fun h => ?_) (fun h => ?_)
  · have h : i < ks.length := by have := of_decide_eq_true h; rw [List.length_map] at this; omega
    obtain ⟨x, hx⟩ : ∃ x, ks[i]? = some x := ⟨_, List.getElem?_eq_getElem h⟩
    have hg : (ks.map byteV)[i]? = some (byteV x) := by rw [List.getElem?_map, hx]; rfl
    obtain ⟨k, hk⟩ : ∃ k, k = kkAt ks i := ⟨_, rfl⟩
    have hk12 : k < 12 := by rw [hk]; exact Nat.mod_lt _ (by decide)
    have hkx : (x.toNat : Int).tmod 12 = (k : Int) := by
      rw [hk, kkAt, List.getD_eq_getElem?_getD, hx]; exact tmod_nat _ 12
    have hpv : (bkW.map str).getD (Int.toNat ((x.toNat : Int).tmod 12)) .undef = str (bw k) := by
      rw [hkx, Int.toNat_natCast]; exact getD_str bkW hk12
    obtain ⟨w, hw⟩ : ∃ w, w = bw k := ⟨_, rfl⟩
    rw [← hw] at hpv
    have hwl : w.length ≤ 5 := by rw [hw]; exact bw_le k hk12
    have hs1 := segs_le ks (fun _ => 0) (fun _ => Nat.zero_le _) i
    have ht1 := segs_le ks (bbAt bs) (bbAt_le bs) i
    have es : bText (segs ks (fun _ => 0) (i + 1)) = bText (segs ks (fun _ => 0) i) ++ (32 :: w) := by
      rw [segs, bText_app, ← hk, ← hw]; simp
    have et : bText (segs ks (bbAt bs) (i + 1)) = bText (segs ks (bbAt bs) i) ++ (32 :: w) ++ List.replicate (bbAt bs i) 32 := by
      rw [segs, bText_app, ← hk, ← hw, List.append_assoc]
    generalize bText (segs ks (fun _ => 0) i) = s1 at *
    generalize bText (segs ks (bbAt bs) i) = t1 at *
    clear hw
    (conv => arg 2; whnf); refine wp_elem i (byteV x) rfl hg (Vle.refl _) ?_
    (conv => arg 2; whnf); refine wp_need (by rw [hkx]; show 0 ≤ (k : Int) ∧ (k : Int) < 12 ∧ 12 ≤ 12; omega) ?_
    (conv => arg 2; whnf); refine wp_cutR (frL [(0, bsl ks), (1, bsl bs), (5, str s1), (6, str t1), (7, i64V i), (8, str w)]) [] (.cons (.refl _) (.cons (.refl _) (.cons (.refl _) (.cons (.refl _) (.cons (.refl _) (.cons (Vle.of _ rfl hpv) (.nil _))))))) (List.Sublist.refl _) ?_
    (conv => arg 2; whnf); refine wp_need (by rw [S_size]; show _ + 1 ≤ _; omega) ?_
    (conv => arg 2; whnf); refine wp_need (by rw [show (⟨#[32]⟩ : ByteArray) = S [32] from rfl, S_append, S_size, S_size, List.length_append]; show _ + 1 + _ ≤ _; omega) ?_
    (conv => arg 2; whnf); refine wp_need (by rw [S_size]; show _ + 1 ≤ _; omega) ?_
    (conv => arg 2; whnf); refine wp_need (by rw [show (⟨#[32]⟩ : ByteArray) = S [32] from rfl, S_append, S_size, S_size, List.length_append]; show _ + 1 + _ ≤ _; omega) ?_
    (conv => arg 2; whnf); refine wp_cutR (frL [(0, bsl ks), (1, bsl bs), (5, str (s1 ++ ([32] ++ w))), (6, str (t1 ++ ([32] ++ w))), (7, i64V i)]) [] (.cons (.refl _) (.cons (.refl _) (.cons (addStr2 s1 [32] w rfl) (.cons (addStr2 t1 [32] w rfl) (.cons (.refl _) (.nil _)))))) (List.Sublist.refl _) ?_
    have hbq : bbAt bs i ≤ 3 := bbAt_le bs i
    (conv => arg 2; whnf); refine wp_loop (fun m fr R => ∃ q : Nat, m = bbAt bs i - q ∧ q ≤ bbAt bs i ∧ R = [] ∧ fr = frL [(0, bsl ks), (1, bsl bs), (5, str (s1 ++ ([32] ++ w))), (6, str (t1 ++ ([32] ++ w) ++ List.replicate q 32)), (7, i64V i), (9, i64V q)])
      (bbAt bs i) _ [] (.cons (.refl _) (.cons (.refl _) (.cons (.refl _) (.cons (Vle.of (str (t1 ++ ([32] ++ w))) rfl (congrArg str (List.append_nil _).symm)) (.cons (.refl _) (.cons (.refl _) (.nil _))))))) (List.Sublist.refl _) ⟨0, rfl, Nat.zero_le _, rfl, rfl⟩ ?_
    rintro m fr R ⟨q, rfl, hq, rfl, rfl⟩
    have hbl : (t1 ++ ([32] ++ w) ++ List.replicate q 32).length ≤ 1000 := by simp; omega
    (conv => arg 2; whnf); refine wp_ite (fun hb => ?_) (fun hb => ?_)
    · have hb : i < bs.length := by have := of_decide_eq_true hb; rw [List.length_map] at this; omega
      obtain ⟨y, hy⟩ : ∃ y, bs[i]? = some y := ⟨_, List.getElem?_eq_getElem hb⟩
      have hgy : (bs.map byteV)[i]? = some (byteV y) := by rw [List.getElem?_map, hy]; rfl
      have hby : IntKind.i64.wrap ((y.toNat : Int).tmod 4) = (bbAt bs i : Int) := by
        have e1 : ((y.toNat : Int).tmod 4) = ((y.toNat % 4 : Nat) : Int) := tmod_nat _ 4
        rw [e1, bbAt, if_pos hb, List.getD_eq_getElem?_getD, hy]
        exact w_i64_small (by omega) (by omega)
      (conv => arg 2; whnf); refine wp_elem i (byteV y) rfl hgy (Vle.refl _) ?_
      (conv => arg 2; whnf); refine wp_ite (fun hq2 => ?_) (fun hq2 => ?_)
      · have hq2 : q < bbAt bs i := by rw [hby] at hq2; have := of_decide_eq_true hq2; omega
        (conv => arg 2; whnf); refine wp_need (by rw [S_size]; show _ + 1 ≤ _; omega) ?_
        (conv => arg 2; whnf)
        refine wp_leaf (loop_next (bbAt bs i - (q + 1)) _ [] (by omega) (.cons (.refl _) (.cons (.refl _) (.cons (.refl _) (.cons (addStrE (t1 ++ ([32] ++ w) ++ List.replicate q 32) [32] rfl (by rw [List.replicate_succ']; simp only [List.append_assoc])) (.cons (.refl _) (.cons (Vle.inc q rfl (by omega)) (.nil _))))))) (List.Sublist.refl _) ⟨q + 1, rfl, hq2, rfl, rfl⟩)
      · have hqe : bbAt bs i = q := by rw [hby] at hq2; have := of_decide_eq_false hq2; omega
        (conv => arg 2; whnf)
        refine wp_leaf (loop_exit ?_)
        (conv => arg 2; whnf)
        refine wp_leaf (loop_next (ks.length - (i + 1)) _ [] (by omega) (.cons (.refl _) (.cons (.refl _) (.cons (Vle.of (str (s1 ++ ([32] ++ w))) rfl (congrArg str es.symm)) (.cons (Vle.of (str (t1 ++ ([32] ++ w) ++ List.replicate q 32)) rfl (congrArg str ?_)) (.cons (Vle.inc i rfl (by omega)) (.nil _)))))) (List.Sublist.refl _) ⟨i + 1, rfl, h, rfl, rfl⟩)
        rw [et, hqe]; rfl
    · have hb : ¬ i < bs.length := by have := of_decide_eq_false hb; rw [List.length_map] at this; omega
      have hqe : bbAt bs i = q := by have : bbAt bs i = 0 := by rw [bbAt, if_neg hb]
                                     omega
      (repeat ((conv => arg 2; whnf); first | refine wp_ite (fun _ => ?_) (fun h => Bool.noConfusion h) | refine wp_ite (fun h => Bool.noConfusion h) (fun _ => ?_)))
      (conv => arg 2; whnf)
      refine wp_leaf (loop_exit ?_)
      (conv => arg 2; whnf)
      refine wp_leaf (loop_next (ks.length - (i + 1)) _ [] (by omega) (.cons (.refl _) (.cons (.refl _) (.cons (Vle.of (str (s1 ++ ([32] ++ w))) rfl (congrArg str es.symm)) (.cons (Vle.of (str (t1 ++ ([32] ++ w) ++ List.replicate q 32)) rfl (congrArg str ?_)) (.cons (Vle.inc i rfl (by omega)) (.nil _)))))) (List.Sublist.refl _) ⟨i + 1, rfl, h, rfl, rfl⟩)
      rw [et, hqe]; rfl
  have h : i = ks.length := by have := of_decide_eq_false h; rw [List.length_map] at this; omega
  subst h
  have hs1 := segs_le ks (fun _ => 0) (fun _ => Nat.zero_le _) ks.length
  have ht1 := segs_le ks (bbAt bs) (bbAt_le bs) ks.length
  have c1 := cut_ok (by omega) (cut_bText (segs ks (fun _ => 0) ks.length) (segs_lt ks _ _) (by rw [segs_length]; omega))
  have c2 := cut_ok (by omega) (cut_bText (segs ks (bbAt bs) ks.length) (segs_lt ks _ _) (by rw [segs_length]; omega))
  have l1 := bWords_length (segs ks (fun _ => 0) ks.length) 0
  have l2 := bWords_length (segs ks (bbAt bs) ks.length) 0
  rw [segs_length] at l1 l2
  have hget : ∀ i, i < ks.length → ∃ (n : Nx) (p q : Nat), (bWords 0 (segs ks (fun _ => 0) ks.length))[i]? = some (n.wd p) ∧ (bWords 0 (segs ks (bbAt bs) ks.length))[i]? = some (n.wd q) := fun i hi => by
    obtain ⟨p, h1, _⟩ := bWords_get _ 0 i _ (segs_get ks (fun _ => 0) ks.length i hi)
    obtain ⟨q, h2, _⟩ := bWords_get _ 0 i _ (segs_get ks (bbAt bs) ks.length i hi)
    exact ⟨_, p, q, h1, h2⟩
  have hrise := bWords_rise (segs ks (fun _ => 0) ks.length) 0
  generalize bWords 0 (segs ks (fun _ => 0) ks.length) = A at *
  generalize bWords 0 (segs ks (bbAt bs) ks.length) = B at *
  (conv => arg 2; whnf)
  refine wp_leaf (loop_exit ?_)
  (conv => arg 2; whnf); refine wp_cutR (frL [(0, bsl ks), (5, str (bText (segs ks (fun _ => 0) ks.length))), (6, str (bText (segs ks (bbAt bs) ks.length)))]) [] (.cons (.refl _) (.cons (.refl _) (.cons (.refl _) (.nil _)))) (List.Sublist.refl _) ?_
  (conv => arg 2; whnf); refine wp_pcall c1 ?_
  (conv => arg 2; whnf); refine wp_cutR (frL [(0, bsl ks), (6, str (bText (segs ks (bbAt bs) ks.length))), (10, wslV A), (11, .c .nilIface)]) [] (.cons (.refl _) (.cons (.refl _) (.cons (.refl _) (.cons (.refl _) (.nil _))))) (List.Sublist.refl _) ?_
  (conv => arg 2; whnf); refine wp_pcall c2 ?_
  (conv => arg 2; whnf); refine wp_cutR (frL [(0, bsl ks), (10, wslV A), (11, .c .nilIface), (12, wslV B), (13, .c .nilIface)]) [] (.cons (.refl _) (.cons (.refl _) (.cons (.refl _) (.cons (.refl _) (.cons (.refl _) (.nil _)))))) (List.Sublist.refl _) ?_
  (repeat ((conv => arg 2; whnf); first | refine wp_ite (fun _ => ?_) (fun h => Bool.noConfusion h) | refine wp_ite (fun h => Bool.noConfusion h) (fun _ => ?_)))
  (conv => arg 2; whnf); refine wp_ite (fun h => by rw [List.length_map, List.length_map, l1] at h; simp at h) (fun _ => ?_)
  (conv => arg 2; whnf); refine wp_ite (fun h => by rw [List.length_map, List.length_map, l2] at h; simp at h) (fun _ => ?_)
  (repeat ((conv => arg 2; whnf); first | refine wp_ite (fun _ => ?_) (fun h => Bool.noConfusion h) | refine wp_ite (fun h => Bool.noConfusion h) (fun _ => ?_)))
  (conv => arg 2; whnf); refine wp_cutR (frL [(10, wslV A), (12, wslV B)]) [] (.cons (.refl _) (.cons (.refl _) (.nil _))) (List.Sublist.refl _) ?_
  (conv => arg 2; whnf); refine wp_loop (fun m fr R => ∃ i : Nat, m = ks.length - i ∧ i ≤ ks.length ∧ R = [] ∧ fr = frL [(10, wslV A), (12, wslV B), (14, i64V i)])
    ks.length _ [] (.cons (.refl _) (.cons (.refl _) (.cons (.refl _) (.nil _)))) (List.Sublist.refl _) ⟨0, rfl, Nat.zero_le _, rfl, rfl⟩ ?_
  rintro m fr R ⟨i, rfl, hi, rfl, rfl⟩
  (conv => arg 2; whnf); refine wp_ite (fun h => ?_) (fun h => ?_)
  · have h : i < ks.length := by have := of_decide_eq_true h; rw [List.length_map, l1] at this; omega
    obtain ⟨n, p, q, hA, hB⟩ := hget i h
    have gA : (A.map wdV)[i]? = some (wdV (n.wd p)) := by rw [List.getElem?_map, hA]; rfl
    have gB : (B.map wdV)[i]? = some (wdV (n.wd q)) := by rw [List.getElem?_map, hB]; rfl
    have hpos : decide ((i : Int) > 0) = true → 0 < i := fun h => by have := of_decide_eq_true h; omega
    have hp1 : decide ((i : Int) > 0) = true → (A.map wdV)[i - 1]? = some (wdV (atW A (i - 1))) := fun h => by
      have := hpos h
      rw [List.getElem?_map, atW_get (by omega)]; rfl
    have hp2 : decide ((i : Int) > 0) = true → ¬ decide (((atW A (i - 1)).at_ : Int) ≥ ((n.wd p).at_ : Int)) = true := fun h h2 => by
      have := hpos h
      have h2 := of_decide_eq_true h2
      have hlt := hrise (i - 1) _ _ (atW_get (by omega)) (by rw [show i - 1 + 1 = i by omega]; exact hA)
      omega
    have hp3 : decide ((i : Int) > 0) = true → IntKind.i64.wrap ((i : Int) - 1) = ((i - 1 : Nat) : Int) := fun h => by
      have := hpos h
      exact wsub (by omega) (by omega) (by omega)
    have hi62 : i < 2 ^ 62 := by omega
    have hk0 : (((n.wd p).kind : Int) != ((n.wd q).kind : Int)) = true → False := fun h => by simp [Nx.wd] at h
    have ht0 : (!((S (n.wd p).text).toList == (S (n.wd q).text).toList)) = true → False := fun h => by rw [strEq] at h; simp [Nx.wd] at h
    have hn0 : (((n.wd p).n : Int) != ((n.wd q).n : Int)) = true → False := fun h => by simp [Nx.wd] at h
    have hend : ∀ {K : Exit → Fr → List Res → Prop} (fr : Fr), Weak fr (frL [(10, wslV A), (12, wslV B), (14, i64V ((i + 1 : Nat) : Int))]) → (Tree.leaf .normal fr).wp Tryd.prog [] (loopPost (fun m fr R => ∃ i : Nat, m = ks.length - i ∧ i ≤ ks.length ∧ R = [] ∧ fr = frL [(10, wslV A), (12, wslV B), (14, i64V i)]) (ks.length - i) K) := fun fr hw =>
      wp_leaf (loop_next (ks.length - (i + 1)) _ [] (by omega) hw (List.Sublist.refl _) ⟨i + 1, rfl, h, rfl, rfl⟩)
    clear hget hrise hpos hA hB c1 c2 hs1 ht1 l1 l2
    (conv => arg 2; whnf); refine wp_elem i (wdV (n.wd p)) rfl gA (Vle.refl _) ?_
    (conv => arg 2; whnf); refine wp_elem i (wdV (n.wd q)) rfl gB (Vle.refl _) ?_
    (conv => arg 2; whnf); refine wp_ite (fun h => (hk0 h).elim) (fun _ => ?_)
    (conv => arg 2; whnf); refine wp_elem i (wdV (n.wd p)) rfl gA (Vle.refl _) ?_
    (conv => arg 2; whnf); refine wp_elem i (wdV (n.wd q)) rfl gB (Vle.refl _) ?_
    (conv => arg 2; whnf); refine wp_ite (fun h => (ht0 h).elim) (fun _ => ?_)
    (conv => arg 2; whnf); refine wp_elem i (wdV (n.wd p)) rfl gA (Vle.refl _) ?_
    (conv => arg 2; whnf); refine wp_elem i (wdV (n.wd q)) rfl gB (Vle.refl _) ?_
    (conv => arg 2; whnf); refine wp_ite (fun h => (hn0 h).elim) (fun _ => ?_)
    (conv => arg 2; whnf); refine wp_ite (fun h0 => ?_) (fun h0 => ?_)
    · (conv => arg 2; whnf); refine wp_elem (i - 1) (wdV (atW A (i - 1))) (hp3 h0) (hp1 h0) (Vle.refl _) ?_
      (conv => arg 2; whnf); refine wp_elem i (wdV (n.wd p)) rfl gA (Vle.refl _) ?_
      (conv => arg 2; whnf); refine wp_ite (fun h => (hp2 h0 h).elim) (fun _ => ?_)
      (conv => arg 2; whnf)
      exact hend _ (.cons (.refl _) (.cons (.refl _) (.cons (Vle.inc i rfl hi62) (.nil _))))
    · (repeat ((conv => arg 2; whnf); first | refine wp_ite (fun _ => ?_) (fun h => Bool.noConfusion h) | refine wp_ite (fun h => Bool.noConfusion h) (fun _ => ?_)))
      (conv => arg 2; whnf)
      exact hend _ (.cons (.refl _) (.cons (.refl _) (.cons (Vle.inc i rfl hi62) (.nil _))))
  · (conv => arg 2; whnf)
    refine wp_leaf (loop_exit ?_)
    (conv => arg 2; whnf); refine w_retp rfl (.refl _)
end Go.Sv
