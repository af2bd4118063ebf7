/- Parts of the proof, one behind the other. -/
import Derived.Test.YtonnbjcbjjigiaaGreatDoorMgRowStepTells5
import Derived.Test.YtonnbjcbjjigiaaGreatDoorMgRowStepTells6
import Derived.Test.YtonnbjcbjjigiaaGreatDoorMgRowStepTells4
namespace Go.Sv
open Go Go.Proofs
set_option maxRecDepth 100000 in
theorem isnan_call (n : Int) : PCall Tryz.prog 107 [i64V n] (bV false) := by
  refine scall_of (live := []) (ords := []) Tryz.func107 rfl (by kernel_rfl) (by kernel_rfl) (Nat.le_of_ble_eq_true rfl) ?_
  (conv=>arg 2;whnf);refine w_retp rfl (Vle.eq (cBool (by simp)))
def cmpI (x y : Int) : Int := if x < y then -1 else if x > y then 1 else 0
set_option maxRecDepth 100000 in
theorem compare_call (x y : Int) : PCall Tryz.prog 86 [i64V x, i64V y] (i64V (cmpI x y)) := by
  refine scall_of (live := []) (ords := []) Tryz.func86 rfl (by kernel_rfl) (by kernel_rfl) (Nat.le_of_ble_eq_true rfl) ?_
  (conv=>arg 2;whnf);refine wp_pcall (isnan_call x) ?_
  (conv=>arg 2;whnf);refine wp_pcall (isnan_call y) ?_
  (repeat ((conv=>arg 2;whnf);first|refine wp_it rfl ?_|refine wp_if rfl ?_))
  (conv=>arg 2;whnf);refine wp_ite (fun h1 => ?_) (fun h1 => ?_)
  · have h1 : x < y := of_decide_eq_true h1
    (conv=>arg 2;whnf);refine w_retp rfl (Vle.eq (cI64 (by rw [cmpI, if_pos h1])))
  · have h1 : ¬ x < y := of_decide_eq_false h1
    (conv=>arg 2;whnf);refine wp_ite (fun h2 => ?_) (fun h2 => ?_)
    · have h2 : x > y := of_decide_eq_true h2
      (conv=>arg 2;whnf);refine w_retp rfl (Vle.eq (cI64 (by rw [cmpI, if_neg h1, if_pos h2])))
    · have h2 : ¬ x > y := of_decide_eq_false h2
      (conv=>arg 2;whnf);refine w_retp rfl (Vle.eq (cI64 (by rw [cmpI, if_neg h1, if_neg h2])))
set_option maxRecDepth 100000 in
theorem at1_call (k : Kp) (n : Int) : PCall Tryz.prog 117 [kpV k, i64V n] (i64V (cmpI k.at_ n)) := by
  refine scall_of (live := []) (ords := []) Tryz.func117 rfl (by kernel_rfl) (by kernel_rfl) (Nat.le_of_ble_eq_true rfl) ?_
  (conv=>arg 2;whnf);refine wp_pcall (compare_call k.at_ n) ?_
  (conv=>arg 2;whnf);refine w_retp rfl (Vle.refl _)
theorem kps_at {l : List Kp} {n : Nat} {k : Kp} (h : l[n]? = some k) : (l.map kpV)[n]? = some (.agg (kpC k)) := by rw [List.getElem?_map, h]; rfl
theorem rise_lt {l : List Kp} (h : RiseK l) {i j : Nat} {a b : Kp} (hi : l[i]? = some a) (hj : l[j]? = some b) (hij : i < j) : a.at_ < b.at_ := by
  obtain ⟨h1, rfl⟩ := List.getElem?_eq_some_iff.1 hi
  obtain ⟨h2, rfl⟩ := List.getElem?_eq_some_iff.1 hj
  exact List.pairwise_iff_getElem.1 h i j h1 h2 hij
theorem at_hit {l : List Kp} (h : RiseK l) {n : Nat} {k : Kp} (hk : l[n]? = some k) : atE l k.at_ = some k.e := by
  have hf : l.find? (fun y => decide (y.at_ = k.at_)) = some k := by
    rw [List.find?_eq_some_iff_getElem]
    obtain ⟨h1, rfl⟩ := List.getElem?_eq_some_iff.1 hk
    refine ⟨by simp, n, h1, rfl, fun j hj => ?_⟩
    have := List.pairwise_iff_getElem.1 h j n (by omega) h1 hj
    simp only [Bool.not_eq_true', decide_eq_false_iff_not]
    omega
  rw [atE, hf]; rfl
theorem at_miss {l : List Kp} {t : Int} (h : ∀ (n : Nat) (k : Kp), l[n]? = some k → k.at_ ≠ t) : atE l t = none := by
  rw [atE, List.find?_eq_none.2]
  · rfl
  · intro k hk
    obtain ⟨n, hn⟩ := List.mem_iff_getElem?.1 hk
    simpa using h n k hn
set_option maxRecDepth 100000 in
set_option maxHeartbeats 1000000 in
theorem bsearch_call (l : List Kp) (t : Int) (hl : l.length < 2 ^ 60) (hr : RiseK l) :
    SCall Tryz.prog 116 [kpsV l, i64V t, .fn (.func 117) [] []] [] fun v R' => R' = [] ∧ ∃ i : Nat, ((∃ k, l[i]? = some k ∧ k.at_ = t ∧ v = .tup [i64V i, bV true]) ∨ ((∀ (n : Nat) (k : Kp), l[n]? = some k → k.at_ ≠ t) ∧ v = .tup [i64V i, bV false])) := by
  refine scall_of (live := []) (ords := []) Tryz.func116 rfl (by kernel_rfl) (by kernel_rfl) (Nat.le_of_ble_eq_true rfl) ?_
  (conv=>arg 2;whnf);refine wp_loop (fun m fr R => ∃ i j : Nat, m = j - i ∧ i ≤ j ∧ j ≤ l.length ∧ (∀ (n : Nat) (k : Kp), n < i → l[n]? = some k → k.at_ < t) ∧ (∀ (n : Nat) (k : Kp), j ≤ n → l[n]? = some k → t ≤ k.at_) ∧ R = [] ∧
      fr = frL [(0, kpsV l), (1, i64V t), (2, .fn (.func 117) [] []), (8, i64V l.length), (9, i64V i), (10, i64V j)])
    l.length _ _ (.cons (.refl _) (.cons (.refl _) (.cons (.refl _) (.cons (Vle.i64 _ rfl (by rw [List.length_map])) (.cons (.refl _) (.cons (Vle.i64 _ rfl (by rw [List.length_map])) (.nil _))))))) (List.Sublist.refl _) ⟨0, l.length, rfl, Nat.zero_le _, Nat.le_refl _, (fun n k h => by omega), (fun n k h hk => by have := (List.getElem?_eq_some_iff.1 hk).1; omega), rfl, rfl⟩ ?_
  rintro m fr R ⟨i, j, rfl, hij, hjl, hlo, hhi, rfl, rfl⟩
  (conv=>arg 2;whnf);refine wp_ite (fun h => ?_) (fun h => ?_)
  · have h : i < j := by have := of_decide_eq_true h; omega
    obtain ⟨mid, hmid⟩ : ∃ mid, mid = (i + j) / 2 := ⟨_, rfl⟩
    have hm1 : i ≤ mid := by omega
    have hm2 : mid < j := by omega
    obtain ⟨k, hk⟩ : ∃ k, l[mid]? = some k := ⟨_, List.getElem?_eq_getElem (by omega)⟩
    have w1 : IntKind.i64.wrap ((i : Int) + (j : Int)) = ((i + j : Nat) : Int) := by rw [w_i64_small (by omega) (by omega)]; omega
    have f1 := at1_call k t
    have hidx : IntKind.i64.wrap ((IntKind.u64.wrap (IntKind.i64.wrap ((i : Int) + (j : Int)))).fdiv (2 ^ min (Int.toNat 1) IntKind.u64.bits)) = (mid : Int) := by
      rw [w1, w_u64_small (by omega) (by omega), show ((2 : Int) ^ min (Int.toNat 1) IntKind.u64.bits) = 2 from rfl, Int.fdiv_eq_ediv_of_nonneg _ (by omega), w_i64_small (by omega) (by omega)]
      omega
    (conv=>arg 2;whnf);refine wp_elem mid (kpV k) hidx (kps_at hk) (Vle.refl _) ?_
    (conv=>arg 2;whnf);refine wp_pcall f1 ?_
    by_cases hkt : k.at_ < t
    · have hc : decide (cmpI k.at_ t < 0) = true := by rw [cmpI, if_pos hkt]; rfl
      have w2 : IntKind.i64.wrap (IntKind.i64.wrap ((IntKind.u64.wrap (IntKind.i64.wrap ((i : Int) + (j : Int)))).fdiv (2 ^ min (Int.toNat 1) IntKind.u64.bits)) + 1) = ((mid + 1 : Nat) : Int) := by rw [hidx, w_i64_small (by omega) (by omega)]; omega
      (conv=>arg 2;whnf);refine wp_it hc ?_
      (conv=>arg 2;whnf)
      refine wp_leaf (loop_next (j - (mid + 1)) _ _ (by omega) (.cons (.refl _) (.cons (.refl _) (.cons (.refl _) (.cons (.refl _) (.cons (Vle.i64 _ rfl w2) (.cons (.refl _) (.nil _))))))) (List.Sublist.refl _) ⟨mid + 1, j, rfl, by omega, hjl, fun n y hn hy => ?_, hhi, rfl, rfl⟩)
      by_cases hnm : n = mid
      · subst hnm
        rw [hk] at hy; cases hy; exact hkt
      · have := rise_lt hr hy hk (by omega); omega
    · have hc : decide (cmpI k.at_ t < 0) = false := by
        rw [cmpI, if_neg hkt]
        split <;> rfl
      (conv=>arg 2;whnf);refine wp_if hc ?_
      (conv=>arg 2;whnf)
      refine wp_leaf (loop_next (mid - i) _ _ (by omega) (.cons (.refl _) (.cons (.refl _) (.cons (.refl _) (.cons (.refl _) (.cons (.refl _) (.cons (Vle.i64 _ rfl hidx) (.nil _))))))) (List.Sublist.refl _) ⟨i, mid, rfl, hm1, by omega, hlo, fun n y hn hy => ?_, rfl, rfl⟩)
      by_cases hnm : n = mid
      · subst hnm
        rw [hk] at hy; cases hy; omega
      · have := rise_lt hr hk hy (by omega); omega
  · have h : i = j := by have := of_decide_eq_false h; omega
    subst h
    (conv=>arg 2;whnf)
    refine wp_leaf (loop_exit ?_)
    by_cases hil : i < l.length
    · obtain ⟨k, hk⟩ : ∃ k, l[i]? = some k := ⟨_, List.getElem?_eq_getElem hil⟩
      have f1 := at1_call k t
      (conv=>arg 2;whnf);refine wp_ite (fun _ => ?_) (fun h => absurd (of_decide_eq_false h) (by omega))
      (conv=>arg 2;whnf);refine wp_elem i (kpV k) rfl (kps_at hk) (Vle.refl _) ?_
      (conv=>arg 2;whnf);refine wp_pcall f1 ?_
      by_cases hkt : k.at_ = t
      · have hc : (cmpI k.at_ t == 0) = true := by rw [cmpI, if_neg (by omega), if_neg (by omega)]; rfl
        (conv=>arg 2;whnf);refine w_ret2 rfl (Vle.refl _) (Vle.eq (cBool hc)) (List.nil_sublist _) ⟨rfl, i, .inl ⟨k, hk, hkt, rfl⟩⟩
      · have hc : (cmpI k.at_ t == 0) = false := by
          have := hhi i k (Nat.le_refl _) hk
          rw [cmpI, if_neg (by omega), if_pos (by omega)]; rfl
        have hmiss : ∀ (n : Nat) (y : Kp), l[n]? = some y → y.at_ ≠ t := by
          intro n y hy
          by_cases h1 : n < i
          · have := hlo n y h1 hy; omega
          · by_cases h2 : n = i
            · subst h2
              rw [hk] at hy; cases hy; exact hkt
            · have h3 := hhi i k (Nat.le_refl _) hk
              have := rise_lt hr hk hy (by omega); omega
        (conv=>arg 2;whnf);refine w_ret2 rfl (Vle.refl _) (Vle.eq (cBool hc)) (List.nil_sublist _) ⟨rfl, i, .inr ⟨hmiss, rfl⟩⟩
    · have hmiss : ∀ (n : Nat) (y : Kp), l[n]? = some y → y.at_ ≠ t := by
        intro n y hy
        have h1 := (List.getElem?_eq_some_iff.1 hy).1
        have := hlo n y (by omega) hy; omega
      (conv=>arg 2;whnf);refine wp_ite (fun h => absurd (of_decide_eq_true h) (by omega)) (fun _ => ?_)
      (conv=>arg 2;whnf);refine w_ret2 rfl (Vle.refl _) (Vle.refl _) (List.nil_sublist _) ⟨rfl, i, .inr ⟨hmiss, rfl⟩⟩
def evZ : List V := [str [], i64V 0, .sl none [] .zero]
theorem evZ_vle : VleL evZ (evC ev0) := .cons (.refl _) (.cons (.refl _) (.cons (Vle.nil _ _ _) .nil))
set_option maxRecDepth 100000 in
theorem at_call (l : List Kp) (t : Int) (hl : l.length < 2 ^ 60) (hr : RiseK l) : PCall Tryz.prog 101 [kpsV l, i64V t] (atR (atE l t)) := by
  refine scall_of (live := []) (ords := []) Tryz.func101 rfl (by kernel_rfl) (by kernel_rfl) (Nat.le_of_ble_eq_true rfl) ?_
  (conv=>arg 2;whnf);refine wp_allocE evZ rfl fun c => ?_
  (conv=>arg 2;whnf);refine wp_callF [.obj c evZ] [] [] rfl (bsearch_call l t hl hr) ?_
  rintro v R1 ⟨rfl, i, ⟨k, hk, rfl, rfl⟩ | ⟨hm, rfl⟩⟩
  · have ha := at_hit hr hk
    (repeat ((conv=>arg 2;whnf);first|refine wp_it rfl ?_|refine wp_if rfl ?_))
    (conv=>arg 2;whnf);refine wp_elem i (kpV k) rfl (kps_at hk) (Vle.refl _) ?_
    (conv=>arg 2;whnf);refine wp_storeE (cs := evZ) 0 0 (evC k.e) rfl rfl (VleL.refl _) (Nat.le_refl _) rfl (R' := [.obj c (evC k.e)]) rfl ?_
    (conv=>arg 2;whnf);refine w_ret2ck (R' := []) (a := evV k.e) (u := bV true) c 0 0 rfl rfl rfl rfl rfl (Vle.refl _) (Vle.refl _) (List.nil_sublist _) (by rw [ha]; rfl)
  · have ha := at_miss hm
    (repeat ((conv=>arg 2;whnf);first|refine wp_it rfl ?_|refine wp_if rfl ?_))
    (conv=>arg 2;whnf);refine wp_storeE (cs := evZ) 0 0 (evC ev0) rfl rfl evZ_vle (Nat.le_refl _) rfl (R' := [.obj c (evC ev0)]) rfl ?_
    (conv=>arg 2;whnf);refine w_ret2ck (R' := []) (a := evV ev0) (u := bV false) c 0 0 rfl rfl rfl rfl rfl (Vle.refl _) (Vle.refl _) (List.nil_sublist _) (by rw [ha]; rfl)
theorem nt_at (p : Pa) {n : Nat} (h : n < p.els.length) : ∃ e, p.els[n]? = some e ∧ e.nt = ntAt p.els n ∧ elAt p n = e := by
  refine ⟨p.els[n], List.getElem?_eq_getElem h, ?_, ?_⟩
  · rw [ntAt, List.getD_eq_getElem?_getD, List.getElem?_map, List.getElem?_eq_getElem h]; rfl
  · rw [elAt, List.getD_eq_getElem?_getD, List.getElem?_eq_getElem h]; rfl
theorem next_hit {p : Pa} {k n : Nat} (h : k < n) (hn : n < p.els.length) (hb : ∀ i, k < i → i < n → ntAt p.els i = true) (hx : ntAt p.els n = false) : nextE p k = some n := by
  rw [nextE, List.find?_eq_some_iff_getElem]
  refine ⟨by simp [h, hx], n, by simpa using hn, by simp, fun j hj => ?_⟩
  simp only [List.getElem_range]
  by_cases hkj : k < j
  · simp [hb j hkj hj]
  · simp [hkj]
theorem next_miss {p : Pa} {k : Nat} (hb : ∀ i, k < i → i < p.els.length → ntAt p.els i = true) : nextE p k = none := by
  rw [nextE, List.find?_eq_none]
  intro i hi
  have hi := List.mem_range.1 hi
  by_cases hki : k < i
  · simp [hb i hki hi]
  · simp [hki]
theorem els_at2 {l : List El} {n : Nat} {e : El} (h : l[n]? = some e) : (l.map elV)[n]? = some (.agg (elC e)) := by rw [List.getElem?_map, h]; rfl
set_option maxRecDepth 100000 in
theorem next_call (p : Pa) (k : Nat) (hl : p.els.length < 2 ^ 60) (hk : k < 2 ^ 60) : PCall Tryz.prog 103 [.agg (paC p), i64V k] (i64V (nextI p k)) := by
  refine scall_of (live := []) (ords := []) Tryz.func103 rfl (by kernel_rfl) (by kernel_rfl) (Nat.le_of_ble_eq_true rfl) ?_
  (conv=>arg 2;whnf);refine wp_loop (fun m fr R => ∃ n : Nat, m = p.els.length - n ∧ k < n ∧ n < 2 ^ 61 ∧ (∀ i, k < i → i < n → i < p.els.length → ntAt p.els i = true) ∧ R = [] ∧ fr = frL [(2, .pt (some 4) (.agg (paC p)) 0), (5, i64V n)])
    (p.els.length - (k + 1)) _ _ (.cons (.refl _) (.cons (Vle.inc k rfl (by omega)) (.nil _))) (List.Sublist.refl _) ⟨k + 1, rfl, by omega, by omega, fun i h1 h2 => by omega, rfl, rfl⟩ ?_
  rintro m fr R ⟨n, rfl, hkn, hn61, hall, rfl, rfl⟩
  (conv=>arg 2;whnf);refine wp_ite (fun h => ?_) (fun h => ?_)
  · have h : n < p.els.length := by
      have := of_decide_eq_true h
      rw [List.length_map] at this; omega
    obtain ⟨e, he, hnt, _⟩ := nt_at p h
    (conv=>arg 2;whnf);refine wp_elem n (elV e) rfl (els_at2 he) (Vle.refl _) ?_
    (conv=>arg 2;whnf);refine wp_ite (fun h1 => ?_) (fun h1 => ?_)
    · have h1 : ntAt p.els n = false := by rw [← hnt]; simpa using h1
      have hr : nextI p k = (n : Int) := by rw [nextI, next_hit hkn h (fun i a b => hall i a b (by omega)) h1]
      (conv=>arg 2;whnf)
      refine wp_leaf (loop_ret ?_)
      (conv=>arg 2;whnf);refine w_retp rfl (Vle.eq (cI64 hr.symm))
    · have h1 : ntAt p.els n = true := by rw [← hnt]; simpa using h1
      (conv=>arg 2;whnf)
      refine wp_leaf (loop_next (p.els.length - (n + 1)) _ [] (by omega) (.cons (.refl _) (.cons (Vle.inc n rfl (by omega)) (.nil _))) (List.Sublist.refl _) ⟨n + 1, rfl, by omega, by omega, fun i a b c => ?_, rfl, rfl⟩)
      by_cases hin : i = n
      · rw [hin]; exact h1
      · exact hall i a (by omega) c
  · have h : p.els.length ≤ n := by
      have := of_decide_eq_false h
      rw [List.length_map] at this; omega
    have hr : nextI p k = -1 := by rw [nextI, next_miss fun i a b => hall i a (by omega) b]
    (conv=>arg 2;whnf)
    refine wp_leaf (loop_exit ?_)
    (conv=>arg 2;whnf);refine w_retp rfl (Vle.eq (cI64 hr.symm))
theorem strs_at {l : List (List UInt8)} {n : Nat} {t : List UInt8} (h : l[n]? = some t) : (l.map str)[n]? = some (str t) := by rw [List.getElem?_map, h]; rfl
set_option maxRecDepth 100000 in
theorem indexstr_call (l : List (List UInt8)) (t : List UInt8) (hl : l.length < 2 ^ 60) : SCall Tryz.prog 125 [.sl none (l.map str) .no, str t] [] fun v R' => R' = [] ∧ ∃ i : Int, v = i64V i ∧ decide (i ≥ 0) = l.contains t := by
  refine scall_of (live := []) (ords := []) Tryz.func125 rfl (by kernel_rfl) (by kernel_rfl) (Nat.le_of_ble_eq_true rfl) ?_
  (conv=>arg 2;whnf);refine wp_loop (fun m fr R => ∃ n : Nat, m = l.length - n ∧ n ≤ l.length ∧ R = [] ∧ (l.take n).contains t = false ∧ fr = frL [(0, .sl none (l.map str) .no), (1, str t), (7, i64V l.length), (8, i64V n)])
    l.length _ _ (.cons (.refl _) (.cons (.refl _) (.cons (Vle.i64 _ rfl (by rw [List.length_map])) (.cons (.refl _) (.nil _))))) (List.Sublist.refl _) ⟨0, rfl, Nat.zero_le _, rfl, rfl, rfl⟩ ?_
  rintro m fr R ⟨n, rfl, hn, rfl, ha, rfl⟩
  (conv=>arg 2;whnf);refine wp_ite (fun h => ?_) (fun h => ?_)
  · have h : n < l.length := by have := of_decide_eq_true h; omega
    obtain ⟨y, hy⟩ : ∃ y, l[n]? = some y := ⟨_, List.getElem?_eq_getElem h⟩
    have hs := strEq t y
    (conv=>arg 2;whnf);refine wp_elem n (str y) rfl (strs_at hy) (Vle.refl _) ?_
    (conv=>arg 2;whnf);refine wp_ite (fun h1 => ?_) (fun h1 => ?_)
    · have h1 : t = y := by rw [hs] at h1; simpa using h1
      (conv=>arg 2;whnf)
      refine wp_leaf (loop_ret ?_)
      (conv=>arg 2;whnf);refine w_ret1 rfl (Vle.refl _) (List.nil_sublist _) ⟨rfl, n, rfl, ?_⟩
      rw [decide_eq_true (by omega), eq_comm, List.contains_iff_mem, h1]
      exact List.mem_of_getElem? hy
    · have h1 : t ≠ y := by rw [hs] at h1; simpa using h1
      (conv=>arg 2;whnf)
      refine wp_leaf (loop_next (l.length - (n + 1)) _ _ (by omega) (.cons (.refl _) (.cons (.refl _) (.cons (.refl _) (.cons (Vle.inc n rfl (by omega)) (.nil _))))) (List.Sublist.refl _) ⟨n + 1, rfl, h, rfl, ?_, rfl⟩)
      rw [List.take_add_one, hy]
      simp only [List.contains_eq_mem, List.mem_append, decide_eq_false_iff_not] at ha ⊢
      simp [ha, h1]
  · have h : n = l.length := by have := of_decide_eq_false h; omega
    subst h
    rw [List.take_length] at ha
    (conv=>arg 2;whnf)
    refine wp_leaf (loop_exit ?_)
    (conv=>arg 2;whnf);refine w_ret1 rfl (Vle.refl _) (List.nil_sublist _) ⟨rfl, -1, rfl, by rw [ha]; rfl⟩
set_option maxRecDepth 100000 in
theorem hasstr_call (l : List (List UInt8)) (t : List UInt8) (hl : l.length < 2 ^ 60) : PCall Tryz.prog 118 [.sl none (l.map str) .no, str t] (bV (l.contains t)) := by
  refine scall_of (live := []) (ords := []) Tryz.func118 rfl (by kernel_rfl) (by kernel_rfl) (Nat.le_of_ble_eq_true rfl) ?_
  (conv=>arg 2;whnf);refine wp_call (indexstr_call l t hl) ?_
  rintro v R' ⟨rfl, i, rfl, hi⟩
  (conv=>arg 2;whnf);refine w_retp rfl (Vle.eq (cBool hi))
set_option maxRecDepth 100000 in
theorem alike_call (s : Sc) (hs : ScOk s) (p : Pa) (a b : Ev) : PCall Tryz.prog 104 [scV s, .agg (paC p), evV a, evV b] (bV (alikeE s p a b)) := by
  have f1 := getV_call s hs a p.by_
  have f2 := getV_call s hs b p.by_
  have h0 : ((S p.by_).toList == (⟨#[]⟩ : ByteArray).toList) = decide (p.by_ = []) := nilS
  refine scall_of (live := []) (ords := []) Tryz.func104 rfl (by kernel_rfl) (by kernel_rfl) (Nat.le_of_ble_eq_true rfl) ?_
  (conv=>arg 2;whnf);refine wp_ite (fun h1 => ?_) (fun h1 => ?_)
  · have h1 : p.by_ = [] := by rw [h0] at h1; simpa using h1
    (conv=>arg 2;whnf);refine w_retp rfl (Vle.eq (cBool (by rw [alikeE, decide_eq_true h1]; rfl)))
  have h1 : p.by_ ≠ [] := by rw [h0] at h1; simpa using h1
  cases ha : getV s a p.by_ with
  | none =>
    rw [ha] at f1
    have hr : alikeE s p a b = false := by rw [alikeE, decide_eq_false h1, ha]; rfl
    cases hb : getV s b p.by_ with
    | none =>
      rw [hb] at f2
      (conv=>arg 2;whnf);refine wp_pcall f1 ?_
      (conv=>arg 2;whnf);refine wp_allocE valZ rfl fun c => ?_
      (conv=>arg 2;whnf);refine wp_storeE (cs := valZ) 0 0 (valL val0) rfl rfl (VleL.refl _) (Nat.le_refl _) rfl (R' := [.obj c (valL val0)]) rfl ?_
      (conv=>arg 2;whnf);refine wp_pcall f2 ?_
      (conv=>arg 2;whnf);refine wp_allocE valZ rfl fun d => ?_
      (conv=>arg 2;whnf);refine wp_storeE (cs := valZ) 1 0 (valL val0) rfl rfl (VleL.refl _) (Nat.le_refl _) rfl (R' := [.obj c (valL val0), .obj d (valL val0)]) rfl ?_
      (repeat ((conv=>arg 2;whnf);first|refine wp_it rfl ?_|refine wp_if rfl ?_))
      (conv=>arg 2;whnf);refine w_ret1 rfl (Vle.eq (cBool hr.symm)) (List.nil_sublist _) rfl
    | some y =>
      rw [hb] at f2
      (conv=>arg 2;whnf);refine wp_pcall f1 ?_
      (conv=>arg 2;whnf);refine wp_allocE valZ rfl fun c => ?_
      (conv=>arg 2;whnf);refine wp_storeE (cs := valZ) 0 0 (valL val0) rfl rfl (VleL.refl _) (Nat.le_refl _) rfl (R' := [.obj c (valL val0)]) rfl ?_
      (conv=>arg 2;whnf);refine wp_pcall f2 ?_
      (conv=>arg 2;whnf);refine wp_allocE valZ rfl fun d => ?_
      (conv=>arg 2;whnf);refine wp_storeE (cs := valZ) 1 0 (valL y) rfl rfl (VleL.refl _) (Nat.le_refl _) rfl (R' := [.obj c (valL val0), .obj d (valL y)]) rfl ?_
      (repeat ((conv=>arg 2;whnf);first|refine wp_it rfl ?_|refine wp_if rfl ?_))
      (conv=>arg 2;whnf);refine w_ret1 rfl (Vle.eq (cBool hr.symm)) (List.nil_sublist _) rfl
  | some x =>
    rw [ha] at f1
    cases hb : getV s b p.by_ with
    | none =>
      rw [hb] at f2
      have hr : alikeE s p a b = false := by rw [alikeE, decide_eq_false h1, ha, hb]; rfl
      (conv=>arg 2;whnf);refine wp_pcall f1 ?_
      (conv=>arg 2;whnf);refine wp_allocE valZ rfl fun c => ?_
      (conv=>arg 2;whnf);refine wp_storeE (cs := valZ) 0 0 (valL x) rfl rfl (VleL.refl _) (Nat.le_refl _) rfl (R' := [.obj c (valL x)]) rfl ?_
      (conv=>arg 2;whnf);refine wp_pcall f2 ?_
      (conv=>arg 2;whnf);refine wp_allocE valZ rfl fun d => ?_
      (conv=>arg 2;whnf);refine wp_storeE (cs := valZ) 1 0 (valL val0) rfl rfl (VleL.refl _) (Nat.le_refl _) rfl (R' := [.obj c (valL x), .obj d (valL val0)]) rfl ?_
      (repeat ((conv=>arg 2;whnf);first|refine wp_it rfl ?_|refine wp_if rfl ?_))
      (conv=>arg 2;whnf);refine w_ret1 rfl (Vle.eq (cBool hr.symm)) (List.nil_sublist _) rfl
    | some y =>
      rw [hb] at f2
      have hv := val_eq x y
      have hr : alikeE s p a b = decide (x = y) := by rw [alikeE, decide_eq_false h1, ha, hb]; rfl
      (conv=>arg 2;whnf);refine wp_pcall f1 ?_
      (conv=>arg 2;whnf);refine wp_allocE valZ rfl fun c => ?_
      (conv=>arg 2;whnf);refine wp_storeE (cs := valZ) 0 0 (valL x) rfl rfl (VleL.refl _) (Nat.le_refl _) rfl (R' := [.obj c (valL x)]) rfl ?_
      (conv=>arg 2;whnf);refine wp_pcall f2 ?_
      (conv=>arg 2;whnf);refine wp_allocE valZ rfl fun d => ?_
      (conv=>arg 2;whnf);refine wp_storeE (cs := valZ) 1 0 (valL y) rfl rfl (VleL.refl _) (Nat.le_refl _) rfl (R' := [.obj c (valL x), .obj d (valL y)]) rfl ?_
      (repeat ((conv=>arg 2;whnf);first|refine wp_it rfl ?_|refine wp_if rfl ?_))
      (conv=>arg 2;whnf);refine wp_load (cs := valL x) 0 rfl rfl ?_
      (conv=>arg 2;whnf);refine wp_load (cs := valL y) 1 rfl rfl ?_
      (conv=>arg 2;whnf);refine wp_need valEqB ?_
      (conv=>arg 2;whnf);refine w_ret1 rfl (Vle.eq (cBool (hv.trans hr.symm))) (List.nil_sublist _) rfl
end Go.Sv
namespace Go.Sv
open Go Go.Proofs
def elZ : List V := [str [], .sl none [] .zero, bV false, bV false, i64V 0, i64V 0, i64V 0, str [], str [], str [], .sl none [] .zero]
theorem els_at {l : List El} {n : Nat} {e : El} (h : l[n]? = some e) : (l.map elV)[n]? = some (.agg (elC e)) := by rw [List.getElem?_map, h]; rfl
theorem ntAt_of {l : List El} {n : Nat} {e : El} (h : l[n]? = some e) : ntAt l n = e.nt := by
  rw [ntAt, getDx (a := e.nt)]; rw [List.getElem?_map, h]; rfl
theorem isPa_few {p : Pa} (h : p.els.length < 1) : isPaB p = false := by rw [isPaB, decide_eq_false (by omega : ¬ 1 ≤ p.els.length)]; rfl
theorem isPa_many {p : Pa} (h : 5 < p.els.length) : isPaB p = false := by rw [isPaB, decide_eq_false (by omega : ¬ p.els.length ≤ 5)]; simp
theorem isPa_first {p : Pa} (h : ntAt p.els 0 = true) : isPaB p = false := by rw [isPaB, h]; simp
theorem isPa_last {p : Pa} (h : ntAt p.els (p.els.length - 1) = true) : isPaB p = false := by rw [isPaB, h]; simp
theorem isPa_w0 {p : Pa} (h : p.within < 0) : isPaB p = false := by rw [isPaB, decide_eq_false (by omega : ¬ 0 ≤ p.within)]; simp
theorem isPa_w1 {p : Pa} (h : 1000 < p.within) : isPaB p = false := by rw [isPaB, decide_eq_false (by omega : ¬ p.within ≤ 1000)]; simp
theorem isPa_by {p : Pa} (h : p.by_ ≠ []) (h' : isNm p.by_ = false) : isPaB p = false := by rw [isPaB, h', decide_eq_false h]; simp
theorem isPa_el {p : Pa} {i : Nat} {e : El} (h : p.els[i]? = some e) (h' : okAtB p.els i e = false) : isPaB p = false := by
  have : ((List.range p.els.length).all fun i => okAtB p.els i (p.els.getD i el0)) = false :=
    List.all_eq_false.2 ⟨i, List.mem_range.2 (List.getElem?_eq_some_iff.1 h).1, by rw [getDx h, h']; simp⟩
  rw [isPaB, this]; simp
theorem isPa_end {p : Pa} (h1 : 1 ≤ p.els.length) (h2 : p.els.length ≤ 5) (h3 : ntAt p.els 0 = false) (h4 : ntAt p.els (p.els.length - 1) = false) (h5 : 0 ≤ p.within) (h6 : p.within ≤ 1000) (h7 : p.by_ = [] ∨ isNm p.by_ = true)
    (h8 : ((List.range p.els.length).all fun i => okAtB p.els i (p.els.getD i el0)) = true) : isPaB p = true := by
  rw [isPaB, decide_eq_true h1, decide_eq_true h2, h3, h4, decide_eq_true h5, decide_eq_true h6, h8]
  rcases h7 with h7 | h7 <;> simp [h7]
theorem okAt_el {l : List El} {i : Nat} {e : El} (h : isElB e = false) : okAtB l i e = false := by rw [okAtB, h]; rfl
theorem okAt_twice {l : List El} {i : Nat} {e : El} (h : twiceB l i e.al = true) : okAtB l i e = false := by rw [okAtB, h]; simp
theorem okAt_nt {l : List El} {i : Nat} {e : El} (h : e.nt = true) (h0 : 0 < i) (h' : ntAt l (i - 1) = true) : okAtB l i e = false := by rw [okAtB, h, h', decide_eq_true h0]; simp
theorem okAt_end {l : List El} {i : Nat} {e : El} (h1 : isElB e = true) (h2 : twiceB l i e.al = false) (h3 : (e.nt && (decide (0 < i) && ntAt l (i - 1))) = false) : okAtB l i e = true := by rw [okAtB, h1, h2, h3]; rfl
end Go.Sv
namespace Go.Sv
open Go Go.Proofs
theorem okE_bn (l : List Bn) : ∀ y ∈ l.map bnV, okE (some 4) y := by
  intro y hy
  obtain ⟨b, _, rfl⟩ := List.mem_map.1 hy
  exact ⟨bnC b, rfl, rfl, fun c hc => List.all_eq_true.1 (show (bnC b).all oneV = true from rfl) c hc⟩
theorem bds_at {l : List Bd} {n : Nat} {b : Bd} (h : l[n]? = some b) : (l.map bdV)[n]? = some (.agg (bdC b)) := by rw [List.getElem?_map, h]; rfl
theorem bound_next {p : Pa} {l : List Kp} {b : List Bd} {k n : Nat} {x : Bd} (h : b[n]? = some x) : boundE p l (b.take (n + 1)) k = boundE p l (b.take n) k ++ (if x.elem < k then ((atE l x.at_).map fun e => (⟨(elAt p x.elem).al, e⟩ : Bn)).toList else []) := by
  rw [List.take_add_one, h, boundE, boundE, List.filterMap_append]
  congr 1
  simp only [Option.toList_some, List.filterMap_cons, List.filterMap_nil]
  by_cases hk : x.elem < k
  · rw [if_pos hk, if_pos hk]
    cases atE l x.at_ <;> rfl
  · rw [if_neg hk, if_neg hk]
theorem bound_len (p : Pa) (l : List Kp) (b : List Bd) (k : Nat) : (boundE p l b k).length ≤ b.length := List.length_filterMap_le _ _
def bdZ : List V := bdC bd0
set_option maxRecDepth 100000 in
set_option maxHeartbeats 1000000 in
theorem bound_call (p : Pa) (l : List Kp) (hl : l.length < 2 ^ 60) (hr : RiseK l) (b : List Bd) (hb : b.length < 2 ^ 30) (k : Nat) (hk : k ≤ p.els.length) :
    SCall Tryz.prog 120 [.agg (paC p), kpsV l, bdsV b, i64V k] [] fun v R' => ∃ t : Option Nat, (t = none → boundE p l b k = []) ∧ R' = tokR (some 4) t ∧ v = .sl (shOf (some 4) t) ((boundE p l b k).map bnV) (tkOf t) := by
  refine scall_of (live := [38, 42]) (ords := []) Tryz.func120 rfl (by kernel_rfl) (by kernel_rfl) (Nat.le_of_ble_eq_true rfl) ?_
  (conv=>arg 2;whnf);refine wp_loop (fun m fr R => ∃ (n : Nat) (t : Option Nat), m = b.length - n ∧ n ≤ b.length ∧ (t = none → boundE p l (b.take n) k = []) ∧ R = tokR (some 4) t ∧
      fr = frL [(1, kpsV l), (3, i64V k), (4, .pt (some 4) (.agg (paC p)) 0), (9, .sl (shOf (some 4) t) ((boundE p l (b.take n) k).map bnV) (tkOf t)), (14, bdsV b), (15, i64V b.length), (16, i64V n)])
    b.length _ _ (.cons (.refl _) (.cons (.refl _) (.cons (.refl _) (.cons (.refl _) (.cons (.refl _) (.cons (Vle.i64 _ rfl (by rw [List.length_map])) (.cons (.refl _) (.nil _)))))))) (List.Sublist.refl _) ⟨0, none, rfl, Nat.zero_le _, fun _ => rfl, rfl, rfl⟩ ?_
  rintro m fr R ⟨n, t, rfl, hn, ht, rfl, rfl⟩
  (conv=>arg 2;whnf);refine wp_ite (fun h => ?_) (fun h => ?_)
  · have h : n < b.length := by have := of_decide_eq_true h; omega
    obtain ⟨x, hx⟩ : ∃ x, b[n]? = some x := ⟨_, List.getElem?_eq_getElem h⟩
    have fa := at_call l x.at_ hl hr
    have hnx := bound_next (p := p) (l := l) (k := k) hx
    (conv=>arg 2;whnf);refine wp_elem n (bdV x) rfl (bds_at hx) (Vle.refl _) ?_
    (conv=>arg 2;whnf);refine wp_allocE bdZ rfl fun q => ?_
    (conv=>arg 2;whnf);refine wp_storeE (cs := bdZ) (tokR (some 4) t).length 0 (bdC x) (by simp) rfl (VleL.refl _) (Nat.le_refl _) rfl (R' := [] ++ (tokR (some 4) t ++ [.obj q (bdC x)])) (by simp [splice, bdZ, bdC]) ?_
    (conv=>arg 2;whnf);refine wp_load (cs := bdC x) (tokR (some 4) t).length (by simp) rfl ?_
    cases ha : atE l x.at_ with
    | none =>
      rw [ha] at fa hnx
      have hnx : boundE p l (b.take (n + 1)) k = boundE p l (b.take n) k := by
        rw [hnx]
        split <;> simp
      (conv=>arg 2;whnf);refine wp_pcall fa ?_
      (conv=>arg 2;whnf);refine wp_allocE evZ rfl fun u => ?_
      (conv=>arg 2;whnf);refine wp_storeE (cs := evZ) ((tokR (some 4) t).length + 1) 0 (evC ev0) (by simp) rfl (VleL.refl _) (Nat.le_refl _) rfl (R' := [] ++ (tokR (some 4) t ++ [.obj q (bdC x), .obj u (evC ev0)])) (by simp [splice, evZ, evC]) ?_
      (repeat ((conv=>arg 2;whnf);first|refine wp_it rfl ?_|refine wp_if rfl ?_))
      (conv=>arg 2;whnf)
      exact wp_leaf (loop_next (b.length - (n + 1)) _ (tokR (some 4) t) (by omega) (.cons (.refl _) (.cons (.refl _) (.cons (.refl _) (.cons (Vle.of (.sl (shOf (some 4) t) ((boundE p l (b.take n) k).map bnV) (tkOf t)) rfl (by rw [hnx])) (.cons (.refl _) (.cons (.refl _) (.cons (Vle.inc n rfl (by omega)) (.nil _)))))))) (by simp) ⟨n + 1, t, rfl, h, (fun e => by rw [hnx]; exact ht e), rfl, rfl⟩)
    | some e =>
      rw [ha] at fa hnx
      (conv=>arg 2;whnf);refine wp_pcall fa ?_
      (conv=>arg 2;whnf);refine wp_allocE evZ rfl fun u => ?_
      (conv=>arg 2;whnf);refine wp_storeE (cs := evZ) ((tokR (some 4) t).length + 1) 0 (evC e) (by simp) rfl (VleL.refl _) (Nat.le_refl _) rfl (R' := [] ++ (tokR (some 4) t ++ [.obj q (bdC x), .obj u (evC e)])) (by simp [splice, evZ, evC]) ?_
      (repeat ((conv=>arg 2;whnf);first|refine wp_it rfl ?_|refine wp_if rfl ?_))
      (conv=>arg 2;whnf);refine wp_load (cs := bdC x) (tokR (some 4) t).length (by simp) rfl ?_
      (conv=>arg 2;whnf);refine wp_ite (fun h1 => ?_) (fun h1 => ?_)
      · have h1 : x.elem < k := by have := of_decide_eq_true h1; omega
        rw [if_pos h1] at hnx
        obtain ⟨y, hy, _, hey⟩ := nt_at p (n := x.elem) (by omega)
        rw [hey] at hnx
        have hnx : boundE p l (b.take (n + 1)) k = boundE p l (b.take n) k ++ [⟨y.al, e⟩] := hnx
        have hbl := bound_len p l (b.take n) k
        rw [List.length_take] at hbl
        (conv=>arg 2;whnf);refine wp_load (cs := bdC x) (tokR (some 4) t).length (by simp) rfl ?_
        (conv=>arg 2;whnf);refine wp_elem x.elem (elV y) rfl (els_at2 hy) (Vle.refl _) ?_
        (conv=>arg 2;whnf);refine wp_load (cs := evC e) ((tokR (some 4) t).length + 1) (by simp) rfl ?_
        (conv=>arg 2;whnf);refine wp_append_x (A := []) (B := [.obj q (bdC x), .obj u (evC e)]) (sh := some 4) (t := t) (xs := (boundE p l (b.take n) k).map bnV) (ys := [bnV ⟨y.al, e⟩]) (fun h => by rw [ht h]; rfl) (okE_bn [⟨y.al, e⟩]) (show (_ + 1) * 64 ≤ _ by rw [List.length_map]; omega) (fun t' S' hS => ?_)
        (conv=>arg 2;whnf)
        refine wp_leaf (loop_next (b.length - (n + 1)) _ [.tok t' (some 4)] (by omega) (.cons (.refl _) (.cons (.refl _) (.cons (.refl _) (.cons (Vle.of (.sl (some 4) ((boundE p l (b.take n) k).map bnV ++ [bnV ⟨y.al, e⟩]) (.t t')) rfl ?_) (.cons (.refl _) (.cons (.refl _) (.cons (Vle.inc n rfl (by omega)) (.nil _)))))))) hS ⟨n + 1, some t', rfl, h, (fun e => by cases e), rfl, rfl⟩)
        rw [hnx, List.map_append]; rfl
      · have h1 : ¬ x.elem < k := by have := of_decide_eq_false h1; omega
        rw [if_neg h1, List.append_nil] at hnx
        (conv=>arg 2;whnf)
        exact wp_leaf (loop_next (b.length - (n + 1)) _ (tokR (some 4) t) (by omega) (.cons (.refl _) (.cons (.refl _) (.cons (.refl _) (.cons (Vle.of (.sl (shOf (some 4) t) ((boundE p l (b.take n) k).map bnV) (tkOf t)) rfl (by rw [hnx])) (.cons (.refl _) (.cons (.refl _) (.cons (Vle.inc n rfl (by omega)) (.nil _)))))))) (by simp) ⟨n + 1, t, rfl, h, (fun e => by rw [hnx]; exact ht e), rfl, rfl⟩)
  · have h : n = b.length := by have := of_decide_eq_false h; omega
    rw [h, List.take_length] at ht ⊢
    (conv=>arg 2;whnf)
    refine wp_leaf (loop_exit ?_)
    (conv=>arg 2;whnf);refine w_ret1 rfl (Vle.refl _) (List.Sublist.refl _) ⟨t, ht, rfl, rfl⟩
structure StOkP (p : Pa) : Prop where
  n : p.els.length < 2 ^ 60
  ty : ∀ e ∈ p.els, e.ty.length < 2 ^ 60
  ok : ∀ e ∈ p.els, ExOk 20 e.cond
  rg : ∀ e ∈ p.els, exRg e.cond
  kids : ∀ e ∈ p.els, e.cond.kids.length < 2 ^ 60
def EvRg (e : Ev) : Prop := (∀ v ∈ e.vals, InR v.n) ∧ (-1073741825 ≤ e.ts ∧ e.ts ≤ 1073741825)
structure StOkL (l : List Kp) : Prop where
  n : l.length < 2 ^ 60
  rise : RiseK l
  rg : ∀ k ∈ l, EvRg k.e
theorem at_mem {l : List Kp} {i : Int} {e : Ev} (h : atE l i = some e) : ∃ k ∈ l, k.e = e ∧ k.at_ = i := by
  rw [atE, Option.map_eq_some_iff] at h
  obtain ⟨k, hk, rfl⟩ := h
  exact ⟨k, List.mem_of_find?_eq_some hk, rfl, by simpa using List.find?_some hk⟩
theorem bound_rg {p : Pa} {l : List Kp} (hl : StOkL l) (b : List Bd) (k : Nat) : BnRg (boundE p l b k) := by
  intro y hy v hv
  rw [boundE, List.mem_filterMap] at hy
  obtain ⟨x, _, hx⟩ := hy
  split at hx
  · rw [Option.map_eq_some_iff] at hx
    obtain ⟨e, he, rfl⟩ := hx
    obtain ⟨q, hq, rfl, _⟩ := at_mem he
    exact (hl.rg q hq).1 v hv
  · cases hx
theorem bns_app (xs : List Bn) (y : Bn) (t : Nat) : Vle (.sl (some 4) (xs.map bnV ++ [bnV y]) (.t t)) (bnsV (xs ++ [y])) := by
  rw [bnsV, List.map_append]; exact Vle.sl _ _ _
set_option maxRecDepth 100000 in
set_option maxHeartbeats 1000000 in
theorem takes_call (s : Sc) (hs : ScOk s) (p : Pa) (hp : StOkP p) (l : List Kp) (hl : StOkL l) (b : List Bd) (hb : b.length < 2 ^ 30) (bv : V) (hbv : Vle bv (bdsV b)) (k : Nat) (hk : k < p.els.length) (e : Ev) (he : EvRg e) :
    PCall Tryz.prog 102 [scV s, .agg (paC p), kpsV l, bv, i64V k, evV e] (bV (takesE s p l b k e)) := by
  obtain ⟨y, hy, _, hey⟩ := nt_at p hk
  have hym := List.mem_of_getElem? hy
  have f1 := hasstr_call y.ty e.ty (hp.ty y hym)
  have f2 := bound_call p l hl.n hl.rise b hb k (by omega)
  have hbl := bound_len p l b k
  have f3 := holds_call s hs y.cond (boundE p l b k ++ [⟨y.al, e⟩]) (by rw [List.length_append, List.length_singleton]; omega) (fun z hz v hv => by
    rcases List.mem_append.1 hz with hz | hz
    · exact bound_rg hl b k z hz v hv
    · rw [List.mem_singleton.1 hz] at hv
      exact he.1 v hv) (hp.ok y hym) (hp.rg y hym) (hp.kids y hym)
  have hr : takesE s p l b k e = (y.ty.contains e.ty && holdsE s y.cond (boundE p l b k ++ [⟨y.al, e⟩])) := by rw [takesE, hey]
  refine scall_of (live := [32]) (ords := [(4, [0, 1, 2, 3, 4, 5, 6, 8, 9, 10, 11, 12, 7, 13, 14, 15])]) Tryz.func102 rfl (by kernel_rfl) (by kernel_rfl) (Nat.le_of_ble_eq_true rfl) ?_
  (conv=>arg 2;whnf);refine wp_elem k (elV y) rfl (els_at2 hy) (Vle.refl _) ?_
  (conv=>arg 2;whnf);refine wp_allocE elZ rfl fun q => ?_
  (conv=>arg 2;whnf);refine wp_storeE (cs := elZ) 0 0 (elC y) rfl rfl (VleL.refl _) (Nat.le_refl _) rfl (R' := [.obj q (elC y)]) rfl ?_
  (conv=>arg 2;whnf);refine wp_load (cs := elC y) 0 rfl rfl ?_
  (conv=>arg 2;whnf);refine wp_pcall f1 ?_
  cases hc : y.ty.contains e.ty with
  | false =>
    rw [hc] at hr
    (repeat ((conv=>arg 2;whnf);first|refine wp_it rfl ?_|refine wp_if rfl ?_))
    (conv=>arg 2;whnf);refine w_ret1 rfl (Vle.eq (cBool hr.symm)) (List.nil_sublist _) rfl
  | true =>
    rw [hc, Bool.true_and] at hr
    (repeat ((conv=>arg 2;whnf);first|refine wp_it rfl ?_|refine wp_if rfl ?_))
    (conv=>arg 2;whnf)
    refine wp_cutP (frL [(2, kpsV l), (3, bdsV b), (4, i64V k), (6, .pt (some 1) (scV s) 0), (7, .pt (some 4) (.agg (paC p)) 0), (11, .pt (some 3) (evV e) 0), (13, .pt (some 11) (elV y) 0)]) [] [.obj q (elC y)] (.cons (.refl _) (.cons (.vle hbv) (.cons (.refl _) (.cons (.refl _) (.cons (.refl _) (.cons (.refl _) (.cons (.all (List.Mem.head _) rfl (by decide) (VleL.refl _)) (.nil _)))))))) ?_
    obtain ⟨t, ht⟩ : ∃ t : Nat, t = 0 := ⟨_, rfl⟩
    (conv=>arg 2;whnf);refine wp_callF [] [] [] rfl f2 ?_
    rintro v R' ⟨t, h1, rfl, rfl⟩
    (conv=>arg 2;whnf);refine wp_append_x (A := []) (B := []) (sh := some 4) (t := t) (xs := (boundE p l b k).map bnV) (ys := [bnV ⟨y.al, e⟩]) (fun h => by rw [h1 h]; rfl) (okE_bn [⟨y.al, e⟩]) (show (_ + 1) * 64 ≤ _ by rw [List.length_map]; omega) (fun t' S' hS => ?_)
    (conv=>arg 2;whnf);refine wp_pcV (.cons (.refl _) (.cons (.refl _) (.cons (bns_app _ _ _) .nil))) f3 ?_
    (conv=>arg 2;whnf);refine w_ret1 rfl (Vle.eq (cBool hr.symm)) (List.nil_sublist _) rfl
end Go.Sv
namespace Go.Sv
open Go Go.Proofs
def kpZ : List V := [i64V 0, str [], i64V 0, .sl none [] .zero]
def btL (l : List Kp) (i j : Int) : List (List V) := (betw l i j).map fun k => [kpV k]
theorem filt_at {α : Type} (q : α → Bool) {l : List α} {n : Nat} {k : α} (h : l[n]? = some k) (hq : q k = true) : (l.filter q)[((l.take n).filter q).length]? = some k := by
  have e : l = l.take n ++ k :: l.drop (n + 1) := by rw [← drop_at h, List.take_append_drop]
  have e2 : l.filter q = (l.take n).filter q ++ (k :: l.drop (n + 1)).filter q := by rw [← List.filter_append, ← e]
  rw [e2, List.getElem?_append_right (Nat.le_refl _), Nat.sub_self, List.filter_cons, if_pos hq]; rfl
theorem filt_next {α : Type} (q : α → Bool) {l : List α} {n : Nat} {k : α} (h : l[n]? = some k) : (l.take (n + 1)).filter q = (l.take n).filter q ++ (if q k then [k] else []) := by
  rw [List.take_add_one, h, List.filter_append]
  congr 1
  cases hq : q k <;> simp [hq]
set_option maxRecDepth 100000 in
theorem between_call (l : List Kp) (i j : Int) : PCall Tryz.prog 106 [kpsV l, i64V i, i64V j] (.fn (.func 122) [] [.pt none (kpsV l) 0, .pt none (i64V i) 0, .pt none (i64V j) 0]) := by
  refine scall_of (live := []) (ords := []) Tryz.func106 rfl (by kernel_rfl) (by kernel_rfl) (Nat.le_of_ble_eq_true rfl) ?_
  (conv=>arg 2;whnf);refine w_retp rfl (Vle.eq ?_)
  rfl
set_option maxRecDepth 100000 in
set_option maxHeartbeats 1000000 in
theorem between_iter (l : List Kp) (hl : l.length < 2 ^ 60) (i j : Int) : Iter Tryz.prog 122 [] [.pt none (kpsV l) 0, .pt none (i64V i) 0, .pt none (i64V j) 0] (btL l i j) := by
  refine ⟨⟨_, _, Tryz.func122, rfl, by kernel_rfl⟩, fun y I E R0 h0 hy => ?_⟩
  refine scall_of (live := []) (ords := [(3, [])]) Tryz.func122 rfl (by kernel_rfl) (by kernel_rfl) (Nat.le_of_ble_eq_true rfl) ?_
  (conv=>arg 2;whnf);refine wp_loop (fun m fr R => ∃ n : Nat, m = l.length - n ∧ n ≤ l.length ∧ I (betw (l.take n) i j).length R ∧ fr = frL [(0, .fn (.yield y) [] []), (2, .pt none (i64V i) 0), (3, .pt none (i64V j) 0), (7, kpsV l), (8, i64V l.length), (9, i64V n)])
    l.length _ _ (.cons (.refl _) (.cons (.refl _) (.cons (.refl _) (.cons (.refl _) (.cons (Vle.i64 _ rfl (by rw [List.length_map])) (.cons (.refl _) (.nil _))))))) (List.Sublist.refl _) ⟨0, rfl, Nat.zero_le _, h0, rfl⟩ ?_
  rintro m fr R ⟨n, rfl, hn, hI, rfl⟩
  (conv=>arg 2;whnf);refine wp_ite (fun h => ?_) (fun h => ?_)
  · have h : n < l.length := by have := of_decide_eq_true h; omega
    obtain ⟨k, hk⟩ : ∃ k, l[n]? = some k := ⟨_, List.getElem?_eq_getElem h⟩
    have hnx := filt_next (fun k : Kp => decide (i < k.at_) && decide (k.at_ < j)) hk
    (conv=>arg 2;whnf);refine wp_elem n (kpV k) rfl (kps_at hk) (Vle.refl _) ?_
    (conv=>arg 2;whnf);refine wp_allocE kpZ rfl fun q => ?_
    (conv=>arg 2;whnf);refine wp_storeE (cs := kpZ) R.length 0 (kpC k) (by simp) rfl (VleL.refl _) (Nat.le_refl _) rfl (R' := R ++ [.obj q (kpC k)]) (by simp [splice, kpZ, kpC, evC]) ?_
    (conv=>arg 2;whnf)
    refine wp_cutP (frL [(0, .fn (.yield y) [] []), (2, .pt none (i64V i) 0), (3, .pt none (i64V j) 0), (6, .pt (some 4) (kpV k) 0), (7, kpsV l), (8, i64V l.length), (9, i64V n)]) R [.obj q (kpC k)] (.cons (.refl _) (.cons (.refl _) (.cons (.refl _) (.cons (.all (List.Mem.head _) rfl (by decide) (VleL.refl _)) (.cons (.refl _) (.cons (.refl _) (.cons (.refl _) (.nil _)))))))) ?_
    have skip : (decide (i < k.at_) && decide (k.at_ < j)) = false → I (betw (l.take (n + 1)) i j).length R := by
      intro hq
      rw [betw, hnx, hq]
      simpa [betw] using hI
    (conv=>arg 2;whnf);refine wp_ite (fun h1 => ?_) (fun h1 => ?_)
    · (conv=>arg 2;whnf);refine wp_ite (fun h2 => ?_) (fun h2 => ?_)
      · have hq : (decide (i < k.at_) && decide (k.at_ < j)) = true := by
          rw [Bool.and_eq_true]; exact ⟨h1, h2⟩
        have hp : (btL l i j)[(betw (l.take n) i j).length]? = some [kpV k] := by
          rw [btL, List.getElem?_map]
          have := filt_at (fun k : Kp => decide (i < k.at_) && decide (k.at_ < j)) hk hq
          rw [betw, betw, this]; rfl
        have hlen : (betw (l.take (n + 1)) i j).length = (betw (l.take n) i j).length + 1 := by
          rw [betw, hnx, hq]; simp [betw]
        (conv=>arg 2;whnf);refine wp_yld (hy _ _ _ hp hI) ?_
        rintro b' R' (⟨rfl, hI2⟩ | ⟨rfl, hE⟩)
        · (repeat ((conv=>arg 2;whnf);first|refine wp_it rfl ?_|refine wp_if rfl ?_))
          (conv=>arg 2;whnf)
          refine wp_leaf (loop_next (l.length - (n + 1)) _ R' (by omega) (.cons (.refl _) (.cons (.refl _) (.cons (.refl _) (.cons (.refl _) (.cons (.refl _) (.cons (Vle.inc n rfl (by omega)) (.nil _))))))) (List.Sublist.refl _) ⟨n + 1, rfl, by omega, by rw [hlen]; exact hI2, rfl⟩)
        · (repeat ((conv=>arg 2;whnf);first|refine wp_it rfl ?_|refine wp_if rfl ?_))
          (conv=>arg 2;whnf)
          refine wp_leaf (loop_ret ?_)
          (conv=>arg 2;whnf);refine w_ret0 (R' := R') rfl (List.Sublist.refl _) (.inr hE)
      · (repeat ((conv=>arg 2;whnf);first|refine wp_it rfl ?_|refine wp_if rfl ?_))
        (conv=>arg 2;whnf)
        refine wp_leaf (loop_next (l.length - (n + 1)) _ R (by omega) (.cons (.refl _) (.cons (.refl _) (.cons (.refl _) (.cons (.refl _) (.cons (.refl _) (.cons (Vle.inc n rfl (by omega)) (.nil _))))))) (List.Sublist.refl _) ⟨n + 1, rfl, by omega, skip (by rw [show decide (k.at_ < j) = false from h2, Bool.and_false]), rfl⟩)
    · (repeat ((conv=>arg 2;whnf);first|refine wp_it rfl ?_|refine wp_if rfl ?_))
      (conv=>arg 2;whnf)
      refine wp_leaf (loop_next (l.length - (n + 1)) _ R (by omega) (.cons (.refl _) (.cons (.refl _) (.cons (.refl _) (.cons (.refl _) (.cons (.refl _) (.cons (Vle.inc n rfl (by omega)) (.nil _))))))) (List.Sublist.refl _) ⟨n + 1, rfl, by omega, skip (by rw [show decide (i < k.at_) = false from h1, Bool.false_and]), rfl⟩)
  · have h : n = l.length := by have := of_decide_eq_false h; omega
    subst h
    rw [List.take_length] at hI
    (conv=>arg 2;whnf)
    refine wp_leaf (loop_exit ?_)
    (conv=>arg 2;whnf);refine w_norm0 rfl (List.Sublist.refl _) (.inl (by rw [btL, List.length_map]; exact hI))
theorem first_call (l : List Kp) (hl : StOkL l) (b : List Bd) : ∃ ok, PCall Tryz.prog 101 [kpsV l, i64V (b.headD bd0).at_] (.tup [evV (firstEv l b), bV ok]) := by
  have f := at_call l (b.headD bd0).at_ hl.n hl.rise
  unfold firstEv
  cases h : atE l (b.headD bd0).at_ with
  | none => rw [h] at f; exact ⟨_, f⟩
  | some e => rw [h] at f; exact ⟨_, f⟩
theorem last_at {b : List Bd} (h : b ≠ []) : b[b.length - 1]? = some (lastBd b) := by
  rw [lastBd, ← List.getLast?_eq_getElem?, List.getLast?_eq_some_getLast h, List.getLastD_eq_getLast?, List.getLast?_eq_some_getLast h]; rfl
theorem head_at {b : List Bd} (h : b ≠ []) : b[0]? = some (b.headD bd0) := by
  cases b with
  | nil => exact absurd rfl h
  | cons x l => rfl
theorem bt_get {l : List Kp} {i j : Int} {n : Nat} {args : List V} (h : (btL l i j)[n]? = some args) : ∃ k, (betw l i j)[n]? = some k ∧ k ∈ l ∧ args = [kpV k] := by
  rw [btL, List.getElem?_map, Option.map_eq_some_iff] at h
  obtain ⟨k, hk, rfl⟩ := h
  exact ⟨k, hk, (List.mem_filter.1 (List.mem_of_getElem? hk)).1, rfl⟩
theorem bt_len {l : List Kp} {i j : Int} {n : Nat} {args : List V} (h : (btL l i j)[n]? = some args) : args.length = 1 := by
  obtain ⟨_, _, _, rfl⟩ := bt_get h; rfl
theorem firstEv_rg {l : List Kp} (hl : StOkL l) (b : List Bd) : EvRg (firstEv l b) := by
  unfold firstEv
  cases h : atE l (b.headD bd0).at_ with
  | none => exact ⟨fun v hv => (by cases hv), by decide⟩
  | some e => obtain ⟨k, hk, rfl, _⟩ := at_mem h; exact hl.rg k hk
set_option maxRecDepth 100000 in
set_option maxHeartbeats 2000000 in
theorem guarded_call (s : Sc) (hs : ScOk s) (p : Pa) (hp : StOkP p) (l : List Kp) (hl : StOkL l) (b : List Bd) (hb : b.length < 2 ^ 30) (hb0 : b ≠ []) (x : Bd) (hx : x.elem ≤ p.els.length) (hle : (lastBd b).elem < 2 ^ 60) :
    PCall Tryz.prog 105 [scV s, .agg (paC p), kpsV l, bdsV b, bdV x] (bV (guardE s p l b x)) := by
  obtain ⟨ok, f1⟩ := first_call l hl b
  have hpn := hp.n
  have hblen : 0 < b.length := List.length_pos_iff.2 hb0
  have w0 : IntKind.i64.wrap (((b.map bdV).length : Int) - 1) = ((b.length - 1 : Nat) : Int) := by rw [List.length_map, w_i64_small (by omega) (by omega)]; omega
  refine scall_of (live := []) (ords := [(2, []), (3, [])]) Tryz.func105 rfl (by kernel_rfl) (by kernel_rfl) (Nat.le_of_ble_eq_true rfl) ?_
  (conv=>arg 2;whnf);refine wp_allocE [bV false] rfl fun c => ?_
  (conv=>arg 2;whnf);refine wp_elem (b.length - 1) (bdV (lastBd b)) w0 (bds_at (last_at hb0)) (Vle.refl _) ?_
  (conv=>arg 2;whnf);refine wp_allocE bdZ rfl fun q => ?_
  (conv=>arg 2;whnf);refine wp_storeE (cs := bdZ) 1 0 (bdC (lastBd b)) rfl rfl (VleL.refl _) (Nat.le_refl _) rfl (R' := [.obj c [bV false], .obj q (bdC (lastBd b))]) rfl ?_
  (conv=>arg 2;whnf)
  refine wp_cutP (frL [(5, .pt (some 1) (scV s) 0), (6, .pt (some 4) (.agg (paC p)) 0), (7, .pt none (kpsV l) 0), (8, .pt none (bdsV b) 0), (9, .pt (some 2) (bdV x) 0), (10, .loc c 0), (11, .pt (some 2) (bdV (lastBd b)) 0)]) [.obj c [bV false]] [.obj q (bdC (lastBd b))] (.cons (.refl _) (.cons (.refl _) (.cons (.refl _) (.cons (.refl _) (.cons (.refl _) (.cons (.refl _) (.cons (.all (List.Mem.head _) rfl (by decide) (VleL.refl _)) (.nil _)))))))) ?_
  (conv=>arg 2;whnf);refine wp_elem 0 (bdV (b.headD bd0)) rfl (bds_at (head_at hb0)) (Vle.refl _) ?_
  (conv=>arg 2;whnf);refine wp_pc f1 ?_
  (conv=>arg 2;whnf);refine wp_allocE evZ rfl fun u => ?_
  (conv=>arg 2;whnf);refine wp_storeE (cs := evZ) 1 0 (evC (firstEv l b)) rfl rfl (VleL.refl _) (Nat.le_refl _) rfl (R' := [.obj c [bV false], .obj u (evC (firstEv l b))]) rfl ?_
  (conv=>arg 2;whnf)
  refine wp_cutP (frL [(5, .pt (some 1) (scV s) 0), (6, .pt (some 4) (.agg (paC p)) 0), (7, .pt none (kpsV l) 0), (8, .pt none (bdsV b) 0), (9, .pt (some 2) (bdV x) 0), (10, .loc c 0), (11, .pt (some 2) (bdV (lastBd b)) 0), (12, .pt (some 3) (evV (firstEv l b)) 0)]) [.obj c [bV false]] [.obj u (evC (firstEv l b))] (.cons (.refl _) (.cons (.refl _) (.cons (.refl _) (.cons (.refl _) (.cons (.refl _) (.cons (.refl _) (.cons (.refl _) (.cons (.all (List.Mem.head _) rfl (by decide) (VleL.refl _)) (.nil _))))))))) ?_
  have w1 : IntKind.i64.wrap (((lastBd b).elem : Int) + 1) = (((lastBd b).elem + 1 : Nat) : Int) := by rw [w_i64_small (by omega) (by omega)]; omega
  (conv=>arg 2;whnf);refine wp_allocE [i64V 0] rfl fun d => ?_
  (conv=>arg 2;whnf);refine wp_storeE (cs := [i64V 0]) 1 0 [i64V ((lastBd b).elem + 1 : Nat)] rfl rfl (.cons (Vle.eq (cI64 w1)) .nil) (Nat.le_refl _) rfl (R' := [.obj c [bV false], .obj d [i64V ((lastBd b).elem + 1 : Nat)]]) rfl ?_
  (conv=>arg 2;whnf);refine wp_loop (fun m fr R => ∃ (n d : Nat), m = x.elem - n ∧ (lastBd b).elem < n ∧ n < 2 ^ 61 ∧ (∀ k, k < n → k < x.elem → (decide (k ≤ (lastBd b).elem) || (betw l (lastBd b).at_ x.at_).all fun y => !(takesE s p l b k y.e && alikeE s p (firstEv l b) y.e)) = true) ∧ R = [.obj c [bV false], .obj d [i64V n]] ∧
      fr = frL [(5, .pt (some 1) (scV s) 0), (6, .pt (some 4) (.agg (paC p)) 0), (7, .pt none (kpsV l) 0), (8, .pt none (bdsV b) 0), (9, .pt (some 2) (bdV x) 0), (10, .loc c 0), (11, .pt (some 2) (bdV (lastBd b)) 0), (12, .pt (some 3) (evV (firstEv l b)) 0), (14, .loc d 0)])
    (x.elem - ((lastBd b).elem + 1)) _ _ (.cons (.refl _) (.cons (.refl _) (.cons (.refl _) (.cons (.refl _) (.cons (.refl _) (.cons (.refl _) (.cons (.refl _) (.cons (.refl _) (.cons (.refl _) (.nil _)))))))))) (List.Sublist.refl _) ⟨(lastBd b).elem + 1, d, rfl, by omega, by omega, (fun k h1 h2 => by rw [decide_eq_true (show k ≤ (lastBd b).elem by omega), Bool.true_or]), rfl, rfl⟩ ?_
  clear f1 w0 w1
  rintro m fr R ⟨n, d, rfl, hn, hn2, hall, rfl, rfl⟩
  (conv=>arg 2;whnf);refine wp_load (cs := [i64V n]) 1 rfl rfl ?_
  (conv=>arg 2;whnf);refine wp_ite (fun h => ?_) (fun h => ?_)
  · have h : n < x.elem := by have := of_decide_eq_true h; omega
    have hb2 := between_call l (lastBd b).at_ x.at_
    obtain ⟨A, hA⟩ : ∃ A, A = betw l (lastBd b).at_ x.at_ := ⟨_, rfl⟩
    have hAl : (btL l (lastBd b).at_ x.at_).length = A.length := by rw [hA, btL, List.length_map]
    (conv=>arg 2;whnf);refine wp_pcall hb2 ?_
    (conv=>arg 2;whnf);refine wp_range (between_iter l hl.n (lastBd b).at_ x.at_) (fun i R1 => ∃ T, R1 = .obj c [bV false] :: .obj d [i64V n] :: T ∧ ∀ y ∈ A.take i, (takesE s p l b n y.e && alikeE s p (firstEv l b) y.e) = false) ⟨[], rfl, fun y hy => by simp at hy⟩ (fun i args h => bt_len h) (fun i args R1 hi hJ => ?_) (fun R1 hJ => ?_)
    · obtain ⟨T, rfl, hT⟩ := hJ
      obtain ⟨k, hk, hkl, rfl⟩ := bt_get hi
      rw [← hA] at hk
      have ft := takes_call s hs p hp l hl b hb (bdsV b) (Vle.refl _) n (by omega) k.e (hl.rg k hkl)
      have fa := alike_call s hs p (firstEv l b) k.e
      have nxt : (takesE s p l b n k.e && alikeE s p (firstEv l b) k.e) = false → ∀ y ∈ A.take (i + 1), (takesE s p l b n y.e && alikeE s p (firstEv l b) y.e) = false := by
        intro hf y hy
        rw [List.take_add_one, hk] at hy
        rcases List.mem_append.1 hy with hy | hy
        · exact hT y hy
        · have : y = k := by simpa using hy
          rw [this]; exact hf
      have hit : (takesE s p l b n k.e && alikeE s p (firstEv l b) k.e) = true → guardE s p l b x = false := by
        intro ht
        rw [guardE, List.all_eq_false]
        refine ⟨n, List.mem_range.2 h, ?_⟩
        rw [decide_eq_false (show ¬ n ≤ (lastBd b).elem by omega), Bool.false_or, ← hA, Bool.not_eq_true, List.all_eq_false]
        exact ⟨k, List.mem_of_getElem? hk, by rw [ht]; simp⟩
      (conv=>arg 2;whnf);refine wp_allocE kpZ rfl fun q => ?_
      (conv=>arg 2;whnf);refine wp_storeE (cs := kpZ) (T.length + 2) 0 (kpC k) (by simp) rfl (VleL.refl _) (Nat.le_refl _) rfl (R' := .obj c [bV false] :: .obj d [i64V n] :: (T ++ [.obj q (kpC k)])) (by simp [splice, kpZ, kpC, evC]) ?_
      (conv=>arg 2;whnf);refine wp_load (cs := [i64V n]) 1 rfl rfl ?_
      (conv=>arg 2;whnf);refine wp_load (cs := kpC k) (T.length + 2) (by simp) rfl ?_
      (conv=>arg 2;whnf);refine wp_pcall ft ?_
      cases h1 : takesE s p l b n k.e with
      | false =>
        (repeat ((conv=>arg 2;whnf);first|refine wp_it rfl ?_|refine wp_if rfl ?_))
        (conv=>arg 2;whnf)
        refine wp_leaf ⟨T ++ [.obj q (kpC k)], rfl, nxt (by rw [h1]; rfl)⟩
      | true =>
        (repeat ((conv=>arg 2;whnf);first|refine wp_it rfl ?_|refine wp_if rfl ?_))
        (conv=>arg 2;whnf);refine wp_load (cs := kpC k) (T.length + 2) (by simp) rfl ?_
        (conv=>arg 2;whnf);refine wp_pcall fa ?_
        cases h2 : alikeE s p (firstEv l b) k.e with
        | false =>
          (repeat ((conv=>arg 2;whnf);first|refine wp_it rfl ?_|refine wp_if rfl ?_))
          (conv=>arg 2;whnf)
          refine wp_leaf ⟨T ++ [.obj q (kpC k)], rfl, nxt (by rw [h1, h2]; rfl)⟩
        | true =>
          (repeat ((conv=>arg 2;whnf);first|refine wp_it rfl ?_|refine wp_if rfl ?_))
          (conv=>arg 2;whnf);refine wp_storeE (cs := [bV false]) 0 0 [bV false] rfl rfl (VleL.refl _) (Nat.le_refl _) rfl (R' := .obj c [bV false] :: .obj d [i64V n] :: (T ++ [.obj q (kpC k)])) rfl ?_
          (conv=>arg 2;whnf)
          refine wp_leaf (round_ret (loop_ret ?_))
          (conv=>arg 2;whnf);refine w_ret1c (cs := [bV false]) c 0 0 rfl rfl rfl rfl rfl (Vle.eq (cBool (hit (by rw [h1, h2]; rfl)).symm))
    · obtain ⟨T, rfl, hT⟩ := hJ
      rw [hAl, List.take_length] at hT
      (conv=>arg 2;whnf);refine wp_load (cs := [i64V n]) 1 rfl rfl ?_
      (conv=>arg 2;whnf);refine wp_allocE [i64V 0] rfl fun d' => ?_
      (conv=>arg 2;whnf);refine wp_storeE (cs := [i64V 0]) (T.length + 2) 0 [i64V n] (by simp) rfl (VleL.refl _) (Nat.le_refl _) rfl (R' := .obj c [bV false] :: .obj d [i64V n] :: (T ++ [.obj d' [i64V n]])) (by simp [splice]) ?_
      (conv=>arg 2;whnf);refine wp_load (cs := [i64V n]) (T.length + 2) (by simp) rfl ?_
      (conv=>arg 2;whnf);refine wp_storeE (cs := [i64V n]) (T.length + 2) 0 [i64V (n + 1 : Nat)] (by simp) rfl (.cons (Vle.inc n rfl (by omega)) .nil) (Nat.le_refl _) rfl (R' := .obj c [bV false] :: .obj d [i64V n] :: (T ++ [.obj d' [i64V (n + 1 : Nat)]])) (by simp [splice]) ?_
      (conv=>arg 2;whnf)
      refine wp_leaf (loop_next (x.elem - (n + 1)) _ [.obj c [bV false], .obj d' [i64V (n + 1 : Nat)]] (by omega) (.cons (.refl _) (.cons (.refl _) (.cons (.refl _) (.cons (.refl _) (.cons (.refl _) (.cons (.refl _) (.cons (.refl _) (.cons (.refl _) (.cons (.refl _) (.nil _)))))))))) ?_ ⟨n + 1, d', rfl, by omega, by omega, fun k h1 h2 => ?_, rfl, rfl⟩)
      · exact .cons_cons _ (.cons _ (List.sublist_append_right _ _))
      · by_cases hkn : k = n
        · subst hkn
          rw [Bool.or_eq_true, List.all_eq_true]
          right
          intro y hy
          rw [← hA] at hy
          rw [hT y hy]; rfl
        · exact hall k (by omega) h2
  · have h : x.elem ≤ n := by have := of_decide_eq_false h; omega
    have hg : guardE s p l b x = true := by
      rw [guardE, List.all_eq_true]
      intro k hk
      have := List.mem_range.1 hk
      exact hall k (by omega) this
    (conv=>arg 2;whnf)
    refine wp_leaf (loop_exit ?_)
    (conv=>arg 2;whnf);refine wp_storeE (cs := [bV false]) 0 0 [bV true] rfl rfl (VleL.refl _) (Nat.le_refl _) rfl (R' := [.obj c [bV true], .obj d [i64V n]]) rfl ?_
    (conv=>arg 2;whnf);refine w_ret1c (cs := [bV true]) c 0 0 rfl rfl rfl rfl rfl (Vle.eq (cBool hg.symm))
end Go.Sv
namespace Go.Sv
open Go Go.Proofs
theorem Vle.viaS {v a b : V} (h : a = b) (hv : v = a) : Vle v b := Vle.eq (hv.trans h)
structure BdsOk (p : Pa) (b : List Bd) : Prop where
  n : b.length < 2 ^ 30
  el : ∀ y ∈ b, y.elem < 2 ^ 60
theorem BdsOk.last {p : Pa} {b : List Bd} (h : BdsOk p b) : (lastBd b).elem < 2 ^ 60 := by
  by_cases hb : b = []
  · subst hb; exact Nat.lt_of_le_of_lt (Nat.zero_le 0) (by decide)
  · exact h.el _ (List.mem_of_getElem? (last_at hb))
theorem goes_nil {s : Sc} {p : Pa} {l : List Kp} {x : Bd} {e : Ev} (he : atE l x.at_ = some e) (hlen : ¬ p.els.length ≤ x.elem) : goesE s p l [] x = (decide (x.elem = 0) && takesE s p l [] 0 e) := by
  rw [goesE, he]; exact (if_neg hlen).trans (if_pos rfl)
theorem goes_cons {s : Sc} {p : Pa} {l : List Kp} {b : List Bd} {x : Bd} {e : Ev} (he : atE l x.at_ = some e) (hlen : ¬ p.els.length ≤ x.elem) (hb : b ≠ []) : goesE s p l b x = (if x.at_ ≤ (lastBd b).at_ then false
    else if sameE p b x = false ∧ nextI p (lastBd b).elem ≠ x.elem then false
    else if e.ts - (firstEv l b).ts > p.within then false
    else alikeE s p (firstEv l b) e && (takesE s p l b x.elem e && (sameE p b x || guardE s p l b x))) := by
  rw [goesE, he]; exact (if_neg hlen).trans (if_neg hb)
set_option maxRecDepth 100000 in
set_option maxHeartbeats 2000000 in
theorem goes_call (s : Sc) (hs : ScOk s) (p : Pa) (hp : StOkP p) (l : List Kp) (hl : StOkL l) (b : List Bd) (hb : BdsOk p b) (x : Bd) :
    PCall Tryz.prog 81 [scV s, .agg (paC p), kpsV l, bdsV b, bdV x] (bV (goesE s p l b x)) := by
  have hpn := hp.n
  have hbn := hb.n
  have hlast := hb.last
  have fat := at_call l x.at_ hl.n hl.rise
  refine scall_of (live := []) (ords := [(2, []), (6, []), (7, []), (8, []), (9, []), (11, [])]) Tryz.func81 rfl (by kernel_rfl) (by kernel_rfl) (Nat.le_of_ble_eq_true rfl) ?_
  cases he : atE l x.at_ with
  | none =>
    rw [he] at fat
    have hr : goesE s p l b x = false := by rw [goesE, he]
    (conv=>arg 2;whnf);refine wp_pcall fat ?_
    (conv=>arg 2;whnf);refine wp_allocE evZ rfl fun c => ?_
    (conv=>arg 2;whnf);refine wp_storeE (cs := evZ) 0 0 (evC ev0) rfl rfl (VleL.refl _) (Nat.le_refl _) rfl (R' := [.obj c (evC ev0)]) rfl ?_
    (conv=>arg 2;whnf)
    refine wp_cutP (frL [(12, bV false)]) [] [.obj c (evC ev0)] (.cons (.refl _) (.nil _)) ?_
    (repeat ((conv=>arg 2;whnf);first|refine wp_it rfl ?_|refine wp_if rfl ?_))
    (conv=>arg 2;whnf);refine w_ret1 rfl (Vle.eq (cBool hr.symm)) (List.nil_sublist _) rfl
  | some e =>
    rw [he] at fat
    obtain ⟨ke, hke, hkee, _⟩ := at_mem he
    have herg : EvRg e := hkee ▸ hl.rg ke hke
    (conv=>arg 2;whnf);refine wp_pcall fat ?_
    (conv=>arg 2;whnf);refine wp_allocE evZ rfl fun c => ?_
    (conv=>arg 2;whnf);refine wp_storeE (cs := evZ) 0 0 (evC e) rfl rfl (VleL.refl _) (Nat.le_refl _) rfl (R' := [.obj c (evC e)]) rfl ?_
    (conv=>arg 2;whnf)
    refine wp_cutP (frL [(2, kpsV l), (3, bdsV b), (5, .pt (some 1) (scV s) 0), (6, .pt (some 4) (.agg (paC p)) 0), (9, .pt (some 2) (bdV x) 0), (11, .pt (some 3) (evV e) 0), (12, bV true)]) [] [.obj c (evC e)] (.cons (.refl _) (.cons (.refl _) (.cons (.refl _) (.cons (.refl _) (.cons (.refl _) (.cons (.all (List.Mem.head _) rfl (by decide) (VleL.refl _)) (.cons (.refl _) (.nil _)))))))) ?_
    by_cases hlen : p.els.length ≤ x.elem
    · have hr : goesE s p l b x = false := by rw [goesE, he]; simp only; rw [if_pos hlen]
      have h1 : decide ((x.elem : Int) ≥ (p.els.map elV).length) = true := decide_eq_true (by rw [List.length_map]; omega)
      (repeat ((conv=>arg 2;whnf);first|refine wp_it rfl ?_|refine wp_if rfl ?_))
      (conv=>arg 2;whnf);refine wp_it h1 ?_
      (conv=>arg 2;whnf);refine w_ret1 rfl (Vle.eq (cBool hr.symm)) (List.nil_sublist _) rfl
    · have h1 : decide ((x.elem : Int) ≥ (p.els.map elV).length) = false := decide_eq_false (by rw [List.length_map]; omega)
      (repeat ((conv=>arg 2;whnf);first|refine wp_it rfl ?_|refine wp_if rfl ?_))
      (conv=>arg 2;whnf);refine wp_if h1 ?_
      by_cases hb0 : b = []
      · subst hb0
        have hg := goes_nil (s := s) he hlen
        (repeat ((conv=>arg 2;whnf);first|refine wp_it rfl ?_|refine wp_if rfl ?_))
        (conv=>arg 2;whnf);refine wp_ite (fun h2 => ?_) (fun h2 => ?_)
        · have h2 : x.elem = 0 := by have := of_decide_eq_true h2; omega
          have ft := fun bv hbv => takes_call s hs p hp l hl [] (by decide) bv hbv 0 (by omega) e herg
          rw [decide_eq_true h2, Bool.true_and] at hg
          (conv=>arg 2;whnf);refine wp_pcall (ft _ (Vle.nil _ _ _)) ?_
          (conv=>arg 2;whnf);refine w_ret1 rfl (Vle.eq (cBool hg.symm)) (List.nil_sublist _) rfl
        · have h2 : ¬ x.elem = 0 := by have := of_decide_eq_false h2; omega
          rw [decide_eq_false h2, Bool.false_and] at hg
          (conv=>arg 2;whnf);refine w_ret1 rfl (Vle.eq (cBool hg.symm)) (List.nil_sublist _) rfl
      · have hg := goes_cons (s := s) he hlen hb0
        have hbl : 0 < b.length := List.length_pos_iff.2 hb0
        have h4 : (((b.map bdV).length : Int) == 0) = false := by rw [List.length_map]; exact beq_eq_false_iff_ne.2 (by omega)
        have w0 : IntKind.i64.wrap (((b.map bdV).length : Int) - 1) = ((b.length - 1 : Nat) : Int) := by rw [List.length_map, w_i64_small (by omega) (by omega)]; omega
        obtain ⟨ok, f1⟩ := first_call l hl b
        have hfrg := firstEv_rg hl b
        (repeat ((conv=>arg 2;whnf);first|refine wp_it rfl ?_|refine wp_if rfl ?_))
        (conv=>arg 2;whnf);refine wp_if h4 ?_
        (conv=>arg 2;whnf)
        refine wp_cutR (frL [(2, kpsV l), (3, bdsV b), (5, .pt (some 1) (scV s) 0), (6, .pt (some 4) (.agg (paC p)) 0), (9, .pt (some 2) (bdV x) 0), (11, .pt (some 3) (evV e) 0)]) [] (.cons (.refl _) (.cons (.refl _) (.cons (.refl _) (.cons (.refl _) (.cons (.refl _) (.cons (.refl _) (.nil _))))))) (List.Sublist.refl _) ?_
        (conv=>arg 2;whnf);refine wp_elem (b.length - 1) (bdV (lastBd b)) w0 (bds_at (last_at hb0)) (Vle.refl _) ?_
        (conv=>arg 2;whnf);refine wp_allocE bdZ rfl fun q => ?_
        (conv=>arg 2;whnf);refine wp_storeE (cs := bdZ) 0 0 (bdC (lastBd b)) rfl rfl (VleL.refl _) (Nat.le_refl _) rfl (R' := [.obj q (bdC (lastBd b))]) rfl ?_
        (conv=>arg 2;whnf)
        refine wp_cutP (frL [(2, kpsV l), (3, bdsV b), (5, .pt (some 1) (scV s) 0), (6, .pt (some 4) (.agg (paC p)) 0), (9, .pt (some 2) (bdV x) 0), (11, .pt (some 3) (evV e) 0), (13, .pt (some 2) (bdV (lastBd b)) 0)]) [] [.obj q (bdC (lastBd b))] (.cons (.refl _) (.cons (.refl _) (.cons (.refl _) (.cons (.refl _) (.cons (.refl _) (.cons (.refl _) (.cons (.all (List.Mem.head _) rfl (by decide) (VleL.refl _)) (.nil _)))))))) ?_
        (conv=>arg 2;whnf);refine wp_elem 0 (bdV (b.headD bd0)) rfl (bds_at (head_at hb0)) (Vle.refl _) ?_
        (conv=>arg 2;whnf);refine wp_pcall f1 ?_
        (conv=>arg 2;whnf);refine wp_allocE evZ rfl fun u => ?_
        (conv=>arg 2;whnf);refine wp_storeE (cs := evZ) 0 0 (evC (firstEv l b)) rfl rfl (VleL.refl _) (Nat.le_refl _) rfl (R' := [.obj u (evC (firstEv l b))]) rfl ?_
        (conv=>arg 2;whnf)
        refine wp_cutP (frL [(2, kpsV l), (3, bdsV b), (5, .pt (some 1) (scV s) 0), (6, .pt (some 4) (.agg (paC p)) 0), (9, .pt (some 2) (bdV x) 0), (11, .pt (some 3) (evV e) 0), (13, .pt (some 2) (bdV (lastBd b)) 0), (14, .pt (some 3) (evV (firstEv l b)) 0)]) [] [.obj u (evC (firstEv l b))] (.cons (.refl _) (.cons (.refl _) (.cons (.refl _) (.cons (.refl _) (.cons (.refl _) (.cons (.refl _) (.cons (.refl _) (.cons (.all (List.Mem.head _) rfl (by decide) (VleL.refl _)) (.nil _))))))))) ?_
        have hs1 : ((x.elem : Int) == ((lastBd b).elem : Int)) = true → ∃ y, p.els[(lastBd b).elem]? = some y ∧ sameE p b x = y.plus := by
          intro h
          have h : (x.elem : Int) = ((lastBd b).elem : Int) := beq_iff_eq.1 h
          obtain ⟨y, hy, _, hey⟩ := nt_at p (n := (lastBd b).elem) (by omega)
          exact ⟨y, hy, by rw [sameE, decide_eq_true (by omega), hey]; rfl⟩
        have hs2 : ((x.elem : Int) == ((lastBd b).elem : Int)) = false → sameE p b x = false := by
          intro h
          have h : ¬ (x.elem : Int) = ((lastBd b).elem : Int) := beq_eq_false_iff_ne.1 h
          rw [sameE, decide_eq_false (by omega)]; rfl
        (conv=>arg 2;whnf)
        apply wp_ite_join
        case h1 =>
          intro rest h
          obtain ⟨y, hy, hsy⟩ := hs1 h
          (conv=>arg 2;whnf);refine wp_elem (lastBd b).elem (elV y) rfl (els_at2 hy) (Vle.refl _) ?_
          (conv=>arg 2;whnf)
          exact wp_cutR (frL [(2, kpsV l), (3, bdsV b), (5, .pt (some 1) (scV s) 0), (6, .pt (some 4) (.agg (paC p)) 0), (9, .pt (some 2) (bdV x) 0), (11, .pt (some 3) (evV e) 0), (13, .pt (some 2) (bdV (lastBd b)) 0), (14, .pt (some 3) (evV (firstEv l b)) 0), (16, bV (sameE p b x))]) [] (.cons (.refl _) (.cons (.refl _) (.cons (.refl _) (.cons (.refl _) (.cons (.refl _) (.cons (.refl _) (.cons (.refl _) (.cons (.refl _) (.cons (Vle.viaS (cBool hsy.symm) rfl) (.nil _)))))))))) (List.Sublist.refl _) rest
        case h2 =>
          intro rest h
          (conv=>arg 2;whnf)
          exact wp_cutR (frL [(2, kpsV l), (3, bdsV b), (5, .pt (some 1) (scV s) 0), (6, .pt (some 4) (.agg (paC p)) 0), (9, .pt (some 2) (bdV x) 0), (11, .pt (some 3) (evV e) 0), (13, .pt (some 2) (bdV (lastBd b)) 0), (14, .pt (some 3) (evV (firstEv l b)) 0), (16, bV (sameE p b x))]) [] (.cons (.refl _) (.cons (.refl _) (.cons (.refl _) (.cons (.refl _) (.cons (.refl _) (.cons (.refl _) (.cons (.refl _) (.cons (.refl _) (.cons (Vle.viaS (cBool (hs2 h).symm) rfl) (.nil _)))))))))) (List.Sublist.refl _) rest
        case rest =>
          have hx9 : (x.at_ ≤ (lastBd b).at_) ∨ ¬ (x.at_ ≤ (lastBd b).at_) := Classical.em _
          rcases hx9 with hx9 | hx9
          · have h9 : decide (x.at_ ≤ (lastBd b).at_) = true := decide_eq_true hx9
            rw [if_pos hx9] at hg
            (conv=>arg 2;whnf);refine wp_it h9 ?_
            (repeat ((conv=>arg 2;whnf);first|refine wp_it rfl ?_|refine wp_if rfl ?_))
            (conv=>arg 2;whnf);refine w_ret1 rfl (Vle.eq (cBool hg.symm)) (List.nil_sublist _) rfl
          · have h9 : decide (x.at_ ≤ (lastBd b).at_) = false := decide_eq_false hx9
            rw [if_neg hx9] at hg
            have hwt : IntKind.i64.wrap (e.ts - (firstEv l b).ts) = e.ts - (firstEv l b).ts := w_i64_small (by have := herg.2; have := hfrg.2; omega) (by have := herg.2; have := hfrg.2; omega)
            have hlate : e.ts - (firstEv l b).ts > p.within → decide (IntKind.i64.wrap (e.ts - (firstEv l b).ts) > p.within) = true := fun h => by rw [hwt]; exact decide_eq_true h
            have hearly : ¬ e.ts - (firstEv l b).ts > p.within → decide (IntKind.i64.wrap (e.ts - (firstEv l b).ts) > p.within) = false := fun h => by rw [hwt]; exact decide_eq_false h
            have fn := next_call p (lastBd b).elem hpn hlast
            have fal := alike_call s hs p (firstEv l b) e
            have ft := takes_call s hs p hp l hl b hbn (bdsV b) (Vle.refl _) x.elem (by omega) e herg
            have fg := guarded_call s hs p hp l hl b hbn hb0 x (by omega) hlast
            have hne : ∀ {a c : Int}, a ≠ c → (!(a == c)) = true := fun h => by rw [beq_eq_false_iff_ne.2 h]; rfl
            have heq : ∀ {a c : Int}, a = c → (!(a == c)) = false := fun h => by rw [beq_iff_eq.2 h]; rfl
            have f0 : decide (x.at_ ≤ (lastBd b).at_) = true → False := fun h => Bool.noConfusion (h9.symm.trans h)
            by_cases hbad : sameE p b x = false ∧ nextI p (lastBd b).elem ≠ x.elem
            · rw [if_pos hbad] at hg
              obtain ⟨hb1, hb2⟩ := hbad
              rw [hb1]
              (conv=>arg 2;whnf);refine wp_ite (fun h => (f0 h).elim) (fun _ => ?_)
              (repeat ((conv=>arg 2;whnf);first|refine wp_it rfl ?_|refine wp_if rfl ?_))
              (conv=>arg 2;whnf);refine wp_pc fn ?_
              (conv=>arg 2;whnf);refine wp_ite (fun _ => ?_) (fun h => Bool.noConfusion ((hne (Ne.symm hb2)).symm.trans h))
              (repeat ((conv=>arg 2;whnf);first|refine wp_it rfl ?_|refine wp_if rfl ?_))
              (conv=>arg 2;whnf);refine w_ret1 rfl (Vle.eq (cBool hg.symm)) (List.nil_sublist _) rfl
            · rw [if_neg hbad] at hg
              have hq : (!sameE p b x) = true → (!((x.elem : Int) == nextI p (lastBd b).elem)) = false := fun h => by
                refine heq ?_
                by_cases hn : nextI p (lastBd b).elem = x.elem
                · exact hn.symm
                · exact absurd ⟨by simpa using h, hn⟩ hbad
              by_cases hts : e.ts - (firstEv l b).ts > p.within
              · rw [if_pos hts] at hg
                have hlt := hlate hts
                (conv=>arg 2;whnf);refine wp_ite (fun h => (f0 h).elim) (fun _ => ?_)
                (conv=>arg 2;whnf);refine wp_ite (fun h5 => ?_) (fun h5 => ?_)
                · (conv=>arg 2;whnf);refine wp_pc fn ?_
                  (conv=>arg 2;whnf);refine wp_ite (fun h => Bool.noConfusion ((hq h5).symm.trans h)) (fun _ => ?_)
                  (repeat ((conv=>arg 2;whnf);first|refine wp_it rfl ?_|refine wp_if rfl ?_))
                  (conv=>arg 2;whnf);refine wp_it hlt ?_
                  (conv=>arg 2;whnf);refine w_ret1 rfl (Vle.eq (cBool hg.symm)) (List.nil_sublist _) rfl
                · (repeat ((conv=>arg 2;whnf);first|refine wp_it rfl ?_|refine wp_if rfl ?_))
                  (conv=>arg 2;whnf);refine wp_it hlt ?_
                  (conv=>arg 2;whnf);refine w_ret1 rfl (Vle.eq (cBool hg.symm)) (List.nil_sublist _) rfl
              · rw [if_neg hts] at hg
                have hlt := hearly hts
                apply wp_joinT
                case h1 =>
                  intro rest
                  (conv=>arg 2;whnf);refine wp_ite (fun h => (f0 h).elim) (fun _ => ?_)
                  (conv=>arg 2;whnf);refine wp_ite (fun h5 => ?_) (fun h5 => ?_)
                  · (conv=>arg 2;whnf);refine wp_pc fn ?_
                    (conv=>arg 2;whnf);refine wp_ite (fun h => Bool.noConfusion ((hq h5).symm.trans h)) (fun _ => ?_)
                    (repeat ((conv=>arg 2;whnf);first|refine wp_it rfl ?_|refine wp_if rfl ?_))
                    (conv=>arg 2;whnf);refine wp_if hlt ?_
                    (conv=>arg 2;whnf)
                    exact wp_cutR (frL [(2, kpsV l), (3, bdsV b), (5, .pt (some 1) (scV s) 0), (6, .pt (some 4) (.agg (paC p)) 0), (9, .pt (some 2) (bdV x) 0), (11, .pt (some 3) (evV e) 0), (14, .pt (some 3) (evV (firstEv l b)) 0), (16, bV (sameE p b x))]) [] (.cons (.refl _) (.cons (.refl _) (.cons (.refl _) (.cons (.refl _) (.cons (.refl _) (.cons (.refl _) (.cons (.refl _) (.cons (.refl _) (.nil _))))))))) (List.Sublist.refl _) rest
                  · (repeat ((conv=>arg 2;whnf);first|refine wp_it rfl ?_|refine wp_if rfl ?_))
                    (conv=>arg 2;whnf);refine wp_if hlt ?_
                    (conv=>arg 2;whnf)
                    exact wp_cutR (frL [(2, kpsV l), (3, bdsV b), (5, .pt (some 1) (scV s) 0), (6, .pt (some 4) (.agg (paC p)) 0), (9, .pt (some 2) (bdV x) 0), (11, .pt (some 3) (evV e) 0), (14, .pt (some 3) (evV (firstEv l b)) 0), (16, bV (sameE p b x))]) [] (.cons (.refl _) (.cons (.refl _) (.cons (.refl _) (.cons (.refl _) (.cons (.refl _) (.cons (.refl _) (.cons (.refl _) (.cons (.refl _) (.nil _))))))))) (List.Sublist.refl _) rest
                case rest =>
                  (conv=>arg 2;whnf);refine wp_pcall fal ?_
                  cases h1 : alikeE s p (firstEv l b) e with
                  | false =>
                    rw [h1, Bool.false_and] at hg
                    (repeat ((conv=>arg 2;whnf);first|refine wp_it rfl ?_|refine wp_if rfl ?_))
                    (conv=>arg 2;whnf);refine w_ret1 rfl (Vle.eq (cBool hg.symm)) (List.nil_sublist _) rfl
                  | true =>
                    rw [h1, Bool.true_and] at hg
                    (repeat ((conv=>arg 2;whnf);first|refine wp_it rfl ?_|refine wp_if rfl ?_))
                    (conv=>arg 2;whnf);refine wp_pcall ft ?_
                    cases h2 : takesE s p l b x.elem e with
                    | false =>
                      rw [h2, Bool.false_and] at hg
                      (repeat ((conv=>arg 2;whnf);first|refine wp_it rfl ?_|refine wp_if rfl ?_))
                      (conv=>arg 2;whnf);refine w_ret1 rfl (Vle.eq (cBool hg.symm)) (List.nil_sublist _) rfl
                    | true =>
                      rw [h2, Bool.true_and] at hg
                      (repeat ((conv=>arg 2;whnf);first|refine wp_it rfl ?_|refine wp_if rfl ?_))
                      (conv=>arg 2;whnf);refine wp_ite (fun h3 => ?_) (fun h3 => ?_)
                      · rw [h3, Bool.true_or] at hg
                        (conv=>arg 2;whnf);refine w_ret1 rfl (Vle.eq (cBool hg.symm)) (List.nil_sublist _) rfl
                      · rw [h3, Bool.false_or] at hg
                        (conv=>arg 2;whnf);refine wp_pcall fg ?_
                        (repeat ((conv=>arg 2;whnf);first|refine wp_it rfl ?_|refine wp_if rfl ?_))
                        (conv=>arg 2;whnf);refine w_ret1 rfl (Vle.eq (cBool hg.symm)) (List.nil_sublist _) rfl
end Go.Sv
namespace Go.Sv
open Go Go.Proofs
theorem BdsOk.take {p : Pa} {b : List Bd} (h : BdsOk p b) (n : Nat) : BdsOk p (b.take n) :=
  ⟨by rw [List.length_take]; have := h.n; omega, fun y hy => h.el y (List.mem_of_mem_take hy)⟩
theorem bds_take (b : List Bd) (n : Nat) : Vle (.sl (some 2) ((b.map bdV).take n) .no) (bdsV (b.take n)) := Vle.eq (by rw [bdsV, List.map_take])
set_option maxRecDepth 100000 in
set_option maxHeartbeats 2000000 in
theorem prefix_call (s : Sc) (hs : ScOk s) (p : Pa) (hp : StOkP p) (hany : p.any = true) (l : List Kp) (hl : StOkL l) (b : List Bd) (hb : BdsOk p b) :
    PCall Tryz.prog 70 [scV s, .agg (paC p), kpsV l, bdsV b] (bV (prefE s p l b)) := by
  have hbn := hb.n
  obtain ⟨els, wi, by_, any⟩ := p
  obtain rfl : any = true := hany
  obtain ⟨p, hpe⟩ : ∃ p, p = Pa.mk els wi by_ true := ⟨_, rfl⟩
  rw [← hpe] at hp hb ⊢
  have hpa : (Pa.mk els wi by_ true) = p := hpe.symm
  have hpv : V.pt (some 4) (.agg (paC (Pa.mk els wi by_ true))) 0 = .pt (some 4) (.agg (paC p)) 0 := by rw [hpa]
  refine scall_of (live := []) (ords := [(4, [])]) Tryz.func70 rfl (by kernel_rfl) (by kernel_rfl) (Nat.le_of_ble_eq_true rfl) ?_
  (conv=>arg 2;whnf);refine wp_loop (fun m fr R => ∃ n : Nat, m = b.length - n ∧ n ≤ b.length ∧ (∀ i, i < n → goesE s p l (b.take i) (b.getD i bd0) = true) ∧ R = [] ∧ fr = frL [(2, kpsV l), (3, bdsV b), (4, .pt (some 1) (scV s) 0), (5, .pt (some 4) (.agg (paC p)) 0), (11, bdsV b), (12, i64V b.length), (13, i64V n)])
    b.length _ _ (.cons (.refl _) (.cons (.refl _) (.cons (.refl _) (.cons (.refl _) (.cons (.refl _) (.cons (Vle.i64 _ rfl (by rw [List.length_map])) (.cons (.refl _) (.nil _)))))))) (List.Sublist.refl _) ⟨0, rfl, Nat.zero_le _, fun i h => absurd h (Nat.not_lt_zero _), rfl, rfl⟩ ?_
  rintro m fr R ⟨n, rfl, hn, hall, rfl, rfl⟩
  (conv=>arg 2;whnf);refine wp_ite (fun h => ?_) (fun h => ?_)
  · have h : n < b.length := by have := of_decide_eq_true h; omega
    obtain ⟨x, hx⟩ : ∃ x, b[n]? = some x := ⟨_, List.getElem?_eq_getElem h⟩
    have hgd : b.getD n bd0 = x := by rw [List.getD_eq_getElem?_getD, hx]; rfl
    have fg := goes_call s hs p hp l hl (b.take n) (hb.take n) x
    (conv=>arg 2;whnf);refine wp_elem n (bdV x) rfl (bds_at hx) (Vle.refl _) ?_
    (conv=>arg 2;whnf);refine wp_allocE bdZ rfl fun q => ?_
    (conv=>arg 2;whnf);refine wp_storeE (cs := bdZ) 0 0 (bdC x) rfl rfl (VleL.refl _) (Nat.le_refl _) rfl (R' := [.obj q (bdC x)]) rfl ?_
    (conv=>arg 2;whnf)
    refine wp_cutP (frL [(2, kpsV l), (3, bdsV b), (4, .pt (some 1) (scV s) 0), (5, .pt (some 4) (.agg (paC (Pa.mk els wi by_ true))) 0), (9, i64V n), (10, .pt (some 2) (bdV x) 0), (11, bdsV b), (12, i64V b.length), (13, i64V n)]) [] [.obj q (bdC x)] (.cons (.refl _) (.cons (.refl _) (.cons (.refl _) (.cons (.vle (Vle.eq hpv.symm)) (.cons (.refl _) (.cons (.all (List.Mem.head _) rfl (by decide) (VleL.refl _)) (.cons (.refl _) (.cons (.refl _) (.cons (.refl _) (.nil _)))))))))) ?_
    have ht : Vle (.sl (some 2) ((b.map bdV).take (Int.toNat (n : Int))) .no) (bdsV (b.take n)) := bds_take b n
    (conv=>arg 2;whnf);refine wp_need ⟨Int.natCast_nonneg _, by rw [List.length_map]; omega⟩ ?_
    (conv=>arg 2;whnf);refine wp_pcV (.cons (.refl _) (.cons (Vle.eq (congrArg (fun p => V.agg (paC p)) hpa)) (.cons (.refl _) (.cons ht (.cons (.refl _) .nil))))) fg ?_
    cases hgo : goesE s p l (b.take n) x with
    | false =>
      have hr : prefE s p l b = false := by
        rw [prefE, List.all_eq_false.2 ⟨n, List.mem_range.2 h, by rw [hgd, hgo]; simp⟩]; rfl
      (repeat ((conv=>arg 2;whnf);first|refine wp_it rfl ?_|refine wp_if rfl ?_))
      (conv=>arg 2;whnf)
      refine wp_leaf (loop_ret ?_)
      (conv=>arg 2;whnf);refine w_ret1 rfl (Vle.eq (cBool hr.symm)) (List.nil_sublist _) rfl
    | true =>
      (repeat ((conv=>arg 2;whnf);first|refine wp_it rfl ?_|refine wp_if rfl ?_))
      (conv=>arg 2;whnf)
      refine wp_leaf (loop_next (b.length - (n + 1)) _ [] (by omega) (.cons (.refl _) (.cons (.refl _) (.cons (.refl _) (.cons (Vle.viaS hpv rfl) (.cons (.refl _) (.cons (.refl _) (.cons (Vle.inc n rfl (by omega)) (.nil _)))))))) (List.Sublist.refl _) ⟨n + 1, rfl, by omega, fun i hi => ?_, rfl, rfl⟩)
      by_cases hin : i = n
      · subst hin; rw [hgd]; exact hgo
      · exact hall i (by omega)
  · have h : n = b.length := by have := of_decide_eq_false h; omega
    subst h
    have hr : prefE s p l b = decide (((b.map bdV).length : Int) > 0) := by
      rw [prefE, List.all_eq_true.2 fun i hi => hall i (List.mem_range.1 hi), Bool.true_and, List.length_map]
      simp
    (conv=>arg 2;whnf)
    refine wp_leaf (loop_exit ?_)
    (conv=>arg 2;whnf);refine w_ret1 rfl (Vle.eq (cBool hr.symm)) (List.nil_sublist _) rfl
end Go.Sv
namespace Go.Sv
open Go Go.Proofs
def runC (b : List Bd) : List V := [bdsV b]
def runV (b : List Bd) : V := .agg (runC b)
def runsV (l : List (List Bd)) : V := .sl (some 1) (l.map runV) .no
def lastKp (l : List Kp) : Kp := l.getLastD kp0
def anyP (p : Pa) : Pa := { p with any := true }
def grown (l : List Kp) (r : List Bd) (k : Nat) : List Bd := r ++ [⟨k, (lastKp l).at_⟩]
def withE (s : Sc) (p : Pa) (l : List Kp) (r : List Bd) (k : Nat) : Option (List Bd) :=
  if l = [] then none else if prefE s (anyP p) l (grown l r k) then some (grown l r k) else none
def withR : Option (List Bd) → V
  | none => .tup [runV [], bV false]
  | some b => .tup [runV b, bV true]
def elemsE (p : Pa) (k : Nat) : List Nat := k :: (nextE p k).toList
def takeE (s : Sc) (p : Pa) (l : List Kp) (r : List Bd) : List (List Bd) :=
  if r = [] then [] else (elemsE p (lastBd r).elem).filterMap (withE s p l r)
def doneE (p : Pa) (r : List Bd) : Bool := decide (r ≠ []) && decide ((lastBd r).elem + 1 = p.els.length)
def lateE (p : Pa) (l : List Kp) (r : List Bd) : Bool :=
  if l = [] ∨ r = [] then false else match atE l (r.headD bd0).at_ with
    | none => true
    | some e => decide ((lastKp l).e.ts - e.ts > p.within)
theorem kpZ_vle : VleL kpZ (kpC kp0) := .cons (.refl _) (.cons (.refl _) (.cons (.refl _) (.cons (Vle.nil _ _ _) .nil)))
theorem lastKp_at {l : List Kp} (h : l ≠ []) : l[l.length - 1]? = some (lastKp l) := by
  rw [lastKp, ← List.getLast?_eq_getElem?, List.getLast?_eq_some_getLast h, List.getLastD_eq_getLast?, List.getLast?_eq_some_getLast h]; rfl
theorem len_ne {α : Type} {f : α → V} {l : List α} (h : l ≠ []) : (((l.map f).length : Int) == 0) = false := by
  have := List.length_pos_iff.2 h
  rw [List.length_map]; exact beq_eq_false_iff_ne.2 (by omega)
theorem len_pred {α : Type} {f : α → V} {l : List α} (h : l ≠ []) (hl : l.length < 2 ^ 60) : IntKind.i64.wrap (((l.map f).length : Int) - 1) = ((l.length - 1 : Nat) : Int) := by
  have := List.length_pos_iff.2 h
  rw [List.length_map, w_i64_small (by omega) (by omega)]; omega
set_option maxRecDepth 100000 in
theorem lastb_call (b : List Bd) (hb : b.length < 2 ^ 60) : PCall Tryz.prog 48 [bdsV b] (.tup [bdV (lastBd b), bV (decide (b ≠ []))]) := by
  refine scall_of (live := []) (ords := []) Tryz.func48 rfl (by kernel_rfl) (by kernel_rfl) (Nat.le_of_ble_eq_true rfl) ?_
  (conv=>arg 2;whnf);refine wp_allocE bdZ rfl fun c => ?_
  (conv=>arg 2;whnf);refine wp_allocE bdZ rfl fun d => ?_
  by_cases h0 : b = []
  · subst h0
    (repeat ((conv=>arg 2;whnf);first|refine wp_it rfl ?_|refine wp_if rfl ?_))
    (conv=>arg 2;whnf);refine wp_load (cs := bdZ) 1 rfl rfl ?_
    (conv=>arg 2;whnf);refine wp_storeE (cs := bdZ) 0 0 (bdC bd0) rfl rfl (VleL.refl _) (Nat.le_refl _) rfl (R' := [.obj c (bdC bd0), .obj d bdZ]) rfl ?_
    (conv=>arg 2;whnf);refine w_ret2ck (R' := []) (a := bdV bd0) (u := bV false) c 0 0 rfl rfl rfl rfl rfl (Vle.refl _) (Vle.refl _) (List.nil_sublist _) rfl
  · have h4 := len_ne (f := bdV) h0
    have w0 := len_pred (f := bdV) h0 hb
    (conv=>arg 2;whnf);refine wp_if h4 ?_
    (conv=>arg 2;whnf);refine wp_elem (b.length - 1) (bdV (lastBd b)) w0 (bds_at (last_at h0)) (Vle.refl _) ?_
    (conv=>arg 2;whnf);refine wp_storeE (cs := bdZ) 0 0 (bdC (lastBd b)) rfl rfl (VleL.refl _) (Nat.le_refl _) rfl (R' := [.obj c (bdC (lastBd b)), .obj d bdZ]) rfl ?_
    (conv=>arg 2;whnf);refine w_ret2ck (R' := []) (a := bdV (lastBd b)) (u := bV true) c 0 0 rfl rfl rfl rfl rfl (Vle.refl _) (Vle.refl _) (List.nil_sublist _) (by rw [decide_eq_true h0])
set_option maxRecDepth 100000 in
theorem lastk_call (l : List Kp) (hl : l.length < 2 ^ 60) : PCall Tryz.prog 67 [kpsV l] (.tup [kpV (lastKp l), bV (decide (l ≠ []))]) := by
  refine scall_of (live := []) (ords := []) Tryz.func67 rfl (by kernel_rfl) (by kernel_rfl) (Nat.le_of_ble_eq_true rfl) ?_
  (conv=>arg 2;whnf);refine wp_allocE kpZ rfl fun c => ?_
  (conv=>arg 2;whnf);refine wp_allocE kpZ rfl fun d => ?_
  by_cases h0 : l = []
  · subst h0
    (repeat ((conv=>arg 2;whnf);first|refine wp_it rfl ?_|refine wp_if rfl ?_))
    (conv=>arg 2;whnf);refine wp_load (cs := kpZ) 1 rfl rfl ?_
    (conv=>arg 2;whnf);refine wp_storeE (cs := kpZ) 0 0 (kpC kp0) rfl rfl kpZ_vle (Nat.le_refl _) rfl (R' := [.obj c (kpC kp0), .obj d kpZ]) rfl ?_
    (conv=>arg 2;whnf);refine w_ret2ck (R' := []) (a := kpV kp0) (u := bV false) c 0 0 rfl rfl rfl rfl rfl (Vle.refl _) (Vle.refl _) (List.nil_sublist _) rfl
  · have h4 := len_ne (f := kpV) h0
    have w0 := len_pred (f := kpV) h0 hl
    (conv=>arg 2;whnf);refine wp_if h4 ?_
    (conv=>arg 2;whnf);refine wp_elem (l.length - 1) (kpV (lastKp l)) w0 (kps_at (lastKp_at h0)) (Vle.refl _) ?_
    (conv=>arg 2;whnf);refine wp_storeE (cs := kpZ) 0 0 (kpC (lastKp l)) rfl rfl (VleL.refl _) (Nat.le_refl _) rfl (R' := [.obj c (kpC (lastKp l)), .obj d kpZ]) rfl ?_
    (conv=>arg 2;whnf);refine w_ret2ck (R' := []) (a := kpV (lastKp l)) (u := bV true) c 0 0 rfl rfl rfl rfl rfl (Vle.refl _) (Vle.refl _) (List.nil_sublist _) (by rw [decide_eq_true h0])
theorem okE_bd (l : List Bd) : ∀ y ∈ l.map bdV, okE (some 2) y := by
  intro y hy
  obtain ⟨b, _, rfl⟩ := List.mem_map.1 hy
  exact ⟨bdC b, rfl, rfl, fun c hc => List.all_eq_true.1 (show (bdC b).all oneV = true from rfl) c hc⟩
theorem okE_run (l : List (List Bd)) : ∀ y ∈ l.map runV, okE (some 1) y := by
  intro y hy
  obtain ⟨b, _, rfl⟩ := List.mem_map.1 hy
  exact ⟨runC b, rfl, rfl, fun c hc => List.all_eq_true.1 (show (runC b).all oneV = true from rfl) c hc⟩
set_option maxRecDepth 100000 in
theorem clone_call (b : List Bd) (hb : b.length < 2 ^ 31) : SCall Tryz.prog 25 [bdsV b] [] fun v R' => ∃ t : Option Nat, (t = none → b = []) ∧ R' = tokR (some 2) t ∧ v = .sl (shOf (some 2) t) (b.map bdV) (tkOf t) := by
  refine scall_of (live := []) (ords := []) Tryz.func25 rfl (by kernel_rfl) (by kernel_rfl) (Nat.le_of_ble_eq_true rfl) ?_
  (conv=>arg 2;whnf);refine wp_nilcmp fun e he => ?_
  cases e with
  | true =>
    have h0 : b = [] := List.map_eq_nil_iff.1 (he rfl)
    (repeat ((conv=>arg 2;whnf);first|refine wp_it rfl ?_|refine wp_if rfl ?_))
    (conv=>arg 2;whnf);refine w_ret1 rfl (Vle.refl _) (List.Sublist.refl _) ⟨none, fun _ => h0, rfl, by rw [h0]; rfl⟩
  | false =>
    (repeat ((conv=>arg 2;whnf);first|refine wp_it rfl ?_|refine wp_if rfl ?_))
    (conv=>arg 2;whnf);refine wp_append_nil (okE_bd b) (show _ * 16 ≤ _ by rw [List.length_map]; omega) fun t => ?_
    (conv=>arg 2;whnf);refine w_ret1 rfl (Vle.refl _) (List.Sublist.refl _) ⟨some t, fun h => (by cases h), rfl, rfl⟩
set_option maxRecDepth 100000 in
theorem pclone_call (b : List Bd) (hb : b.length < 2 ^ 31) : PCall Tryz.prog 25 [bdsV b] (bdsV b) := by
  refine scall_of (live := []) (ords := []) Tryz.func25 rfl (by kernel_rfl) (by kernel_rfl) (Nat.le_of_ble_eq_true rfl) ?_
  (conv=>arg 2;whnf);refine wp_nilcmp fun e he => ?_
  cases e with
  | true =>
    have h0 : b = [] := List.map_eq_nil_iff.1 (he rfl)
    subst h0
    (repeat ((conv=>arg 2;whnf);first|refine wp_it rfl ?_|refine wp_if rfl ?_))
    (conv=>arg 2;whnf);refine w_ret1 rfl (Vle.nil _ _ _) (List.nil_sublist _) rfl
  | false =>
    (repeat ((conv=>arg 2;whnf);first|refine wp_it rfl ?_|refine wp_if rfl ?_))
    (conv=>arg 2;whnf);refine wp_append_nil (okE_bd b) (show _ * 16 ≤ _ by rw [List.length_map]; omega) fun t => ?_
    (conv=>arg 2;whnf);refine w_ret1 rfl (Vle.sl _ _ _) (List.nil_sublist _) rfl
def runZ : List V := [.sl none [] .zero]
theorem runZ_vle : VleL runZ (runC []) := .cons (Vle.nil _ _ _) .nil
theorem bds_app (xs : List Bd) (y : Bd) (t : Nat) : Vle (.sl (some 2) (xs.map bdV ++ [bdV y]) (.t t)) (bdsV (xs ++ [y])) := by
  rw [bdsV, List.map_append]; exact Vle.sl _ _ _
theorem BdsOk.grown {p : Pa} {b : List Bd} (h : BdsOk p b) (hl : b.length + 1 < 2 ^ 30) (l : List Kp) {k : Nat} (hk : k < 2 ^ 60) : BdsOk p (grown l b k) :=
  ⟨by rw [Go.Sv.grown, List.length_append, List.length_singleton]; exact hl, fun y hy => by
    rcases List.mem_append.1 hy with hy | hy
    · exact h.el y hy
    · rw [List.mem_singleton.1 hy]; exact hk⟩
theorem StOkP.any {p : Pa} (h : StOkP p) : StOkP (anyP p) := ⟨h.n, h.ty, h.ok, h.rg, h.kids⟩
theorem BdsOk.any {p : Pa} {b : List Bd} (h : BdsOk p b) : BdsOk (anyP p) b := ⟨h.n, h.el⟩
set_option maxRecDepth 100000 in
set_option maxHeartbeats 1000000 in
theorem with_call (s : Sc) (hs : ScOk s) (p : Pa) (hp : StOkP p) (l : List Kp) (hl : StOkL l) (r : List Bd) (hr : BdsOk p r) (hrn : r.length + 1 < 2 ^ 30) (k : Nat) (hk : k < 2 ^ 60) :
    PCall Tryz.prog 49 [scV s, .agg (paC p), kpsV l, runV r, i64V k] (withR (withE s p l r k)) := by
  have f1 := lastk_call l hl.n
  have f2 := clone_call r (by omega)
  have f3 := prefix_call s hs (anyP p) hp.any rfl l hl (grown l r k) (hr.grown hrn l hk).any
  refine scall_of (live := [6, 25]) (ords := [(4, [0, 1, 3, 4, 5, 6, 7, 2, 8, 9, 10, 11]), (5, [])]) Tryz.func49 rfl (by kernel_rfl) (by kernel_rfl) (Nat.le_of_ble_eq_true rfl) ?_
  (conv=>arg 2;whnf);refine wp_allocE (paC p) rfl fun q => ?_
  (conv=>arg 2;whnf);refine wp_allocE runZ rfl fun c => ?_
  (conv=>arg 2;whnf);refine wp_pcall f1 ?_
  (conv=>arg 2;whnf);refine wp_allocE kpZ rfl fun d => ?_
  (conv=>arg 2;whnf);refine wp_storeE (cs := kpZ) 2 0 (kpC (lastKp l)) rfl rfl (VleL.refl _) (Nat.le_refl _) rfl (R' := [.obj q (paC p), .obj c runZ, .obj d (kpC (lastKp l))]) rfl ?_
  by_cases h0 : l = []
  · have hw : withE s p l r k = none := by rw [withE, if_pos h0]
    have hd : (!decide (l ≠ [])) = true := by rw [decide_eq_false (by simp [h0])]; rfl
    (conv=>arg 2;whnf);refine wp_it hd ?_
    (conv=>arg 2;whnf);refine wp_storeE (cs := runZ) 1 0 (runC []) rfl rfl runZ_vle (Nat.le_refl _) rfl (R' := [.obj q (paC p), .obj c (runC []), .obj d (kpC (lastKp l))]) rfl ?_
    (conv=>arg 2;whnf);refine w_ret2ck (R' := []) (a := runV []) (u := bV false) c 0 1 rfl rfl rfl rfl rfl (Vle.refl _) (Vle.refl _) (List.nil_sublist _) (by rw [hw]; rfl)
  · have hd : (!decide (l ≠ [])) = false := by rw [decide_eq_true h0]; rfl
    have hw : withE s p l r k = if prefE s (anyP p) l (grown l r k) then some (grown l r k) else none := by rw [withE, if_neg h0]
    (conv=>arg 2;whnf);refine wp_if hd ?_
    (conv=>arg 2;whnf)
    refine wp_cutP (frL [(2, kpsV l), (4, i64V k), (5, .pt (some 1) (scV s) 0), (6, .loc q 0), (8, .pt (some 1) (runV r) 0), (10, .loc c 0), (12, .pt (some 4) (kpV (lastKp l)) 0)]) [.obj q (paC p), .obj c runZ] [.obj d (kpC (lastKp l))] (.cons (.refl _) (.cons (.refl _) (.cons (.refl _) (.cons (.refl _) (.cons (.refl _) (.cons (.refl _) (.cons (.all (List.Mem.head _) rfl (by decide) (VleL.refl _)) (.nil _)))))))) ?_
    (conv=>arg 2;whnf);refine wp_callF [.obj q (paC p), .obj c runZ] [] [] rfl f2 ?_
    rintro v R1 ⟨t, h1, rfl, rfl⟩
    (conv=>arg 2;whnf);refine wp_append_x (A := [.obj q (paC p), .obj c runZ]) (B := []) (sh := some 2) (t := t) (xs := r.map bdV) (ys := [bdV ⟨k, (lastKp l).at_⟩]) (fun h => by rw [h1 h]; rfl) (okE_bd [⟨k, (lastKp l).at_⟩]) (show (_ + 1) * 16 ≤ _ by rw [List.length_map]; omega) (fun t' S hS => ?_)
    (conv=>arg 2;whnf);refine wp_allocE runZ rfl fun o => ?_
    (conv=>arg 2;whnf);refine wp_storeE (cs := runZ) (2 + S.length) 0 (runC (grown l r k)) (by simp [Nat.add_comm]) rfl (.cons (bds_app _ _ _) .nil) (Nat.le_refl _) rfl (R' := [.obj q (paC p), .obj c runZ] ++ (S ++ [.obj o (runC (grown l r k))])) (by simp [splice, runZ, runC, Nat.add_comm]) ?_
    (conv=>arg 2;whnf)
    refine wp_cutP (frL [(2, kpsV l), (5, .pt (some 1) (scV s) 0), (6, .loc q 0), (10, .loc c 0), (14, .pt (some 1) (runV (grown l r k)) 0)]) [.obj q (paC p), .obj c runZ] (S ++ [.obj o (runC (grown l r k))]) ?_ ?_
    · exact .cons (.refl _) (.cons (.refl _) (.cons (.refl _) (.cons (.refl _) (.cons (Pin.all (k := 1) (cs := runC (grown l r k)) (List.mem_append_right _ (List.Mem.head _)) rfl Nat.one_pos (VleL.refl _)) (.nil _)))))
    (conv=>arg 2;whnf);refine wp_storeE (cs := paC p) 0 3 [bV true] rfl rfl (VleL.refl _) (show 3 + 1 ≤ 4 by decide) rfl (R' := [.obj q (paC (anyP p)), .obj c runZ]) rfl ?_
    (conv=>arg 2;whnf);refine wp_load (cs := paC (anyP p)) 0 rfl rfl ?_
    (conv=>arg 2;whnf);refine wp_pcall f3 ?_
    cases hpf : prefE s (anyP p) l (grown l r k) with
    | false =>
      rw [hpf] at hw
      (repeat ((conv=>arg 2;whnf);first|refine wp_it rfl ?_|refine wp_if rfl ?_))
      (conv=>arg 2;whnf);refine wp_storeE (cs := runZ) 1 0 (runC []) rfl rfl runZ_vle (Nat.le_refl _) rfl (R' := [.obj q (paC (anyP p)), .obj c (runC [])]) rfl ?_
      (conv=>arg 2;whnf);refine w_ret2ck (R' := []) (a := runV []) (u := bV false) c 0 1 rfl rfl rfl rfl rfl (Vle.refl _) (Vle.refl _) (List.nil_sublist _) (by rw [hw]; rfl)
    | true =>
      rw [hpf] at hw
      (repeat ((conv=>arg 2;whnf);first|refine wp_it rfl ?_|refine wp_if rfl ?_))
      (conv=>arg 2;whnf);refine wp_storeE (cs := runZ) 1 0 (runC (grown l r k)) rfl rfl (VleL.refl _) (Nat.le_refl _) rfl (R' := [.obj q (paC (anyP p)), .obj c (runC (grown l r k))]) rfl ?_
      (conv=>arg 2;whnf);refine w_ret2ck (R' := []) (a := runV (grown l r k)) (u := bV true) c 0 1 rfl rfl rfl rfl rfl (Vle.refl _) (Vle.refl _) (List.nil_sublist _) (by rw [hw]; rfl)
set_option maxRecDepth 100000 in
theorem start_call (s : Sc) (hs : ScOk s) (p : Pa) (hp : StOkP p) (l : List Kp) (hl : StOkL l) :
    PCall Tryz.prog 26 [scV s, .agg (paC p), kpsV l] (withR (withE s p l [] 0)) := by
  have f1 := with_call s hs p hp l hl [] ⟨by decide, fun y hy => (by cases hy)⟩ (by decide) 0 (by decide)
  refine scall_of (live := []) (ords := []) Tryz.func26 rfl (by kernel_rfl) (by kernel_rfl) (Nat.le_of_ble_eq_true rfl) ?_
  (conv=>arg 2;whnf);refine wp_allocE runZ rfl fun c => ?_
  (conv=>arg 2;whnf);refine wp_pcallV (.cons (.refl _) (.cons (.refl _) (.cons (.refl _) (.cons (Vle.agg runZ_vle) (.cons (.refl _) .nil))))) f1 ?_
  cases hw : withE s p l [] 0 with
  | none =>
    (conv=>arg 2;whnf);refine wp_storeE (cs := runZ) 0 0 (runC []) rfl rfl (VleL.refl _) (Nat.le_refl _) rfl (R' := [.obj c (runC [])]) rfl ?_
    (conv=>arg 2;whnf);refine w_ret2ck (R' := []) (a := runV []) (u := bV false) c 0 0 rfl rfl rfl rfl rfl (Vle.refl _) (Vle.refl _) (List.nil_sublist _) rfl
  | some b =>
    (conv=>arg 2;whnf);refine wp_storeE (cs := runZ) 0 0 (runC b) rfl rfl (VleL.refl _) (Nat.le_refl _) rfl (R' := [.obj c (runC b)]) rfl ?_
    (conv=>arg 2;whnf);refine w_ret2ck (R' := []) (a := runV b) (u := bV true) c 0 0 rfl rfl rfl rfl rfl (Vle.refl _) (Vle.refl _) (List.nil_sublist _) rfl
end Go.Sv
namespace Go.Sv
open Go Go.Proofs
set_option maxRecDepth 100000 in
theorem indexkp_call (g : FuncId) (caps : List V) (q : Kp → Bool) (l : List Kp) (hl : l.length < 2 ^ 60) (hq : ∀ x ∈ l, PCall Tryz.prog g (kpV x :: caps) (bV (q x))) : PCall Tryz.prog 68 [kpsV l, .fn (.func g) [] caps] (i64V (idxI q l)) := by
  refine scall_of (live := []) (ords := []) Tryz.func68 rfl (by kernel_rfl) (by kernel_rfl) (Nat.le_of_ble_eq_true rfl) ?_
  (conv=>arg 2;whnf);refine wp_loop (fun m fr R => ∃ n : Nat, m = l.length - n ∧ n ≤ l.length ∧ R = [] ∧ (l.take n).any q = false ∧ fr = frL [(0, kpsV l), (1, .fn (.func g) [] caps), (7, i64V l.length), (8, i64V n)])
    l.length _ _ (.cons (.refl _) (.cons (.refl _) (.cons (Vle.eq ?_) (.cons (.refl _) (.nil _))))) (List.Sublist.refl _) ⟨0, rfl, Nat.zero_le _, rfl, rfl, rfl⟩ ?_
  · show V.c (.int .i64 (l.map kpV).length) = _
    rw [List.length_map]; rfl
  rintro m fr R ⟨n, rfl, hn, rfl, ha, rfl⟩
  (conv=>arg 2;whnf);refine wp_ite (fun h => ?_) (fun h => ?_)
  · have h : n < l.length := by have := of_decide_eq_true h; omega
    obtain ⟨y, hy⟩ : ∃ y, l[n]? = some y := ⟨_, List.getElem?_eq_getElem h⟩
    have hc := hq y (List.mem_of_getElem? hy)
    (conv=>arg 2;whnf);refine wp_elem n (kpV y) rfl (by rw [List.getElem?_map, hy]; rfl) (Vle.refl _) ?_
    (conv=>arg 2;whnf);refine wp_pcall hc ?_
    (conv=>arg 2;whnf);refine wp_ite (fun h1 => ?_) (fun h1 => ?_)
    · (conv=>arg 2;whnf)
      refine wp_leaf (loop_ret ?_)
      (conv=>arg 2;whnf);refine w_retp rfl (Vle.eq (cI64 (idx_hit ha hy h1).symm))
    · (conv=>arg 2;whnf)
      refine wp_leaf (loop_next (l.length - (n + 1)) _ _ (by omega) (.cons (.refl _) (.cons (.refl _) (.cons (.refl _) (.cons (Vle.inc n rfl (by omega)) (.nil _))))) (List.Sublist.refl _) ⟨n + 1, rfl, h, rfl, any_next ha hy h1, rfl⟩)
  · have h : n = l.length := by have := of_decide_eq_false h; omega
    subst h
    rw [List.take_length] at ha
    (conv=>arg 2;whnf)
    refine wp_leaf (loop_exit ?_)
    (conv=>arg 2;whnf);refine w_retp rfl (Vle.eq (cI64 (idx_none ha).symm))
set_option maxRecDepth 100000 in
theorem done_call (p : Pa) (hp : p.els.length < 2 ^ 60) (r : List Bd) (hr : r.length < 2 ^ 60) : PCall Tryz.prog 28 [.agg (paC p), runV r] (bV (doneE p r)) := by
  have f1 := lastb_call r hr
  have w0 : IntKind.i64.wrap (((p.els.map elV).length : Int) - 1) = (p.els.length : Int) - 1 := by rw [List.length_map, w_i64_small (by omega) (by omega)]
  refine scall_of (live := []) (ords := []) Tryz.func28 rfl (by kernel_rfl) (by kernel_rfl) (Nat.le_of_ble_eq_true rfl) ?_
  (conv=>arg 2;whnf);refine wp_pcall f1 ?_
  (conv=>arg 2;whnf);refine wp_allocE bdZ rfl fun c => ?_
  (conv=>arg 2;whnf);refine wp_storeE (cs := bdZ) 0 0 (bdC (lastBd r)) rfl rfl (VleL.refl _) (Nat.le_refl _) rfl (R' := [.obj c (bdC (lastBd r))]) rfl ?_
  by_cases h0 : r = []
  · have hd : decide (r ≠ []) = false := decide_eq_false (by simp [h0])
    have hr : doneE p r = false := by rw [doneE, hd]; rfl
    (conv=>arg 2;whnf);refine wp_if hd ?_
    (repeat ((conv=>arg 2;whnf);first|refine wp_it rfl ?_|refine wp_if rfl ?_))
    (conv=>arg 2;whnf);refine w_ret1 rfl (Vle.eq (cBool hr.symm)) (List.nil_sublist _) rfl
  · have hd : decide (r ≠ []) = true := decide_eq_true h0
    have hr : doneE p r = (((lastBd r).elem : Int) == IntKind.i64.wrap (((p.els.map elV).length : Int) - 1)) := by
      rw [doneE, hd, w0, Bool.true_and]
      by_cases h : (lastBd r).elem + 1 = p.els.length
      · rw [decide_eq_true h, beq_iff_eq.2 (by omega)]
      · rw [decide_eq_false h, beq_eq_false_iff_ne.2 (by omega)]
    (conv=>arg 2;whnf);refine wp_it hd ?_
    (conv=>arg 2;whnf);refine wp_load (cs := bdC (lastBd r)) 0 rfl rfl ?_
    (repeat ((conv=>arg 2;whnf);first|refine wp_it rfl ?_|refine wp_if rfl ?_))
    (conv=>arg 2;whnf);refine w_ret1 rfl (Vle.eq (cBool hr.symm)) (List.nil_sublist _) rfl
set_option maxRecDepth 100000 in
theorem late1_call (r : List Bd) (h0 : r ≠ []) (k : Kp) : PCall Tryz.prog 69 [kpV k, .pt (some 1) (runV r) 0] (bV (decide (k.at_ = (r.headD bd0).at_))) := by
  refine scall_of (live := []) (ords := []) Tryz.func69 rfl (by kernel_rfl) (by kernel_rfl) (Nat.le_of_ble_eq_true rfl) ?_
  (conv=>arg 2;whnf);refine wp_elem 0 (bdV (r.headD bd0)) rfl (bds_at (head_at h0)) (Vle.refl _) ?_
  (conv=>arg 2;whnf);refine w_ret1 rfl (Vle.eq (cBool rfl)) (List.nil_sublist _) rfl
theorem lateE_eq {p : Pa} {l : List Kp} {r : List Bd} (hl : l ≠ []) (hr : r ≠ []) : lateE p l r = match atE l (r.headD bd0).at_ with
    | none => true
    | some e => decide ((lastKp l).e.ts - e.ts > p.within) := by
  rw [lateE, if_neg (by simp [hl, hr])]
  all_goals rfl
theorem lastKp_mem {l : List Kp} (h : l ≠ []) : lastKp l ∈ l := List.mem_of_getElem? (lastKp_at h)
set_option maxRecDepth 100000 in
set_option maxHeartbeats 1000000 in
theorem late_call (p : Pa) (l : List Kp) (hl : StOkL l) (r : List Bd) : PCall Tryz.prog 47 [.agg (paC p), kpsV l, runV r] (bV (lateE p l r)) := by
  have f1 := lastk_call l hl.n
  refine scall_of (live := []) (ords := [(5, [])]) Tryz.func47 rfl (by kernel_rfl) (by kernel_rfl) (Nat.le_of_ble_eq_true rfl) ?_
  (conv=>arg 2;whnf);refine wp_pcall f1 ?_
  (conv=>arg 2;whnf);refine wp_allocE kpZ rfl fun c => ?_
  (conv=>arg 2;whnf);refine wp_storeE (cs := kpZ) 0 0 (kpC (lastKp l)) rfl rfl (VleL.refl _) (Nat.le_refl _) rfl (R' := [.obj c (kpC (lastKp l))]) rfl ?_
  by_cases h0 : l = []
  · have hd : (!decide (l ≠ [])) = true := by rw [decide_eq_false (by simp [h0])]; rfl
    have hr : lateE p l r = false := by rw [lateE, if_pos (.inl h0)]
    (conv=>arg 2;whnf);refine wp_it hd ?_
    (repeat ((conv=>arg 2;whnf);first|refine wp_it rfl ?_|refine wp_if rfl ?_))
    (conv=>arg 2;whnf);refine w_ret1 rfl (Vle.eq (cBool hr.symm)) (List.nil_sublist _) rfl
  · have hd : (!decide (l ≠ [])) = false := by rw [decide_eq_true h0]; rfl
    (conv=>arg 2;whnf);refine wp_if hd ?_
    by_cases h1 : r = []
    · subst h1
      have hr : lateE p l [] = false := by rw [lateE, if_pos (.inr rfl)]
      (repeat ((conv=>arg 2;whnf);first|refine wp_it rfl ?_|refine wp_if rfl ?_))
      (conv=>arg 2;whnf);refine w_ret1 rfl (Vle.eq (cBool hr.symm)) (List.nil_sublist _) rfl
    · have h4 := len_ne (f := bdV) h1
      have hr := lateE_eq (p := p) h0 h1
      have fi := indexkp_call 69 [.pt (some 1) (runV r) 0] (fun k => decide (k.at_ = (r.headD bd0).at_)) l hl.n (fun k _ => late1_call r h1 k)
      (conv=>arg 2;whnf);refine wp_if h4 ?_
      (conv=>arg 2;whnf);refine wp_pcall fi ?_
      (conv=>arg 2;whnf)
      refine wp_cutP (frL [(1, kpsV l), (3, .pt (some 4) (.agg (paC p)) 0), (7, .pt (some 4) (kpV (lastKp l)) 0), (9, i64V (idxI (fun k : Kp => decide (k.at_ = (r.headD bd0).at_)) l))]) [] [.obj c (kpC (lastKp l))] ?_ ?_
      · exact .cons (.refl _) (.cons (.refl _) (.cons (.all (List.Mem.head _) rfl (by decide) (VleL.refl _)) (.cons (.refl _) (.nil _))))
      cases ha : l.any (fun k => decide (k.at_ = (r.headD bd0).at_)) with
      | false =>
        have hi : idxI (fun k : Kp => decide (k.at_ = (r.headD bd0).at_)) l = -1 := idx_none ha
        rw [atE, find_none ha] at hr
        have hr : lateE p l r = true := hr
        rw [hi]
        (repeat ((conv=>arg 2;whnf);first|refine wp_it rfl ?_|refine wp_if rfl ?_))
        (conv=>arg 2;whnf);refine w_ret1 rfl (Vle.eq (cBool hr.symm)) (List.nil_sublist _) rfl
      | true =>
        obtain ⟨y, hy, hf, hlt⟩ := idx_get ha
        have hi : idxI (fun k : Kp => decide (k.at_ = (r.headD bd0).at_)) l = ((l.findIdx (fun k => decide (k.at_ = (r.headD bd0).at_)) : Nat) : Int) := by rw [idxI, if_pos ha]
        rw [atE, hf] at hr
        have hr : lateE p l r = decide ((lastKp l).e.ts - y.e.ts > p.within) := hr
        have r1 := hl.rg _ (lastKp_mem h0)
        have r2 := hl.rg _ (List.mem_of_getElem? hy)
        have hwt : IntKind.i64.wrap ((lastKp l).e.ts - y.e.ts) = (lastKp l).e.ts - y.e.ts := w_i64_small (by have := r1.2; have := r2.2; omega) (by have := r1.2; have := r2.2; omega)
        have hneg : decide (((l.findIdx (fun k => decide (k.at_ = (r.headD bd0).at_)) : Nat) : Int) < 0) = false := decide_eq_false (by omega)
        rw [← hwt] at hr
        rw [hi]
        generalize l.findIdx (fun k => decide (k.at_ = (r.headD bd0).at_)) = n at hy hneg
        (conv=>arg 2;whnf);refine wp_if hneg ?_
        (conv=>arg 2;whnf);refine wp_elem n (kpV y) rfl (kps_at hy) (Vle.refl _) ?_
        (repeat ((conv=>arg 2;whnf);first|refine wp_it rfl ?_|refine wp_if rfl ?_))
        (conv=>arg 2;whnf);refine w_ret1 rfl (Vle.eq (cBool hr.symm)) (List.nil_sublist _) rfl
end Go.Sv
namespace Go.Sv
open Go Go.Proofs
theorem Vle.got {v a b : V} (hv : v = a) (h : Vle a b) : Vle v b := by rw [hv]; exact h
theorem wp_joinU {A T : Prop} (h1 : (Unit → T) → A) (rest : T) : A := h1 fun _ => rest
def natsV (l : List Nat) : List V := l.map fun n => i64V (n : Nat)
theorem nats_at {l : List Nat} {n k : Nat} (h : l[n]? = some k) : (natsV l)[n]? = some (i64V k) := by rw [natsV, List.getElem?_map, h]; rfl
theorem okE_nat (l : List Nat) : ∀ y ∈ natsV l, okE none y := by
  intro y hy
  obtain ⟨b, _, rfl⟩ := List.mem_map.1 hy
  rfl
theorem elems_lt {p : Pa} {k i : Nat} (h : i ∈ elemsE p k) (hk : k < 2 ^ 60) (hl : p.els.length < 2 ^ 60) : i < 2 ^ 60 := by
  rcases List.mem_cons.1 h with rfl | h
  · exact hk
  · cases hn : nextE p k with
    | none => rw [hn] at h; cases h
    | some j =>
      rw [hn] at h
      have : i = j := by simpa using h
      subst this
      have := List.mem_of_find?_eq_some hn
      have := List.mem_range.1 this
      omega
set_option maxRecDepth 100000 in
set_option maxHeartbeats 2000000 in
theorem take_call (s : Sc) (hs : ScOk s) (p : Pa) (hp : StOkP p) (l : List Kp) (hl : StOkL l) (r : List Bd) (hr : BdsOk p r) (hrn : r.length + 1 < 2 ^ 30) :
    PCall Tryz.prog 24 [scV s, .agg (paC p), kpsV l, runV r] (runsV (takeE s p l r)) := by
  have hpn := hp.n
  have hlast := hr.last
  have f1 := lastb_call r (by have := hr.n; omega)
  refine scall_of (live := [28]) (ords := [(4, []), (10, [])]) Tryz.func24 rfl (by kernel_rfl) (by kernel_rfl) (Nat.le_of_ble_eq_true rfl) ?_
  (conv=>arg 2;whnf);refine wp_pcall f1 ?_
  (conv=>arg 2;whnf);refine wp_allocE bdZ rfl fun c => ?_
  (conv=>arg 2;whnf);refine wp_storeE (cs := bdZ) 0 0 (bdC (lastBd r)) rfl rfl (VleL.refl _) (Nat.le_refl _) rfl (R' := [.obj c (bdC (lastBd r))]) rfl ?_
  by_cases h0 : r = []
  · have hd : (!decide (r ≠ [])) = true := by rw [decide_eq_false (by simp [h0])]; rfl
    have hw : takeE s p l r = [] := by rw [takeE, if_pos h0]
    (conv=>arg 2;whnf);refine wp_it hd ?_
    rw [hw]
    (conv=>arg 2;whnf);refine w_ret1 rfl (Vle.nil _ _ _) (List.nil_sublist _) rfl
  · have hd : (!decide (r ≠ [])) = false := by rw [decide_eq_true h0]; rfl
    have hw : takeE s p l r = (elemsE p (lastBd r).elem).filterMap (withE s p l r) := by rw [takeE, if_neg h0]
    obtain ⟨k, hk⟩ : ∃ k, k = (lastBd r).elem := ⟨_, rfl⟩
    (conv=>arg 2;whnf);refine wp_if hd ?_
    (conv=>arg 2;whnf)
    refine wp_cutP (frL [(2, kpsV l), (4, .pt (some 1) (scV s) 0), (5, .pt (some 4) (.agg (paC p)) 0), (7, .pt (some 1) (runV r) 0), (9, .pt (some 2) (.agg [i64V k, i64V (lastBd r).at_]) 0)]) [] [.obj c (bdC (lastBd r))] ?_ ?_
    · exact .cons (.refl _) (.cons (.refl _) (.cons (.refl _) (.cons (.refl _) (.cons (.all (k := 2) (List.Mem.head _) rfl (by decide) (by rw [hk]; exact VleL.refl _)) (.nil _)))))
    rw [← hk] at hw hlast
    apply wp_joinU
    case h1 =>
      intro rest
      (conv=>arg 2;whnf);refine wp_made fun t => ?_
      (conv=>arg 2;whnf);refine wp_loop (fun m fr R => ∃ (n t : Nat) (L : List Nat), m = p.els.length - n ∧ n < 2 ^ 61 ∧ ((L = [k] ∧ k < n ∧ ∀ i, k < i → i < n → i < p.els.length → ntAt p.els i = true) ∨ ∃ j, L = [k, j] ∧ nextE p k = some j) ∧ R = [.tok t none] ∧
          fr = frL [(2, kpsV l), (4, .pt (some 1) (scV s) 0), (5, .pt (some 4) (.agg (paC p)) 0), (7, .pt (some 1) (runV r) 0), (11, .sl none (natsV L) (.t t)), (12, i64V n)])
        (p.els.length - (k + 1)) _ _ (.cons (.refl _) (.cons (.refl _) (.cons (.refl _) (.cons (.refl _) (.cons (.refl _) (.cons (Vle.inc k rfl (by omega)) (.nil _))))))) (List.Sublist.refl _) ⟨k + 1, t, [k], rfl, by omega, .inl ⟨rfl, by omega, fun i h1 h2 => by omega⟩, rfl, rfl⟩ ?_
      clear t
      rintro m fr R ⟨n, t, L, rfl, hn, hL, rfl, rfl⟩
      rcases hL with ⟨rfl, hkn, hall⟩ | ⟨j, rfl, hj⟩
      · (conv=>arg 2;whnf);refine wp_ite (fun h => ?_) (fun h => ?_)
        · have h : n < p.els.length := by
            have := of_decide_eq_true h
            rw [List.length_map] at this; omega
          obtain ⟨e, he, hnt, _⟩ := nt_at p h
          (repeat ((conv=>arg 2;whnf);first|refine wp_it rfl ?_|refine wp_if rfl ?_))
          (conv=>arg 2;whnf);refine wp_elem n (elV e) rfl (els_at2 he) (Vle.refl _) ?_
          (conv=>arg 2;whnf);refine wp_ite (fun h1 => ?_) (fun h1 => ?_)
          · have h1 : ntAt p.els n = false := by rw [← hnt]; simpa using h1
            have hnx := next_hit hkn h (fun i a b => hall i a b (by omega)) h1
            (conv=>arg 2;whnf);refine wp_append_tok 0 rfl (okE_nat [n]) (show (1 + 1) * 8 ≤ _ by decide) fun t' => ?_
            (conv=>arg 2;whnf)
            refine wp_leaf (loop_next (p.els.length - (n + 1)) _ [.tok t' none] (by omega) (.cons (.refl _) (.cons (.refl _) (.cons (.refl _) (.cons (.refl _) (.cons (.refl _) (.cons (Vle.inc n rfl (by omega)) (.nil _))))))) (List.Sublist.refl _) ⟨n + 1, t', [k, n], rfl, by omega, .inr ⟨n, rfl, hnx⟩, rfl, rfl⟩)
          · have h1 : ntAt p.els n = true := by rw [← hnt]; simpa using h1
            (conv=>arg 2;whnf)
            refine wp_leaf (loop_next (p.els.length - (n + 1)) _ [.tok t none] (by omega) (.cons (.refl _) (.cons (.refl _) (.cons (.refl _) (.cons (.refl _) (.cons (.refl _) (.cons (Vle.inc n rfl (by omega)) (.nil _))))))) (List.Sublist.refl _) ⟨n + 1, t, [k], rfl, by omega, .inl ⟨rfl, by omega, fun i a b c => ?_⟩, rfl, rfl⟩)
            by_cases hin : i = n
            · rw [hin]; exact h1
            · exact hall i a (by omega) c
        · have h : p.els.length ≤ n := by
            have := of_decide_eq_false h
            rw [List.length_map] at this; omega
          have hnx : elemsE p k = [k] := by rw [elemsE, next_miss fun i a b => hall i a (by omega) b]; rfl
          have hv : Vle (.sl none (natsV [k]) (.t t)) (.sl none (natsV (elemsE p k)) .no) := by rw [hnx]; exact Vle.sl _ _ _
          (repeat ((conv=>arg 2;whnf);first|refine wp_it rfl ?_|refine wp_if rfl ?_))
          (conv=>arg 2;whnf)
          refine wp_leaf (loop_exit ?_)
          (conv=>arg 2;whnf)
          exact wp_cutR (frL [(2, kpsV l), (4, .pt (some 1) (scV s) 0), (5, .pt (some 4) (.agg (paC p)) 0), (7, .pt (some 1) (runV r) 0), (11, .sl none (natsV (elemsE p k)) .no)]) [] (.cons (.refl _) (.cons (.refl _) (.cons (.refl _) (.cons (.refl _) (.cons (Vle.got rfl hv) (.nil _)))))) (List.nil_sublist _) (rest ())
      · have hnx : elemsE p k = [k, j] := by rw [elemsE, hj]; rfl
        have hv : Vle (.sl none (natsV [k, j]) (.t t)) (.sl none (natsV (elemsE p k)) .no) := by rw [hnx]; exact Vle.sl _ _ _
        (conv=>arg 2;whnf);refine wp_ite (fun h => ?_) (fun h => ?_)
        · (repeat ((conv=>arg 2;whnf);first|refine wp_it rfl ?_|refine wp_if rfl ?_))
          (conv=>arg 2;whnf)
          refine wp_leaf (loop_exit ?_)
          (conv=>arg 2;whnf)
          exact wp_cutR (frL [(2, kpsV l), (4, .pt (some 1) (scV s) 0), (5, .pt (some 4) (.agg (paC p)) 0), (7, .pt (some 1) (runV r) 0), (11, .sl none (natsV (elemsE p k)) .no)]) [] (.cons (.refl _) (.cons (.refl _) (.cons (.refl _) (.cons (.refl _) (.cons (Vle.got rfl hv) (.nil _)))))) (List.nil_sublist _) (rest ())
        · (repeat ((conv=>arg 2;whnf);first|refine wp_it rfl ?_|refine wp_if rfl ?_))
          (conv=>arg 2;whnf)
          refine wp_leaf (loop_exit ?_)
          (conv=>arg 2;whnf)
          exact wp_cutR (frL [(2, kpsV l), (4, .pt (some 1) (scV s) 0), (5, .pt (some 4) (.agg (paC p)) 0), (7, .pt (some 1) (runV r) 0), (11, .sl none (natsV (elemsE p k)) .no)]) [] (.cons (.refl _) (.cons (.refl _) (.cons (.refl _) (.cons (.refl _) (.cons (Vle.got rfl hv) (.nil _)))))) (List.nil_sublist _) (rest ())
    case rest =>
      have hel : (elemsE p k).length ≤ 2 := by
        rw [elemsE]; cases nextE p k <;> simp
      have hfm : ((elemsE p k).filterMap (withE s p l r)).length ≤ 2 := Nat.le_trans (List.length_filterMap_le _ _) hel
      (conv=>arg 2;whnf);refine wp_loop (fun m fr R => ∃ (n : Nat) (t : Option Nat), m = (elemsE p k).length - n ∧ n ≤ (elemsE p k).length ∧ (t = none → ((elemsE p k).take n).filterMap (withE s p l r) = []) ∧ R = tokR (some 1) t ∧
          fr = frL [(2, kpsV l), (4, .pt (some 1) (scV s) 0), (5, .pt (some 4) (.agg (paC p)) 0), (7, .pt (some 1) (runV r) 0), (13, .sl (shOf (some 1) t) ((((elemsE p k).take n).filterMap (withE s p l r)).map runV) (tkOf t)), (59, .sl none (natsV (elemsE p k)) .no), (60, i64V (elemsE p k).length), (61, i64V n)])
        (elemsE p k).length _ _ (.cons (.refl _) (.cons (.refl _) (.cons (.refl _) (.cons (.refl _) (.cons (.refl _) (.cons (.refl _) (.cons (Vle.i64 _ rfl (by rw [natsV, List.length_map])) (.cons (.refl _) (.nil _))))))))) (List.Sublist.refl _) ⟨0, none, rfl, Nat.zero_le _, fun _ => rfl, rfl, rfl⟩ ?_
      rintro m fr R ⟨n, t, rfl, hn, ht, rfl, rfl⟩
      (conv=>arg 2;whnf);refine wp_ite (fun h => ?_) (fun h => ?_)
      · have h : n < (elemsE p k).length := by have := of_decide_eq_true h; omega
        obtain ⟨i, hi⟩ : ∃ i, (elemsE p k)[n]? = some i := ⟨_, List.getElem?_eq_getElem h⟩
        have hnx : ((elemsE p k).take (n + 1)).filterMap (withE s p l r) = ((elemsE p k).take n).filterMap (withE s p l r) ++ (withE s p l r i).toList := by
          rw [List.take_add_one, hi, List.filterMap_append]
          cases hw : withE s p l r i <;> simp [hw]
        have fw := with_call s hs p hp l hl r hr hrn i (elems_lt (List.mem_of_getElem? hi) hlast hpn)
        (conv=>arg 2;whnf);refine wp_elem n (i64V i) rfl (nats_at hi) (Vle.refl _) ?_
        cases hwi : withE s p l r i with
        | none =>
          rw [hwi] at fw hnx
          rw [show ((none : Option (List Bd)).toList) = [] from rfl, List.append_nil] at hnx
          (conv=>arg 2;whnf);refine wp_pcall fw ?_
          (conv=>arg 2;whnf);refine wp_allocE runZ rfl fun c => ?_
          (conv=>arg 2;whnf);refine wp_storeE (cs := runZ) (tokR (some 1) t).length 0 (runC []) (by simp) rfl (VleL.refl _) (Nat.le_refl _) rfl (R' := tokR (some 1) t ++ [.obj c (runC [])]) (by simp [splice, runZ, runC]) ?_
          (repeat ((conv=>arg 2;whnf);first|refine wp_it rfl ?_|refine wp_if rfl ?_))
          (conv=>arg 2;whnf)
          exact wp_leaf (loop_next ((elemsE p k).length - (n + 1)) _ (tokR (some 1) t) (by omega) (.cons (.refl _) (.cons (.refl _) (.cons (.refl _) (.cons (.refl _) (.cons (Vle.of (.sl (shOf (some 1) t) ((((elemsE p k).take n).filterMap (withE s p l r)).map runV) (tkOf t)) rfl (by rw [hnx])) (.cons (.refl _) (.cons (.refl _) (.cons (Vle.inc n rfl (by omega)) (.nil _))))))))) (by simp) ⟨n + 1, t, rfl, h, (fun e => by rw [hnx]; exact ht e), rfl, rfl⟩)
        | some x =>
          rw [hwi] at fw hnx
          have hnx : ((elemsE p k).take (n + 1)).filterMap (withE s p l r) = ((elemsE p k).take n).filterMap (withE s p l r) ++ [x] := hnx
          have hle2 : (((elemsE p k).take n).filterMap (withE s p l r)).length ≤ 2 := Nat.le_trans (List.length_filterMap_le _ _) (by rw [List.length_take]; omega)
          (conv=>arg 2;whnf);refine wp_pcall fw ?_
          (conv=>arg 2;whnf);refine wp_allocE runZ rfl fun c => ?_
          (conv=>arg 2;whnf);refine wp_storeE (cs := runZ) (tokR (some 1) t).length 0 (runC x) (by simp) rfl (VleL.refl _) (Nat.le_refl _) rfl (R' := tokR (some 1) t ++ [.obj c (runC x)]) (by simp [splice, runZ, runC]) ?_
          (repeat ((conv=>arg 2;whnf);first|refine wp_it rfl ?_|refine wp_if rfl ?_))
          (conv=>arg 2;whnf);refine wp_load (cs := runC x) (tokR (some 1) t).length (by simp) rfl ?_
          (conv=>arg 2;whnf);refine wp_append_x (A := []) (B := [.obj c (runC x)]) (sh := some 1) (t := t) (xs := (((elemsE p k).take n).filterMap (withE s p l r)).map runV) (ys := [runV x]) (fun h => by rw [ht h]; rfl) (okE_run [x]) (show (_ + 1) * 24 ≤ _ by rw [List.length_map]; omega) (fun t' S' hS => ?_)
          (conv=>arg 2;whnf)
          refine wp_leaf (loop_next ((elemsE p k).length - (n + 1)) _ [.tok t' (some 1)] (by omega) (.cons (.refl _) (.cons (.refl _) (.cons (.refl _) (.cons (.refl _) (.cons (Vle.of (.sl (some 1) ((((elemsE p k).take n).filterMap (withE s p l r)).map runV ++ [runV x]) (.t t')) rfl ?_) (.cons (.refl _) (.cons (.refl _) (.cons (Vle.inc n rfl (by omega)) (.nil _))))))))) hS ⟨n + 1, some t', rfl, h, (fun e => by cases e), rfl, rfl⟩)
          rw [hnx, List.map_append]; rfl
      · have h : n = (elemsE p k).length := by have := of_decide_eq_false h; omega
        rw [h, List.take_length] at ht ⊢
        (conv=>arg 2;whnf)
        refine wp_leaf (loop_exit ?_)
        rw [hw]
        have hv : Vle (.sl (shOf (some 1) t) (((elemsE p k).filterMap (withE s p l r)).map runV) (tkOf t)) (runsV ((elemsE p k).filterMap (withE s p l r))) := by
          cases t with
          | none => rw [ht rfl]; exact Vle.nil _ _ _
          | some t => exact Vle.sl _ _ _
        (conv=>arg 2;whnf);refine w_ret1 rfl hv (List.nil_sublist _) rfl
end Go.Sv
