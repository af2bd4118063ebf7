/- The package disk: writing, reading, syncing. -/
import Derived.Test.YtgkfpgkpdkmjbaaDiskFns
import Derived.Test.YtgkfpgkpdkmjbaaLibDisk
import Derived.Test.YtgkfpgkpdkmjbaaBytes4
import Derived.Test.YtgkfpgkpdkmjbaaSvEffU
namespace Go.Sv
open Go Go.Proofs

def wV (w : Nat × List UInt8) : V := .agg [i64V w.1, str w.2]
def slS (l : List (List UInt8)) : V := .sl none (l.map str) .no
def looseV (t : Option Nat) (l : List (Nat × List UInt8)) : V :=
  match t with
  | none => .sl none [] .zero
  | some t => .sl (some 2) (l.map wV) (.t t)
def dkC (t : Option Nat) (D : Dk) : List V := [slS D.sure, looseV t D.loose, i64V (D.left : Nat), bV D.gone]
def shOf (sh : Option Nat) (t : Option Nat) : Option Nat := match t with | none => none | some _ => sh
theorem shOf_eq {sh : Option Nat} {t : Option Nat} (h : t ≠ none) : shOf sh t = sh := by cases t with | none => exact absurd rfl h | some _ => rfl
theorem looseV_eq {t : Option Nat} {l : List (Nat × List UInt8)} (h : t = none → l = []) : looseV t l = .sl (shOf (some 2) t) (l.map wV) (tkOf t) := by
  cases t with
  | none => rw [h rfl]; rfl
  | some _ => rfl
def DRes (d : Nat) (t : Option Nat) (D : Dk) : List Res := [.obj d (dkC t D)] ++ tokR (some 2) t

def dwPost (d : Nat) (t : Option Nat) (D : Dk) (r : Except Nat Dk) (v : V) (R' : List Res) : Prop :=
  match r with
  | .error c => v = .c (errV (some c)) ∧ R' = DRes d t D
  | .ok D' => v = .c .nilIface ∧ ∃ t', R' = DRes d (some t') D'

theorem okE_wV {l : List (Nat × List UInt8)} : ∀ y ∈ l.map wV, okE (some 2) y := by
  intro y hy
  obtain ⟨w, _, rfl⟩ := List.mem_map.1 hy
  exact ⟨_, rfl, rfl, by intro c hc; simp at hc; rcases hc with rfl | rfl <;> rfl⟩

theorem okE_one {k : Nat} {cs : List V} (h : cs.length = k) (h1 : (cs.all oneV) = true) : ∀ y ∈ [V.agg cs], okE (some k) y := by
  intro y hy
  rw [List.mem_singleton.1 hy]
  exact ⟨cs, rfl, h, fun c hc => List.all_eq_true.1 h1 c hc⟩

def dkL (t : Option Nat) (D : Dk) : List V := [slS D.sure, .sl (shOf (some 2) t) (D.loose.map wV) (tkOf t), i64V (D.left : Nat), bV D.gone]
theorem DRes_eq {d : Nat} {t : Option Nat} {D : Dk} (ht : t = none → D.loose = []) : DRes d t D = [.obj d (dkL t D)] ++ tokR (some 2) t := by
  rw [DRes, dkC, looseV_eq ht]; rfl

set_option maxRecDepth 100000 in
theorem dwrite_call (d : Nat) (t : Option Nat) (D : Dk) (i : Int) (s : List UInt8) (ht : t = none → D.loose = []) (hl : D.loose.length < 2 ^ 40) (hlf : D.left < 2 ^ 62) (hs : s.length < 2 ^ 60) :
    SCall Try.prog 36 [.loc d 0, i64V i, str s] (DRes d t D) (dwPost d t D (dWrite D i s)) := by
  have e0 := DRes_eq (d := d) ht
  refine e0 ▸ ?_
  refine scall_of (live := [30]) (ords := []) Try.func36 rfl (by kernel_rfl) (by kernel_rfl) (Nat.le_of_ble_eq_true rfl) ?_
  (conv => arg 2; whnf); refine wp_load 0 rfl rfl ?_
  (conv => arg 2; whnf); refine wp_ite (fun h => ?_) (fun h => ?_)
  · (conv => arg 2; whnf); refine w_ret1 rfl (.refl _) (List.Sublist.refl _) ?_
    rw [dWrite, if_pos h]; exact ⟨rfl, e0.symm⟩
  (conv => arg 2; whnf); refine wp_ite (fun h1 => ?_) (fun h1 => ?_)
  · (conv => arg 2; whnf); refine wp_ite (fun _ => ?_) (fun h => by first | cases h | (simp at h; done))
    (conv => arg 2; whnf); refine w_ret1 rfl (.refl _) (List.Sublist.refl _) ?_
    have h1 := of_decide_eq_true h1
    rw [dWrite, if_neg (by simp [h]), if_pos (.inl h1)]; exact ⟨rfl, e0.symm⟩
  (conv => arg 2; whnf); refine wp_ite (fun h2 => ?_) (fun h2 => ?_)
  · (conv => arg 2; whnf); refine w_ret1 rfl (.refl _) (List.Sublist.refl _) ?_
    have h2 := of_decide_eq_true h2
    rw [dWrite, if_neg (by simp [h]), if_pos (.inr h2)]; exact ⟨rfl, e0.symm⟩
  have h1 := of_decide_eq_false h1
  have h2 := of_decide_eq_false h2
  (conv => arg 2; whnf); refine wp_ite (fun h3 => ?_) (fun h3 => ?_)
  · (conv => arg 2; whnf); refine w_ret1 rfl (.refl _) (List.Sublist.refl _) ?_
    have h3 := of_decide_eq_true h3
    simp only [S_size] at h3
    rw [dWrite, if_neg (by simp [h]), if_neg (by omega), if_pos (by omega)]; exact ⟨rfl, e0.symm⟩
  have h3 := of_decide_eq_false h3
  simp only [S_size] at h3
  have hw : dWrite D i s = .ok (dWritten D i.toNat s) := by rw [dWrite, if_neg (by simp [h]), if_neg (by omega), if_neg (by omega)]
  rw [hw]
  have e1 : IntKind.i64.wrap (64 - ((S s).size : Int)) = ((64 - s.length : Nat) : Int) := by rw [S_size, w_i64]; omega
  (conv => arg 2; whnf); refine wp_load 0 rfl rfl ?_
  (conv => arg 2; whnf)
  refine wp_pcV (.cons (.refl _) (.cons (Vle.eq (cI64 e1)) .nil)) (repeat_call (64 - s.length) (by omega)) ?_
  (conv => arg 2; whnf); refine wp_need (by simp only [S_size, List.length_replicate]; omega) ?_
  (conv => arg 2; whnf)
  refine wp_append_w (A := [.obj d (dkL t D)]) (sh := some 2) (sh' := shOf (some 2) t) (t := t) (xs := D.loose.map wV) (ys := [.agg [i64V i, .c (.string (S s ++ S (List.replicate (64 - s.length) 0)))]]) (by rintro rfl; simp [ht rfl]) shOf_eq (okE_one rfl rfl) (show (_ + 1) * 24 ≤ _ by simp; omega) (fun t' => ?_)
  have ed : [Res.obj d (splice (dkL t D) 1 [V.sl (some 2) (D.loose.map wV ++ [V.agg [i64V i, V.c (.string (S s ++ S (List.replicate (64 - s.length) 0)))]]) (.t t')])] ++ [Res.tok t' (some 2)] = DRes d (some t') { D with loose := D.loose ++ [(i.toNat, pad s)] } := by
    have e2 : (i.toNat : Int) = i := by omega
    simp [DRes, dkC, dkL, splice, looseV, wV, tokR, pad, i64V, str, e2]
  (conv => arg 2; whnf); refine wp_storeE 0 1 [V.sl (some 2) (D.loose.map wV ++ [V.agg [i64V i, V.c (.string (S s ++ S (List.replicate (64 - s.length) 0)))]]) (.t t')] rfl rfl (VleL.refl _) (by simp [dkL]) rfl ed ?_
  clear ed e0
  (conv => arg 2; whnf); refine wp_load 0 rfl rfl ?_
  (conv => arg 2; whnf); refine wp_ite (fun h4 => ?_) (fun h4 => ?_)
  · have h4 : D.left > 0 := by have := of_decide_eq_true h4; simp only at this; omega
    (conv => arg 2; whnf); refine wp_load 0 rfl rfl ?_
    (conv => arg 2; whnf); refine wp_storeE 0 2 [i64V ((D.left - 1 : Nat) : Int)] rfl rfl (.cons (Vle.eq ?_) .nil) (by simp [dkC]) rfl rfl ?_
    · refine cI64 ?_
      show IntKind.i64.wrap ((D.left : Int) - 1) = _
      rw [w_i64]; omega
    (conv => arg 2; whnf); refine wp_load 0 rfl rfl ?_
    (conv => arg 2; whnf); refine wp_storeE 0 3 [bV (D.left == 1)] rfl rfl (.cons (Vle.eq ?_) .nil) (by simp [dkC, splice]) rfl rfl ?_
    · refine cBool ?_
      rw [Bool.eq_iff_iff]; simp; omega
    (conv => arg 2; whnf); refine w_ret1 rfl (.refl _) (List.Sublist.refl _) ?_
    refine ⟨rfl, t', ?_⟩
    simp [DRes, dkC, dWritten, splice, tokR, h4]
  · have h4 : ¬ D.left > 0 := by have := of_decide_eq_false h4; simp only at this; omega
    (conv => arg 2; whnf); refine w_ret1 rfl (.refl _) (List.Sublist.refl _) ?_
    refine ⟨rfl, t', ?_⟩
    have e0 : D.left = 0 := by omega
    simp [DRes, dkC, dWritten, tokR, e0]

theorem bmul_fn : isFn Try.prog 58 := ⟨_, _, Try.func58, rfl, by kernel_rfl⟩
theorem flat_one {n : Nat} {v : V} : (List.replicate n [v]).flatten = List.replicate n v := by
  induction n with
  | zero => rfl
  | succ n ih => simp [List.replicate_succ, ih]

set_option maxRecDepth 100000 in
theorem srepeat_call (s : V) (h1 : oneV s = true) (k : Nat) (hk : 1 ≤ k) (hk2 : k ≤ 1000000) : PCall Try.prog 48 [.sl none [s] .no, i64V k] (.sl none (List.replicate k s) .no) := by
  refine scall_of (live := [30, 33, 45]) (ords := []) Try.func48 rfl (by kernel_rfl) (by kernel_rfl) (Nat.le_of_ble_eq_true rfl) ?_
  (conv => arg 2; whnf); refine wp_ite (fun h => by have := of_decide_eq_true h; omega) (fun _ => ?_)
  have e1 : IntKind.u64.wrap (k : Int) = k := by rw [w_u64]; omega
  have hmul : PCall Try.prog 58 [.c (.int .u64 1), .c (.int .u64 k)] (.tup [.c (.int .u64 0), .c (.int .u64 k)]) :=
    pcall_of_below bmul_fn fun g w xs _ hx => by
      obtain ⟨p, q, rfl, hp, hq⟩ := relL2 hx
      simp only [RelV] at hp hq
      subst hp; subst hq
      refine (Try.bits_Mul 1 k (by omega) (by omega) w).mono fun e w' ⟨h1, h2⟩ => ⟨_, h1, by subst h2; exact RowKit.Below.refl _ _, ?_⟩
      have e3 : 1 * k / 18446744073709551616 = 0 := by omega
      have e4 : 1 * k % 18446744073709551616 = k := by omega
      rw [e3, e4]
      simp only [RelV]
      exact ⟨_, rfl, by simp [RelL, RelV]⟩
  (conv => arg 2; whnf)
  refine wp_pcallV (.cons (Vle.eq ?_) (.cons (Vle.eq (congrArg (fun z => V.c (.int .u64 z)) e1)) .nil)) hmul ?_
  · rfl
  (conv => arg 2; whnf); refine wp_ite (fun h => by first | cases h | (simp at h; done)) (fun _ => ?_)
  (conv => arg 2; whnf); refine wp_ite (fun h => by have := of_decide_eq_true h; omega) (fun _ => ?_)
  have e2 : IntKind.i64.wrap (k : Int) = k := by rw [w_i64]; omega
  (conv => arg 2; whnf); refine wp_makeE k k (List.replicate k (str [])) e2 e2 (Nat.le_refl _) (show (k : Int) * 16 ≤ 140737488355328 by omega) flat_one fun b => ?_
  have e6 : splice (List.replicate k (str [])) 0 [s] = List.replicate 1 s ++ List.replicate (k - 1) (str []) := by
    simp [splice]
  (conv => arg 2; whnf); refine wp_copyE 0 0 [s] (List.replicate 1 s ++ List.replicate (k - 1) (str [])) 1 rfl rfl (show VleL ([s].take k) [s] by rw [List.take_of_length_le hk]; exact VleL.refl _) ?_ (show 0 + k * 1 ≤ (List.replicate k (str [])).length by simp) e6 (show min 1 k = 1 by omega) rfl ?_
  · intro y hy; rw [List.mem_singleton.1 hy]; exact h1
  (conv => arg 2; whnf); refine wp_loop (fun m fr R => ∃ n : Nat, m = k - n ∧ 1 ≤ n ∧ n ≤ k ∧ R = [.obj b (List.replicate n s ++ List.replicate (k - n) (str []))] ∧ fr = frL [(7, .lsl none b 0 k k), (8, i64V (n : Nat))])
    (k - 1) _ _ (.cons (.refl _) (.cons (.refl _) (.nil _))) (List.Sublist.refl _) ⟨1, rfl, Nat.le_refl _, hk, rfl, rfl⟩ ?_
  rintro m fr R ⟨n, rfl, hn1, hn2, rfl, rfl⟩
  (conv => arg 2; whnf); refine wp_ite (fun h => ?_) (fun h => ?_)
  · have h : n < k := by have := of_decide_eq_true h; omega
    (conv => arg 2; whnf); refine wp_need ⟨by omega, by omega⟩ ?_
    (conv => arg 2; whnf); refine wp_need ⟨by omega, by omega⟩ ?_
    have e7 : ((List.replicate n s ++ List.replicate (k - n) (str [])).drop 0).take (min n (k - n) * 1) = List.replicate (min n (k - n)) s := by
      rw [List.drop_zero, Nat.mul_one, List.take_append_of_le_length (by simp; omega), List.take_replicate]
      congr 1; omega
    have e8 : splice (List.replicate n s ++ List.replicate (k - n) (str [])) n (List.replicate (min n (k - n)) s) = List.replicate (n + min n (k - n)) s ++ List.replicate (k - (n + min n (k - n))) (str []) := by
      have h9 : List.drop (n + min n (k - n)) (List.replicate n s ++ List.replicate (k - n) (str [])) = List.replicate (k - (n + min n (k - n))) (str []) := by
        rw [List.drop_append, List.length_replicate, List.drop_of_length_le (by simp), List.nil_append, List.drop_replicate]
        congr 1; omega
      rw [splice, List.length_replicate, h9, List.take_left' (by simp), List.replicate_append_replicate]
    (conv => arg 2; whnf); refine wp_copyLE 0 0 n 0 (k - n) n (List.replicate (min n (k - n)) s) (List.replicate (n + min n (k - n)) s ++ List.replicate (k - (n + min n (k - n))) (str [])) (min n (k - n)) rfl rfl ?_ ?_ ?_ ?_ (by simp [width]) (by simp [width]) e7 ?_ e8 rfl rfl ?_
    · simp [width]
    · simp [width]
    · omega
    · omega
    · intro v hv; rw [List.eq_of_mem_replicate hv]; exact h1
    (conv => arg 2; whnf)
    refine wp_leaf ?_
    refine loop_next (k - (n + min n (k - n))) _ _ ?_ (.cons (.refl _) (.cons ?_ (.nil _))) (List.Sublist.refl _) ⟨n + min n (k - n), rfl, by omega, by omega, rfl, rfl⟩
    · omega
    · refine Vle.eq (cI64 ?_)
      show IntKind.i64.wrap ((n : Int) + ((min n (k - n) : Nat) : Int)) = ((n + min n (k - n) : Nat) : Int)
      rw [w_i64]; omega
  · have h : n = k := by have := of_decide_eq_false h; omega
    subst h
    (conv => arg 2; whnf)
    refine wp_leaf (loop_exit ?_)
    rw [Nat.sub_self]
    (conv => arg 2; whnf)
    refine w_ret1F 0 rfl rfl ?_ (FrzR.drops _) rfl
    have := Frz.all1 (b := b) (xs := List.replicate n s) (sp := []) (cap := n)
    rw [List.length_replicate, List.append_nil] at this
    show Frz b (List.replicate n s ++ []) (V.lsl none b 0 n n) _
    rw [List.append_nil]
    exact this

theorem true_call (f : FuncId) (n : Nat) (hf : f = 56 ∨ f = 57) : PCall Try.prog f [i64V n] (bV true) := by
  rcases hf with rfl | rfl
  · refine scall_of (live := []) (ords := []) Try.func56 rfl (by kernel_rfl) (by kernel_rfl) (Nat.le_of_ble_eq_true rfl) ?_
    (conv => arg 2; whnf); refine w_retp rfl (.refl _)
  · refine scall_of (live := []) (ords := []) Try.func57 rfl (by kernel_rfl) (by kernel_rfl) (Nat.le_of_ble_eq_true rfl) ?_
    (conv => arg 2; whnf); refine w_retp rfl (.refl _)

def slB (l : List Bool) : V := .sl none (l.map bV) .no
set_option maxRecDepth 100000 in
theorem crash1_call (keep : List Bool) (n : Nat) : PCall Try.prog 55 [i64V n, .pt none (slB keep) 0] (bV (keep.getD n false)) := by
  refine scall_of (live := []) (ords := []) Try.func55 rfl (by kernel_rfl) (by kernel_rfl) (Nat.le_of_ble_eq_true rfl) ?_
  (conv => arg 2; whnf); refine wp_ite (fun h => ?_) (fun h => ?_)
  · have h : n < keep.length := by have := of_decide_eq_true h; simp at this; omega
    (conv => arg 2; whnf); refine wp_elem n (bV keep[n]) rfl (by simp [h]) (Vle.refl _) ?_
    (conv => arg 2; whnf); refine w_retp rfl (Vle.eq ?_)
    simp [bV, h]
    rfl
  · have h : ¬ n < keep.length := by have := of_decide_eq_false h; simp at this; omega
    (conv => arg 2; whnf); refine w_retp rfl (Vle.eq ?_)
    simp [bV, h]
    rfl

set_option maxRecDepth 100000 in
theorem dnew_call : SCall Try.prog 30 [] [] fun v R' => ∃ d, v = .loc d 0 ∧ R' = DRes d none dNew := by
  refine scall_of (live := [5]) (ords := []) Try.func30 rfl (by kernel_rfl) (by kernel_rfl) (Nat.le_of_ble_eq_true rfl) ?_
  (conv => arg 2; whnf); refine wp_pcall (repeat_call 64 (by omega)) ?_
  (conv => arg 2; whnf); refine wp_pcall (srepeat_call (str (List.replicate 64 0)) rfl 400 (by omega) (by omega)) ?_
  (conv => arg 2; whnf); refine wp_allocE [.sl none (List.replicate 400 (str (List.replicate 64 0))) .no, .sl none [] .zero, i64V 0, bV false] rfl fun d => ?_
  (conv => arg 2; whnf); refine w_ret1 rfl (.refl _) (List.Sublist.refl _) ⟨d, rfl, ?_⟩
  have e1 : ∀ (n : Nat) (x : List UInt8), (List.replicate n x).map str = List.replicate n (str x) := fun n x => List.map_replicate
  simp only [DRes, dkC, tokR, List.append_nil, slS, looseV, dNew, e1]
  rfl
set_option maxRecDepth 100000 in
theorem dcut_call (d : Nat) (t : Option Nat) (D : Dk) (n : Int) (h1 : -9223372036854775808 ≤ n) (h2 : n < 9223372036854775808) : SCall Try.prog 32 [.loc d 0, i64V n] (DRes d t D) fun _ R' => R' = DRes d t (dCut D n) := by
  refine scall_of (live := []) (ords := []) Try.func32 rfl (by kernel_rfl) (by kernel_rfl) (Nat.le_of_ble_eq_true rfl) ?_
  (conv => arg 2; whnf); refine wp_storeE 0 2 [i64V ((max n 0).toNat : Int)] rfl rfl (.cons (Vle.eq (cI64 (by omega))) .nil) (by simp [dkC]) rfl rfl ?_
  (conv => arg 2; whnf); refine w_norm0 rfl (List.Sublist.refl _) ?_
  simp [DRes, dkC, dCut, splice]
set_option maxRecDepth 100000 in
theorem dloose_call (d : Nat) (t : Option Nat) (D : Dk) (ht : t = none → D.loose = []) : SCall Try.prog 35 [.loc d 0] (DRes d t D) fun v R' => v = i64V D.loose.length ∧ R' = DRes d t D := by
  refine scall_of (live := []) (ords := []) Try.func35 rfl (by kernel_rfl) (by kernel_rfl) (Nat.le_of_ble_eq_true rfl) ?_
  have e0 := DRes_eq (d := d) ht
  refine e0 ▸ ?_
  (conv => arg 2; whnf); refine wp_load 0 rfl rfl ?_
  (conv => arg 2; whnf); refine w_ret1 rfl (Vle.eq ?_) (List.Sublist.refl _) ⟨rfl, rfl⟩
  show V.c (.int .i64 (D.loose.map wV).length) = _
  rw [List.length_map]; rfl
end Go.Sv
