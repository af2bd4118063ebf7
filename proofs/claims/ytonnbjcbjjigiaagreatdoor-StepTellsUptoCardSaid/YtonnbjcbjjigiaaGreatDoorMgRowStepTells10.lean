/- Parts of the proof, one behind the other. -/
import Derived.Test.YtonnbjcbjjigiaaGreatDoorMgRowStepTells8
import Derived.Test.YtonnbjcbjjigiaaGreatDoorShelf
import Derived.Test.YtonnbjcbjjigiaaGreatDoorMgRowStepTells5
import Derived.Test.YtonnbjcbjjigiaaGreatDoorMgRowStepTells4
import Derived.Test.YtonnbjcbjjigiaaGreatDoorMgRowStepTells7
namespace Go.Sv
open Go Go.Proofs Go.Sort
theorem sortLaw (f : FuncId) (hf : isFn Tryz.prog f) : SortLaw Tryz.prog 52 f := by
  intro α _ enc cf blk off cap d w hk h1 hO hcmp hH hblk hsz
  have eg : ∀ args w, (callFunc f args).run Tryz.prog w = .ok (.enter f args) w := by
    intro args w
    obtain ⟨fn, c, h1, h2, h3⟩ := hf
    have hn' : ¬ fn.name = "runtime.NumGoroutine" := by simpa using h3
    simp [callFunc, h1, h2, hn']
  exact AnyQ.slices_SortFunc Tryz.sortL 1 (fun _ => by kernel_rfl) (fun _ => by kernel_rfl) enc hk h1 cf hO f #[] blk off cap d w eg hcmp hH hblk hsz
end Go.Sv
namespace Go.Sv
open Go Go.Proofs Go.Sort
def StrictR (l : List (List Bd)) : Prop := l.Pairwise fun a b => ordR a b < 0
def insE (x : List Bd) : List (List Bd) → List (List Bd)
  | [] => [x]
  | y :: l => if ordR x y < 0 then x :: y :: l else if ordR x y = 0 then y :: l else y :: insE x l
def sortedE (l : List (List Bd)) : List (List Bd) := l.foldr insE []
theorem cmpR_neg {a b : List Bd} : cmpR a b < 0 ↔ ordR a b < 0 := by
  have h1 := ordR_swap a b
  unfold cmpR lessR
  by_cases h : ordR a b < 0
  · rw [if_pos (by simpa using h)]; simp [h]
  · rw [if_neg (by simpa using h)]
    split <;> simp [h]
theorem mem_insE {x z : List Bd} : ∀ {l : List (List Bd)}, z ∈ insE x l ↔ z = x ∨ z ∈ l
  | [] => by simp [insE]
  | y :: l => by
    unfold insE
    split
    · simp
    · split
      · rename_i h
        have := ordR_zero.1 h
        subst this
        simp
      · simp only [List.mem_cons, mem_insE (l := l)]
        constructor <;> (intro h; rcases h with h | h | h <;> simp [h])
theorem strict_insE {x : List Bd} : ∀ {l : List (List Bd)}, StrictR l → StrictR (insE x l)
  | [], _ => List.pairwise_singleton _ _
  | y :: l, h => by
    have h' := List.pairwise_cons.1 h
    unfold insE
    split
    · rename_i hxy
      refine List.pairwise_cons.2 ⟨fun z hz => ?_, h⟩
      rcases List.mem_cons.1 hz with rfl | hz
      · exact hxy
      · exact ordR_trans hxy (h'.1 z hz)
    · split
      · exact h
      · rename_i h1 h2
        have hyx : ordR y x < 0 := by have := ordR_swap x y; omega
        refine List.pairwise_cons.2 ⟨fun z hz => ?_, strict_insE h'.2⟩
        rcases mem_insE.1 hz with rfl | hz
        · exact hyx
        · exact h'.1 z hz
theorem strict_sortedE : ∀ l : List (List Bd), StrictR (sortedE l)
  | [] => List.Pairwise.nil
  | _ :: l => strict_insE (strict_sortedE l)
theorem mem_sortedE {z : List Bd} : ∀ {l : List (List Bd)}, z ∈ sortedE l ↔ z ∈ l
  | [] => Iff.rfl
  | x :: l => by
    rw [show sortedE (x :: l) = insE x (sortedE l) from rfl, mem_insE, mem_sortedE (l := l), List.mem_cons]
theorem strict_uniq : ∀ {a b : List (List Bd)}, StrictR a → StrictR b → (∀ x, x ∈ a ↔ x ∈ b) → a = b
  | [], [], _, _, _ => rfl
  | [], y :: b, _, _, h => by have := (h y).2 (by simp); cases this
  | x :: a, [], _, _, h => by have := (h x).1 (by simp); cases this
  | x :: a, y :: b, ha, hb, h => by
    have ha' := List.pairwise_cons.1 ha
    have hb' := List.pairwise_cons.1 hb
    have hxy : x = y := by
      rcases List.mem_cons.1 ((h x).1 (by simp)) with e | h1
      · exact e
      · rcases List.mem_cons.1 ((h y).2 (by simp)) with e | h2
        · exact e.symm
        · have := hb'.1 x h1
          have := ha'.1 y h2
          have := ordR_swap x y
          omega
    subst hxy
    have irr : ∀ z, ordR z z = 0 := fun z => ordR_zero.2 rfl
    rw [strict_uniq ha'.2 hb'.2 fun z => ?_]
    constructor
    · intro hz
      rcases List.mem_cons.1 ((h z).1 (by simp [hz])) with e | h1
      · subst e
        have := ha'.1 z hz
        have := irr z
        omega
      · exact h1
    · intro hz
      rcases List.mem_cons.1 ((h z).2 (by simp [hz])) with e | h1
      · subst e
        have := hb'.1 z hz
        have := irr z
        omega
      · exact h1
theorem compG_sorted : ∀ (l : List (List Bd)) (p : List Bd), (p :: l).Pairwise (fun x y => cmpR y x < 0 → False) → StrictR (p :: compG eqR p l) ∧ ∀ x, x ∈ p :: compG eqR p l ↔ x ∈ p :: l
  | [], p, _ => ⟨List.pairwise_singleton _ _, fun x => Iff.rfl⟩
  | y :: l, p, h => by
    have h' := List.pairwise_cons.1 h
    obtain ⟨i1, i2⟩ := compG_sorted l y h'.2
    simp only [compG]
    split
    · rename_i he
      rw [eqR_eq] at he
      have he := of_decide_eq_true he
      subst he
      exact ⟨i1, fun x => by rw [i2]; simp⟩
    · rename_i he
      rw [eqR_eq] at he
      have he : y ≠ p := fun e => he (decide_eq_true e)
      have hpy : ordR p y < 0 := by
        have h1 : ¬ ordR y p < 0 := fun h => h'.1 y (by simp) (cmpR_neg.2 h)
        have h2 := ordR_swap p y
        have h3 : ordR p y ≠ 0 := fun e => he (ordR_zero.1 e).symm
        omega
      refine ⟨List.pairwise_cons.2 ⟨fun z hz => ?_, i1⟩, fun x => ?_⟩
      · rcases List.mem_cons.1 hz with rfl | hz
        · exact hpy
        · exact ordR_trans hpy ((List.pairwise_cons.1 i1).1 z hz)
      · rw [List.mem_cons, i2 x, ← List.mem_cons]
theorem comp_sorted {l l' : List (List Bd)} (hp : l'.Perm l) (hs : l'.Pairwise (fun x y => cmpR y x < 0 → False)) : compL eqR l' = sortedE l := by
  cases l' with
  | nil => rw [List.nil_perm.1 hp]; rfl
  | cons p t =>
    obtain ⟨h1, h2⟩ := compG_sorted t p hs
    refine strict_uniq h1 (strict_sortedE l) fun x => ?_
    rw [mem_sortedE, ← hp.mem_iff]
    exact h2 x
theorem swoR : SWO (ltOf cmpR) := by
  have e : ∀ x y, ltOf cmpR x y = decide (ordR x y < 0) := fun x y => by
    unfold ltOf
    by_cases h : ordR x y < 0
    · rw [decide_eq_true h, decide_eq_true (cmpR_neg.2 h)]
    · rw [decide_eq_false h, decide_eq_false (fun h' => h (cmpR_neg.1 h'))]
  refine ⟨fun x => ?_, fun x y z h1 h2 => ?_, fun x y z h1 h2 => ?_⟩
  · rw [e, decide_eq_false]; rw [ordR_zero.2 rfl]; decide
  · rw [e] at *
    exact decide_eq_true (ordR_trans (of_decide_eq_true h1) (of_decide_eq_true h2))
  · rw [e] at *
    have h1 := of_decide_eq_false h1
    have h2 := of_decide_eq_false h2
    refine decide_eq_false fun h => ?_
    by_cases hxy : ordR x y = 0
    · rw [ordR_zero.1 hxy] at h; exact h2 h
    · have s1 := ordR_swap x y
      have : ordR y z < 0 := ordR_trans (by omega) h
      exact h2 this
set_option maxRecDepth 100000 in
theorem ins_nil (g : FuncId) : PCall Tryz.prog 87 [.sl none [] .zero, i64V 0, i64V 0, .fn (.func g) [] []] (.tup []) := by
  refine scall_of (live := []) (ords := []) Tryz.func87 rfl (by kernel_rfl) (by kernel_rfl) (Nat.le_of_ble_eq_true rfl) ?_
  (conv=>arg 2;whnf);refine wp_loop (fun m fr R => m = 0 ∧ R = [] ∧ fr = frL [(2, i64V 0), (8, i64V 1)]) 0 _ _ (.cons (.refl _) (.cons (.refl _) (.nil _))) (List.Sublist.refl _) ⟨rfl, rfl, rfl⟩ ?_
  rintro m fr R ⟨rfl, rfl, rfl⟩
  (repeat ((conv=>arg 2;whnf);first|refine wp_it rfl ?_|refine wp_if rfl ?_))
  (conv=>arg 2;whnf)
  refine wp_leaf (loop_exit ?_)
  (conv=>arg 2;whnf);refine w_norm0 rfl (List.Sublist.refl _) rfl
set_option maxRecDepth 100000 in
theorem pdq_nil (g : FuncId) (n : Int) : PCall Tryz.prog 72 [.sl none [] .zero, i64V 0, i64V 0, i64V n, .fn (.func g) [] []] (.tup []) := by
  have f1 := ins_nil g
  refine scall_of (live := []) (ords := []) Tryz.func72 rfl (by kernel_rfl) (by kernel_rfl) (Nat.le_of_ble_eq_true rfl) ?_
  (conv=>arg 2;whnf);refine wp_loop (fun m fr R => m = 0 ∧ R = [] ∧ fr = frL [(0, .sl none [] .zero), (1, i64V 0), (2, i64V 0), (3, i64V n), (4, .fn (.func g) [] [])]) 0 _ _ (.cons (.refl _) (.cons (.refl _) (.cons (.refl _) (.cons (.refl _) (.cons (.refl _) (.nil _)))))) (List.Sublist.refl _) ⟨rfl, rfl, rfl⟩ ?_
  rintro m fr R ⟨rfl, rfl, rfl⟩
  (repeat ((conv=>arg 2;whnf);first|refine wp_it rfl ?_|refine wp_if rfl ?_))
  (conv=>arg 2;whnf);refine wp_pcall f1 ?_
  (conv=>arg 2;whnf)
  refine wp_leaf (loop_ret ?_)
  (conv=>arg 2;whnf);refine w_ret0 rfl (List.Sublist.refl _) rfl
set_option maxRecDepth 100000 in
theorem ins_lsl (g : FuncId) (b cap : Nat) : PCall Tryz.prog 87 [.lsl (some 1) b 0 0 cap, i64V 0, i64V 0, .fn (.func g) [] []] (.tup []) := by
  refine scall_of (live := []) (ords := []) Tryz.func87 rfl (by kernel_rfl) (by kernel_rfl) (Nat.le_of_ble_eq_true rfl) ?_
  (conv=>arg 2;whnf);refine wp_loop (fun m fr R => m = 0 ∧ R = [] ∧ fr = frL [(2, i64V 0), (8, i64V 1)]) 0 _ _ (.cons (.refl _) (.cons (.refl _) (.nil _))) (List.Sublist.refl _) ⟨rfl, rfl, rfl⟩ ?_
  rintro m fr R ⟨rfl, rfl, rfl⟩
  (repeat ((conv=>arg 2;whnf);first|refine wp_it rfl ?_|refine wp_if rfl ?_))
  (conv=>arg 2;whnf)
  refine wp_leaf (loop_exit ?_)
  (conv=>arg 2;whnf);refine w_norm0 rfl (List.Sublist.refl _) rfl
set_option maxRecDepth 100000 in
theorem pdq_lsl (g : FuncId) (b cap : Nat) (n : Int) : PCall Tryz.prog 72 [.lsl (some 1) b 0 0 cap, i64V 0, i64V 0, i64V n, .fn (.func g) [] []] (.tup []) := by
  have f1 := ins_lsl g b cap
  refine scall_of (live := []) (ords := []) Tryz.func72 rfl (by kernel_rfl) (by kernel_rfl) (Nat.le_of_ble_eq_true rfl) ?_
  (conv=>arg 2;whnf);refine wp_loop (fun m fr R => m = 0 ∧ R = [] ∧ fr = frL [(0, .lsl (some 1) b 0 0 cap), (1, i64V 0), (2, i64V 0), (3, i64V n), (4, .fn (.func g) [] [])]) 0 _ _ (.cons (.refl _) (.cons (.refl _) (.cons (.refl _) (.cons (.refl _) (.cons (.refl _) (.nil _)))))) (List.Sublist.refl _) ⟨rfl, rfl, rfl⟩ ?_
  rintro m fr R ⟨rfl, rfl, rfl⟩
  (repeat ((conv=>arg 2;whnf);first|refine wp_it rfl ?_|refine wp_if rfl ?_))
  (conv=>arg 2;whnf);refine wp_pcall f1 ?_
  (conv=>arg 2;whnf)
  refine wp_leaf (loop_ret ?_)
  (conv=>arg 2;whnf);refine w_ret0 rfl (List.Sublist.refl _) rfl
set_option maxRecDepth 100000 in
theorem len64_call : PCall Tryz.prog 96 [.c (.int .u64 0)] (i64V 0) := by
  refine scall_of (live := []) (ords := []) Tryz.func96 rfl (by kernel_rfl) (by kernel_rfl) (Nat.le_of_ble_eq_true rfl) ?_
  (repeat ((conv=>arg 2;whnf);first|refine wp_it rfl ?_|refine wp_if rfl ?_))
  (conv=>arg 2;whnf);refine wp_need (by decide) ?_
  (conv=>arg 2;whnf);refine w_ret1 rfl (Vle.refl _) (List.nil_sublist _) rfl
set_option maxRecDepth 100000 in
theorem len_call : PCall Tryz.prog 73 [.c (.int .u64 0)] (i64V 0) := by
  refine scall_of (live := []) (ords := []) Tryz.func73 rfl (by kernel_rfl) (by kernel_rfl) (Nat.le_of_ble_eq_true rfl) ?_
  (repeat ((conv=>arg 2;whnf);first|refine wp_it rfl ?_|refine wp_if rfl ?_))
  (conv=>arg 2;whnf);refine wp_pcall len64_call ?_
  (conv=>arg 2;whnf);refine w_ret1 rfl (Vle.refl _) (List.nil_sublist _) rfl
set_option maxRecDepth 100000 in
theorem sortf_nil (g : FuncId) : PCall Tryz.prog 52 [.sl none [] .zero, .fn (.func g) [] []] (.tup []) := by
  have f1 := pdq_nil g 0
  refine scall_of (live := []) (ords := []) Tryz.func52 rfl (by kernel_rfl) (by kernel_rfl) (Nat.le_of_ble_eq_true rfl) ?_
  (conv=>arg 2;whnf);refine wp_pcall len_call ?_
  (conv=>arg 2;whnf);refine wp_pcall f1 ?_
  (conv=>arg 2;whnf);refine w_norm0 rfl (List.Sublist.refl _) rfl
set_option maxRecDepth 100000 in
theorem comp_nil (f : V) : PCall Tryz.prog 53 [.sl none [] .zero, f] (.sl none [] .zero) := by
  refine scall_of (live := [22, 27, 42, 47]) (ords := []) Tryz.func53 rfl (by kernel_rfl) (by kernel_rfl) (Nat.le_of_ble_eq_true rfl) ?_
  (repeat ((conv=>arg 2;whnf);first|refine wp_it rfl ?_|refine wp_if rfl ?_))
  (conv=>arg 2;whnf);refine w_ret1 rfl (Vle.refl _) (List.nil_sublist _) rfl
set_option maxRecDepth 100000 in
theorem sorted_nil : PCall Tryz.prog 27 [.sl none [] .zero] (.sl none [] .zero) := by
  have f1 := sortf_nil 50
  refine scall_of (live := []) (ords := []) Tryz.func27 rfl (by kernel_rfl) (by kernel_rfl) (Nat.le_of_ble_eq_true rfl) ?_
  (conv=>arg 2;whnf);refine wp_allocE [.c .nilFunc] rfl fun q => ?_
  (conv=>arg 2;whnf);refine wp_storeE (cs := [.c .nilFunc]) 0 0 [.fn (.func 50) [] []] rfl rfl (VleL.refl _) (Nat.le_refl _) rfl (R' := [.obj q [.fn (.func 50) [] []]]) rfl ?_
  (conv=>arg 2;whnf);refine wp_load (cs := [.fn (.func 50) [] []]) 0 rfl rfl ?_
  (conv=>arg 2;whnf);refine wp_pcall f1 ?_
  (conv=>arg 2;whnf);refine wp_pcall (comp_nil _) ?_
  (conv=>arg 2;whnf);refine w_ret1 rfl (Vle.refl _) (List.nil_sublist _) rfl
set_option maxRecDepth 100000 in
theorem sortf_lsl (g : FuncId) (b cap : Nat) : PCall Tryz.prog 52 [.lsl (some 1) b 0 0 cap, .fn (.func g) [] []] (.tup []) := by
  have f1 := pdq_lsl g b cap 0
  refine scall_of (live := []) (ords := []) Tryz.func52 rfl (by kernel_rfl) (by kernel_rfl) (Nat.le_of_ble_eq_true rfl) ?_
  (conv=>arg 2;whnf);refine wp_pcall len_call ?_
  (conv=>arg 2;whnf);refine wp_pcall f1 ?_
  (conv=>arg 2;whnf);refine w_norm0 rfl (List.Sublist.refl _) rfl
set_option maxRecDepth 100000 in
theorem comp_lsl (f : V) (b cap : Nat) : PCall Tryz.prog 53 [.lsl (some 1) b 0 0 cap, f] (.lsl (some 1) b 0 0 cap) := by
  refine scall_of (live := [22, 27, 42, 47]) (ords := []) Tryz.func53 rfl (by kernel_rfl) (by kernel_rfl) (Nat.le_of_ble_eq_true rfl) ?_
  (repeat ((conv=>arg 2;whnf);first|refine wp_it rfl ?_|refine wp_if rfl ?_))
  (conv=>arg 2;whnf);refine w_ret1 rfl (Vle.refl _) (List.nil_sublist _) rfl
set_option maxRecDepth 100000 in
theorem sorted_lsl (b cap : Nat) : PCall Tryz.prog 27 [.lsl (some 1) b 0 0 cap] (.lsl (some 1) b 0 0 cap) := by
  have f1 := sortf_lsl 50 b cap
  refine scall_of (live := []) (ords := []) Tryz.func27 rfl (by kernel_rfl) (by kernel_rfl) (Nat.le_of_ble_eq_true rfl) ?_
  (conv=>arg 2;whnf);refine wp_allocE [.c .nilFunc] rfl fun q => ?_
  (conv=>arg 2;whnf);refine wp_storeE (cs := [.c .nilFunc]) 0 0 [.fn (.func 50) [] []] rfl rfl (VleL.refl _) (Nat.le_refl _) rfl (R' := [.obj q [.fn (.func 50) [] []]]) rfl ?_
  (conv=>arg 2;whnf);refine wp_load (cs := [.fn (.func 50) [] []]) 0 rfl rfl ?_
  (conv=>arg 2;whnf);refine wp_pcall f1 ?_
  (conv=>arg 2;whnf);refine wp_pcall (comp_lsl _ b cap) ?_
  (conv=>arg 2;whnf);refine w_ret1 rfl (Vle.refl _) (List.nil_sublist _) rfl
set_option maxRecDepth 100000 in
theorem sorted_call (hC : CountsUp) (l : List (List Bd)) (h0 : l ≠ []) (hQ : ∀ x ∈ l, x.length < 2 ^ 60) (hl : l.length < 2 ^ 60) (b cap : Nat) (hcap : l.length ≤ cap) (sp : List V) :
    SCall Tryz.prog 27 [.lsl (some 1) b 0 l.length cap] [.obj b (l.map bdsV ++ sp)] fun v R' => ∃ sp', v = .lsl (some 1) b 0 (sortedE l).length cap ∧ R' = [.obj b ((sortedE l).map bdsV ++ sp')] := by
  have hf : isFn Tryz.prog 50 := ⟨_, _, Tryz.func50, rfl, by kernel_rfl⟩
  have hF : isFn Tryz.prog 52 := ⟨_, _, Tryz.func52, rfl, by kernel_rfl⟩
  have f1 := sort_call (toV := bdsV) (Q := fun x => x.length < 2 ^ 60) hC hf hF (sortLaw _ hf) cmpR swoR (fun _ => rfl) (fun x y hx hy => sorted1_call x y hx hy) l hQ h0 (by omega) b cap [] sp
  refine scall_of (live := []) (ords := [(3, [])]) Tryz.func27 rfl (by kernel_rfl) (by kernel_rfl) (Nat.le_of_ble_eq_true rfl) ?_
  (conv=>arg 2;whnf);refine wp_allocE [.c .nilFunc] rfl fun q => ?_
  (conv=>arg 2;whnf);refine wp_storeE (cs := [.c .nilFunc]) 1 0 [.fn (.func 50) [] []] rfl rfl (VleL.refl _) (Nat.le_refl _) rfl (R' := [.obj b (l.map bdsV ++ sp), .obj q [.fn (.func 50) [] []]]) rfl ?_
  (conv=>arg 2;whnf);refine wp_load (cs := [.fn (.func 50) [] []]) 1 rfl rfl ?_
  (conv=>arg 2;whnf);refine wp_callF [] [.obj b (l.map bdsV ++ sp)] [.obj q [.fn (.func 50) [] []]] rfl f1 ?_
  rintro v R' ⟨rfl, l', hp, hs, rfl⟩
  have hlen := hp.length_eq
  have f2 := compact_call 54 [.pt none (.fn (.func 50) [] []) 0] eqR l' (fun x hx y hy => sorted2_call x y (hQ x (hp.mem_iff.1 hx)) (hQ y (hp.mem_iff.1 hy))) (by omega) b cap (by omega) sp
  rw [comp_sorted hp hs, hlen] at f2
  (conv=>arg 2;whnf)
  refine wp_cutP (frL [(0, .lsl (some 1) b 0 l.length cap), (3, .pt none (.fn (.func 50) [] []) 0)]) [.obj b (l'.map bdsV ++ sp)] [.obj q [.fn (.func 50) [] []]] ?_ ?_
  · exact .cons (.refl _) (.cons (.one (List.Mem.head _) (Vle.refl _)) (.nil _))
  (conv=>arg 2;whnf);refine wp_call f2 ?_
  rintro v R' ⟨sp', rfl, rfl⟩
  (conv=>arg 2;whnf);refine w_ret1 rfl (Vle.refl _) (List.Sublist.refl _) ⟨sp', rfl, rfl⟩
end Go.Sv
namespace Go.Sv
open Go
def RowAt (sh : Option Nat) (R : List Res) (i : Option Nat) (v : V) (xs : List V) : Prop :=
  match i with
  | none => v = .sl none [] .zero ∧ xs = []
  | some i => ∃ (b cap : Nat) (sp : List V), v = .lsl sh b 0 xs.length cap ∧ R[i]? = some (.obj b (rowC sh xs ++ sp)) ∧ (rowC sh xs ++ sp).length = cap * width sh ∧ xs.length ≤ cap
def RowRd (sh : Option Nat) (R : List Res) (i : Option Nat) (v : V) (xs : List V) : Prop :=
  match i with
  | none => v = .sl none [] .zero ∧ xs = []
  | some i => ∃ (b cap : Nat) (sp : List V), v = .lsl sh b 0 xs.length cap ∧ R[i]? = some (.obj b (rowC sh xs ++ sp))
section
variable {P : Program} {R R' : List Res} {Q : Exit → Fr → List Res → Prop} {sh : Option Nat} {i : Option Nat} {v : V} {xs : List V}
theorem RowAt.rd (h : RowAt sh R i v xs) : RowRd sh R i v xs := by
  cases i with
  | none => exact h
  | some i => obtain ⟨b, cap, sp, h1, h2, _⟩ := h; exact ⟨b, cap, sp, h1, h2⟩
theorem RowAt.nil (sh : Option Nat) (R : List Res) : RowAt sh R none (.sl none [] .zero) [] := ⟨rfl, rfl⟩
theorem RowAt.keep (h : RowAt sh R i v xs) (hk : ∀ j a, i = some j → R[j]? = some a → R'[j]? = some a) : RowAt sh R' i v xs := by
  cases i with
  | none => exact h
  | some i => obtain ⟨b, cap, sp, h1, h2, h3⟩ := h; exact ⟨b, cap, sp, h1, hk i _ rfl h2, h3⟩
theorem RowRd.keep (h : RowRd sh R i v xs) (hk : ∀ j a, i = some j → R[j]? = some a → R'[j]? = some a) : RowRd sh R' i v xs := by
  cases i with
  | none => exact h
  | some i => obtain ⟨b, cap, sp, h1, h2⟩ := h; exact ⟨b, cap, sp, h1, hk i _ rfl h2⟩
theorem get_ne {i j : Nat} {a x : Res} (hne : i ≠ j) (h : R[j]? = some a) : (R.set i x)[j]? = some a := by rw [List.getElem?_set_ne hne]; exact h
theorem get_app {j : Nat} {a x : Res} (h : R[j]? = some a) : (R ++ [x])[j]? = some a := by
  rw [List.getElem?_append_left (List.getElem?_eq_some_iff.1 h).1]; exact h
theorem get_set {i : Nat} {a x : Res} (h : R[i]? = some a) : (R.set i x)[i]? = some x := by
  rw [List.getElem?_set_self (List.getElem?_eq_some_iff.1 h).1]
theorem get_last (x : Res) : (R ++ [x])[R.length]? = some x := by simp
theorem rowC_app (sh : Option Nat) (xs ys : List V) : rowC sh (xs ++ ys) = rowC sh xs ++ rowC sh ys := by
  cases sh <;> simp [rowC]
theorem wp_app_row {by_ : Nat} {ys : List V} {k : V → Tree} (h : RowAt sh R i v xs) (hx : ∀ y ∈ xs, okE sh y) (hok : ∀ y ∈ ys, okE sh y) (hle : (xs.length + ys.length) * by_ ≤ 140737488355328)
    (hk : ∀ (v' : V) (R' : List Res) (i' : Nat), RowAt sh R' (some i') v' (xs ++ ys) → (∀ j a, i ≠ some j → R[j]? = some a → R'[j]? = some a ∧ i' ≠ j) → R.length ≤ R'.length → (k v').wp P R' Q) : (Tree.eff (.app sh by_ v ys) k).wp P R Q := by
  cases i with
  | none =>
    obtain ⟨rfl, rfl⟩ := h
    refine ⟨rowC sh ys, VleL.refl _, hok, .inl ⟨none, rfl, by simpa using hle, fun b cap sp e1 e2 => ?_⟩⟩
    refine hk _ _ R.length ⟨b, cap, sp, rfl, get_last _, e1, e2⟩ (fun j a _ hj => ⟨get_app hj, fun e => ?_⟩) (by simp)
    have := (List.getElem?_eq_some_iff.1 hj).1
    omega
  | some i =>
    obtain ⟨b, cap, sp, rfl, hR, hl, hc⟩ := h
    have hxl := rowC_length hx
    have hyl := rowC_length hok
    have keep : ∀ x, ∀ j a, some i ≠ some j → R[j]? = some a → (R.set i x)[j]? = some a ∧ i ≠ j := fun x j a hne hj => ⟨get_ne (fun e => hne (by rw [e])) hj, fun e => hne (by rw [e])⟩
    by_cases hroom : xs.length + ys.length ≤ cap
    · refine ⟨rowC sh ys, VleL.refl _, hok, .inr (.inl ⟨i, b, 0, xs.length, cap, _, rfl, hR, hroom, by omega, ?_⟩)⟩
      have h1 : (xs.length + ys.length) * width sh ≤ cap * width sh := Nat.mul_le_mul_right _ hroom
      rw [Nat.add_mul, ← hl, ← hxl, ← hyl, List.length_append] at h1
      have h2 : splice (rowC sh xs ++ sp) (0 + xs.length * width sh) (rowC sh ys) = rowC sh xs ++ rowC sh ys ++ sp.drop (rowC sh ys).length := by
        rw [Nat.zero_add, ← hxl, splice, List.take_left, ← List.drop_drop, List.drop_left, List.append_assoc]
      rw [h2]
      refine hk _ _ i ⟨b, cap, sp.drop (rowC sh ys).length, by rw [List.length_append], ?_, ?_, by rw [List.length_append]; exact hroom⟩ (keep _) (by simp)
      · rw [rowC_app]; exact get_set hR
      · rw [rowC_app, ← hl]; simp; omega
    · refine ⟨rowC sh ys, VleL.refl _, hok, .inr (.inr ⟨i, b, xs.length, cap, _, rfl, hR, hl, hle, fun b' cap' sp' e1 e2 => ?_⟩)⟩
      rw [← hxl, List.take_left] at e1 ⊢
      refine hk _ _ i ⟨b', cap', sp', by rw [List.length_append], ?_, ?_, by rw [List.length_append]; exact e2⟩ (keep _) (by simp)
      · rw [rowC_app]; exact get_set hR
      · rw [rowC_app]; exact e1
theorem UpdV.all {v v' : V} (hf : Pin R v v') : UpdV v R v' [] := UpdV.pins [] R hf
theorem Pin.tup {L : List Res} : ∀ {vs vs' : List V}, (∀ (i : Nat) (v' : V), vs'[i]? = some v' → ∃ v : V, vs[i]? = some v ∧ Pin L v v') → vs.length = vs'.length → Pin L (.tup vs) (.tup vs') := by
  intro vs vs' h hl g g' w x hp hP hx
  simp only [RelV] at hx ⊢
  obtain ⟨l, rfl, h1⟩ := hx
  refine ⟨l, rfl, relL_of_get (by rw [← hl]; exact relL_length h1) fun i v' x hv hx => ?_⟩
  obtain ⟨v, hv2, hpin⟩ := h i v' hv
  obtain ⟨y, hy, hr⟩ := relL_get h1 hv2
  rw [hx] at hy
  cases hy
  exact hpin g g' w _ hp hP hr
theorem Pin.tup3 {L : List Res} {a b c a' b' c' : V} (h1 : Pin L a a') (h2 : Pin L b b') (h3 : Pin L c c') : Pin L (.tup [a, b, c]) (.tup [a', b', c']) := by
  refine Pin.tup (fun i v' hv => ?_) rfl
  match i, hv with
  | 0, hv => cases hv; exact ⟨a, rfl, h1⟩
  | 1, hv => cases hv; exact ⟨b, rfl, h2⟩
  | 2, hv => cases hv; exact ⟨c, rfl, h3⟩
  | n + 3, hv => cases hv
theorem w_ret3P {fn : Func} {K : V → List Res → Prop} {fr : Fr} {s t u : Tmp} {a b c : V} (h : fn.results.toList = [.tmp s, .tmp t, .tmp u]) (ha : Pin R (fr s) a) (hb : Pin R (fr t) b) (hc : Pin R (fr u) c) (hK : K (.tup [a, b, c]) []) : (Tree.leaf .ret fr).wp P R (Ends P fn K) :=
  ⟨.inr rfl, [fr s, fr t, fr u], .tup [a, b, c], [], by rw [h]; exact ⟨_, rfl, _, rfl, _, rfl, rfl⟩, UpdV.all (Pin.tup3 ha hb hc), hK⟩
theorem RowRd.pin {k : Nat} (h : RowRd (some k) R i v xs) (hk : 0 < k) (hx : ∀ x ∈ xs, ∃ cs, x = .agg cs ∧ cs.length = k) : Pin R v (.sl (some k) xs .no) := by
  cases i with
  | none => obtain ⟨rfl, rfl⟩ := h; exact .vle (Vle.nil _ _ _)
  | some i => obtain ⟨b, cap, sp, rfl, h2⟩ := h; exact Pin.alls (List.mem_of_getElem? h2) hk hx
theorem RowRd.one (h : RowRd sh R i v xs) : oneV v = true := by
  cases i with
  | none => obtain ⟨rfl, _⟩ := h; rfl
  | some i => obtain ⟨b, cap, sp, rfl, _⟩ := h; rfl
theorem UpdF.pinAt {fr fr' : Fr} {j b : Nat} {cs : List V} (hR : R[j]? = some (.obj b cs)) (hf : PinF [.obj b cs] fr fr') : UpdF fr R fr' (R.set j (.obj 0 [])) := by
  intro g w x hw hx hr
  obtain ⟨A, B, rfl, hset⟩ := split_at hR
  rw [hset]
  have hp : (A ++ [Res.obj b cs] ++ B).Perm ((A ++ B) ++ [Res.obj b cs]) := by
    simp only [List.append_assoc, List.singleton_append]
    exact (List.perm_append_singleton _ _).symm.append_left A
  obtain ⟨g', p, q, hA⟩ := pins_core [Res.obj b cs] g hw (hr.perm hp)
  have hA := hA.permL hp.symm
  refine ⟨g', ⟨hA.ext, ⟨fun r hr' => ?_, ?_⟩, fun c hc => hA.own c ?_⟩, fun t => hf t g g' w _ p q (hx t)⟩
  · simp only [List.mem_append, List.mem_singleton] at hr'
    rcases hr' with (h | rfl) | h
    · exact hA.res.all r (by simp [h])
    · exact .inl rfl
    · exact hA.res.all r (by simp [h])
  · have := hA.res.nodup
    simpa [blocks_append, blocks, Res.blocks] using this
  · simpa [blocks, Res.blocks] using hc
theorem RowRd.two (h : RowRd sh R i v xs) : (i = none ∧ v = .sl none [] .zero ∧ xs = []) ∨ ∃ (j b cap : Nat) (sp : List V), i = some j ∧ v = .lsl sh b 0 xs.length cap ∧ R[j]? = some (.obj b (rowC sh xs ++ sp)) := by
  cases i with
  | none => exact .inl ⟨rfl, h⟩
  | some i => obtain ⟨b, cap, sp, h1, h2⟩ := h; exact .inr ⟨i, b, cap, sp, rfl, h1, h2⟩
end
end Go.Sv
namespace Go.Sv
open Go Go.Proofs
def liveE (p : Pa) (l : List Kp) (r : List (List Bd)) : List (List Bd) := r.filter fun x => !lateE p l x
def takesE' (s : Sc) (p : Pa) (l : List Kp) (r : List (List Bd)) : List (List Bd) := r.flatMap (takeE s p l)
def madeE (s : Sc) (p : Pa) (l : List Kp) (r : List (List Bd)) : List (List Bd) := takesE' s p l (liveE p l r) ++ (withE s p l [] 0).toList
def stayB (s : Sc) (p : Pa) (l : List Kp) (x : List Bd) : Bool := p.any || (takeE s p l x).isEmpty
def stayE (s : Sc) (p : Pa) (l : List Kp) (r : List (List Bd)) : List (List Bd) := (liveE p l r).filter (stayB s p l)
def lastPlus (p : Pa) : Bool := (elAt p (p.els.length - 1)).plus
def longR (x : List Bd) : Bool := decide (30 < x.length)
def goesOn (p : Pa) (x : List Bd) : Bool := !doneE p x || lastPlus p
def stepE (s : Sc) (p : Pa) (l : List Kp) (r : List (List Bd)) : Option (List (List Bd) × List (List Bd)) :=
  if (sortedE (madeE s p l r)).any longR then none
  else if 60 < (sortedE (stayE s p l r ++ (sortedE (madeE s p l r)).filter (goesOn p))).length ∨ (sortedE (stayE s p l r ++ (sortedE (madeE s p l r)).filter (goesOn p))).any longR then none
  else some (sortedE (stayE s p l r ++ (sortedE (madeE s p l r)).filter (goesOn p)), (sortedE (madeE s p l r)).filter (doneE p))
def stepR : Option (List (List Bd) × List (List Bd)) → V
  | none => .tup [runsV [], runsV [], .c (errV (some 18))]
  | some (a, b) => .tup [runsV a, runsV b, .c (errV none)]
theorem rowC_runs (l : List (List Bd)) : rowC (some 1) (l.map runV) = l.map bdsV := by
  simp only [rowC]
  induction l with
  | nil => rfl
  | cons x l ih => rw [List.map_cons, List.flatMap_cons, ih]; rfl
theorem runs_agg (l : List (List Bd)) : ∀ x ∈ l.map runV, ∃ cs, x = .agg cs ∧ cs.length = 1 := by
  intro x hx
  obtain ⟨y, _, rfl⟩ := List.mem_map.1 hx
  exact ⟨_, rfl, rfl⟩
theorem sortedrow_call (hC : CountsUp) (l : List (List Bd)) (hQ : ∀ x ∈ l, x.length < 2 ^ 60) (hl : l.length < 2 ^ 59) {R : List Res} {i : Option Nat} {v : V} (h : RowAt (some 1) R i v (l.map runV)) :
    SCall Tryz.prog 27 [v] R fun v' R' => RowRd (some 1) R' i v' ((sortedE l).map runV) ∧ (∀ j a, i ≠ some j → R[j]? = some a → R'[j]? = some a) ∧ ∀ j, i = some j → ∃ x, R' = R.set j x := by
  cases i with
  | none =>
    obtain ⟨rfl, h2⟩ := h
    have h0 : l = [] := List.map_eq_nil_iff.1 h2
    subst h0
    refine (sorted_nil.any R).mono ?_
    rintro u R' ⟨rfl, rfl⟩
    exact ⟨⟨rfl, rfl⟩, fun _ _ _ h => h, fun _ h => by cases h⟩
  | some i =>
    obtain ⟨b, cap, sp, rfl, hR, hlen, hc⟩ := h
    rw [rowC_runs] at hR hlen
    by_cases h0 : l = []
    · subst h0
      refine ((sorted_lsl b cap).any R).mono ?_
      rintro u R' ⟨rfl, rfl⟩
      exact ⟨⟨b, cap, sp, rfl, hR⟩, fun _ _ _ h => h, fun j h => by cases h; exact ⟨_, (set_self hR).symm⟩⟩
    · obtain ⟨A, B, rfl, hset⟩ := split_at hR
      rw [List.length_map] at hc ⊢
      refine ((sorted_call hC l h0 hQ (by omega) b cap hc sp).frame).mono ?_
      rintro u R' ⟨R1, ⟨sp', rfl, rfl⟩, rfl⟩
      rw [← hset]
      refine ⟨⟨b, cap, sp', by rw [List.length_map], ?_⟩, fun j a hne hj => get_ne (fun e => hne (by rw [e])) hj, fun j h => by cases h; exact ⟨_, rfl⟩⟩
      rw [rowC_runs]
      exact get_set hR
set_option maxRecDepth 100000 in
theorem living_call (p : Pa) (l : List Kp) (r : List (List Bd)) : PCall Tryz.prog 23 [.agg (paC p), kpsV l, runsV r] (.fn (.func 46) [] [.pt none (runsV r) 0, .pt (some 4) (.agg (paC p)) 0, .pt none (kpsV l) 0]) := by
  refine scall_of (live := []) (ords := []) Tryz.func23 rfl (by kernel_rfl) (by kernel_rfl) (Nat.le_of_ble_eq_true rfl) ?_
  (conv=>arg 2;whnf);refine w_retp rfl (Vle.eq ?_)
  rfl
def lvL (p : Pa) (l : List Kp) (r : List (List Bd)) : List (List V) := (liveE p l r).map fun x => [runV x]
theorem runs_at {l : List (List Bd)} {n : Nat} {k : List Bd} (h : l[n]? = some k) : (l.map runV)[n]? = some (.agg (runC k)) := by rw [List.getElem?_map, h]; rfl
theorem lv_get {p : Pa} {l : List Kp} {r : List (List Bd)} {n : Nat} {args : List V} (h : (lvL p l r)[n]? = some args) : ∃ x, (liveE p l r)[n]? = some x ∧ x ∈ r ∧ args = [runV x] := by
  rw [lvL, List.getElem?_map, Option.map_eq_some_iff] at h
  obtain ⟨k, hk, rfl⟩ := h
  exact ⟨k, hk, (List.mem_filter.1 (List.mem_of_getElem? hk)).1, rfl⟩
theorem lv_len {p : Pa} {l : List Kp} {r : List (List Bd)} {n : Nat} {args : List V} (h : (lvL p l r)[n]? = some args) : args.length = 1 := by
  obtain ⟨_, _, _, rfl⟩ := lv_get h; rfl
set_option maxRecDepth 100000 in
set_option maxHeartbeats 1000000 in
theorem living_iter (p : Pa) (l : List Kp) (hl : StOkL l) (r : List (List Bd)) (hr : r.length < 2 ^ 60) : Iter Tryz.prog 46 [] [.pt none (runsV r) 0, .pt (some 4) (.agg (paC p)) 0, .pt none (kpsV l) 0] (lvL p l r) := by
  refine ⟨⟨_, _, Tryz.func46, rfl, by kernel_rfl⟩, fun y I E R0 h0 hy => ?_⟩
  refine scall_of (live := []) (ords := [(3, [])]) Tryz.func46 rfl (by kernel_rfl) (by kernel_rfl) (Nat.le_of_ble_eq_true rfl) ?_
  (conv=>arg 2;whnf);refine wp_loop (fun m fr R => ∃ n : Nat, m = r.length - n ∧ n ≤ r.length ∧ I (liveE p l (r.take n)).length R ∧ fr = frL [(0, .fn (.yield y) [] []), (2, .pt (some 4) (.agg (paC p)) 0), (3, .pt none (kpsV l) 0), (7, runsV r), (8, i64V r.length), (9, i64V n)])
    r.length _ _ (.cons (.refl _) (.cons (.refl _) (.cons (.refl _) (.cons (.refl _) (.cons (Vle.i64 _ rfl (by rw [List.length_map])) (.cons (.refl _) (.nil _))))))) (List.Sublist.refl _) ⟨0, rfl, Nat.zero_le _, h0, rfl⟩ ?_
  rintro m fr R ⟨n, rfl, hn, hI, rfl⟩
  (conv=>arg 2;whnf);refine wp_ite (fun h => ?_) (fun h => ?_)
  · have h : n < r.length := by have := of_decide_eq_true h; omega
    obtain ⟨x, hx⟩ : ∃ x, r[n]? = some x := ⟨_, List.getElem?_eq_getElem h⟩
    have hnx := filt_next (fun x : List Bd => !lateE p l x) hx
    have f1 := late_call p l hl x
    (conv=>arg 2;whnf);refine wp_elem n (runV x) rfl (runs_at hx) (Vle.refl _) ?_
    (conv=>arg 2;whnf);refine wp_allocE runZ rfl fun q => ?_
    (conv=>arg 2;whnf);refine wp_storeE (cs := runZ) R.length 0 (runC x) (by simp) rfl (VleL.refl _) (Nat.le_refl _) rfl (R' := R ++ [.obj q (runC x)]) (by simp [splice, runZ, runC]) ?_
    (conv=>arg 2;whnf)
    refine wp_cutP (frL [(0, .fn (.yield y) [] []), (2, .pt (some 4) (.agg (paC p)) 0), (3, .pt none (kpsV l) 0), (6, .pt (some 1) (runV x) 0), (7, runsV r), (8, i64V r.length), (9, i64V n)]) R [.obj q (runC x)] ?_ ?_
    · exact .cons (.refl _) (.cons (.refl _) (.cons (.refl _) (.cons (.all (k := 1) (List.Mem.head _) rfl Nat.one_pos (VleL.refl _)) (.cons (.refl _) (.cons (.refl _) (.cons (.refl _) (.nil _)))))))
    (conv=>arg 2;whnf);refine wp_pcall f1 ?_
    cases hq : lateE p l x with
    | true =>
      have hI2 : I (liveE p l (r.take (n + 1))).length R := by
        rw [liveE, hnx, hq]
        simpa [liveE] using hI
      (repeat ((conv=>arg 2;whnf);first|refine wp_it rfl ?_|refine wp_if rfl ?_))
      (conv=>arg 2;whnf)
      refine wp_leaf (loop_next (r.length - (n + 1)) _ R (by omega) (.cons (.refl _) (.cons (.refl _) (.cons (.refl _) (.cons (.refl _) (.cons (.refl _) (.cons (Vle.inc n rfl (by omega)) (.nil _))))))) (List.Sublist.refl _) ⟨n + 1, rfl, by omega, hI2, rfl⟩)
    | false =>
      have hp : (lvL p l r)[(liveE p l (r.take n)).length]? = some [runV x] := by
        rw [lvL, List.getElem?_map]
        have := filt_at (fun x : List Bd => !lateE p l x) hx (by rw [hq]; rfl)
        rw [liveE, liveE, this]; rfl
      have hlen : (liveE p l (r.take (n + 1))).length = (liveE p l (r.take n)).length + 1 := by
        rw [liveE, hnx, hq]; simp [liveE]
      (repeat ((conv=>arg 2;whnf);first|refine wp_it rfl ?_|refine wp_if rfl ?_))
      (conv=>arg 2;whnf);refine wp_yld (hy _ _ _ hp hI) ?_
      rintro b' R' (⟨rfl, hI2⟩ | ⟨rfl, hE⟩)
      · (repeat ((conv=>arg 2;whnf);first|refine wp_it rfl ?_|refine wp_if rfl ?_))
        (conv=>arg 2;whnf)
        refine wp_leaf (loop_next (r.length - (n + 1)) _ R' (by omega) (.cons (.refl _) (.cons (.refl _) (.cons (.refl _) (.cons (.refl _) (.cons (.refl _) (.cons (Vle.inc n rfl (by omega)) (.nil _))))))) (List.Sublist.refl _) ⟨n + 1, rfl, by omega, by rw [hlen]; exact hI2, rfl⟩)
      · (repeat ((conv=>arg 2;whnf);first|refine wp_it rfl ?_|refine wp_if rfl ?_))
        (conv=>arg 2;whnf)
        refine wp_leaf (loop_ret ?_)
        (conv=>arg 2;whnf);refine w_ret0 (R' := R') rfl (List.Sublist.refl _) (.inr hE)
  · have h : n = r.length := by have := of_decide_eq_false h; omega
    subst h
    rw [List.take_length] at hI
    (conv=>arg 2;whnf)
    refine wp_leaf (loop_exit ?_)
    (conv=>arg 2;whnf);refine w_norm0 rfl (List.Sublist.refl _) (.inl (by rw [lvL, List.length_map]; exact hI))
set_option maxRecDepth 100000 in
theorem indexrun_call (g : FuncId) (caps : List V) (q : (List Bd) → Bool) (l : List (List Bd)) (hl : l.length < 2 ^ 60) (hq : ∀ x ∈ l, PCall Tryz.prog g (runV x :: caps) (bV (q x))) : PCall Tryz.prog 55 [runsV l, .fn (.func g) [] caps] (i64V (idxI q l)) := by
  refine scall_of (live := []) (ords := []) Tryz.func55 rfl (by kernel_rfl) (by kernel_rfl) (Nat.le_of_ble_eq_true rfl) ?_
  (conv=>arg 2;whnf);refine wp_loop (fun m fr R => ∃ n : Nat, m = l.length - n ∧ n ≤ l.length ∧ R = [] ∧ (l.take n).any q = false ∧ fr = frL [(0, runsV l), (1, .fn (.func g) [] caps), (7, i64V l.length), (8, i64V n)])
    l.length _ _ (.cons (.refl _) (.cons (.refl _) (.cons (Vle.eq ?_) (.cons (.refl _) (.nil _))))) (List.Sublist.refl _) ⟨0, rfl, Nat.zero_le _, rfl, rfl, rfl⟩ ?_
  · show V.c (.int .i64 (l.map runV).length) = _
    rw [List.length_map]; rfl
  rintro m fr R ⟨n, rfl, hn, rfl, ha, rfl⟩
  (conv=>arg 2;whnf);refine wp_ite (fun h => ?_) (fun h => ?_)
  · have h : n < l.length := by have := of_decide_eq_true h; omega
    obtain ⟨y, hy⟩ : ∃ y, l[n]? = some y := ⟨_, List.getElem?_eq_getElem h⟩
    have hc := hq y (List.mem_of_getElem? hy)
    (conv=>arg 2;whnf);refine wp_elem n (runV y) rfl (by rw [List.getElem?_map, hy]; rfl) (Vle.refl _) ?_
    (conv=>arg 2;whnf);refine wp_pcall hc ?_
    (conv=>arg 2;whnf);refine wp_ite (fun h1 => ?_) (fun h1 => ?_)
    · (conv=>arg 2;whnf)
      refine wp_leaf (loop_ret ?_)
      (conv=>arg 2;whnf);refine w_retp rfl (Vle.eq (cI64 (idx_hit ha hy h1).symm))
    · (conv=>arg 2;whnf)
      refine wp_leaf (loop_next (l.length - (n + 1)) _ _ (by omega) (.cons (.refl _) (.cons (.refl _) (.cons (.refl _) (.cons (Vle.inc n rfl (by omega)) (.nil _))))) (List.Sublist.refl _) ⟨n + 1, rfl, h, rfl, any_next ha hy h1, rfl⟩)
  · have h : n = l.length := by have := of_decide_eq_false h; omega
    subst h
    rw [List.take_length] at ha
    (conv=>arg 2;whnf)
    refine wp_leaf (loop_exit ?_)
    (conv=>arg 2;whnf);refine w_retp rfl (Vle.eq (cI64 (idx_none ha).symm))
set_option maxRecDepth 100000 in
theorem step1_call (x : List Bd) : PCall Tryz.prog 30 [runV x] (bV (longR x)) := by
  refine scall_of (live := []) (ords := []) Tryz.func30 rfl (by kernel_rfl) (by kernel_rfl) (Nat.le_of_ble_eq_true rfl) ?_
  (conv=>arg 2;whnf);refine w_ret1 rfl (Vle.eq (cBool (by rw [longR, List.length_map]; by_cases h : 30 < x.length <;> simp [h] <;> omega))) (List.nil_sublist _) rfl
set_option maxRecDepth 100000 in
theorem longs_call (l : List (List Bd)) (hl : l.length < 2 ^ 60) : PCall Tryz.prog 29 [runsV l, .fn (.func 30) [] []] (bV (l.any longR)) := by
  have f1 := indexrun_call 30 [] longR l hl (fun x _ => step1_call x)
  have e : decide (idxI longR l ≥ 0) = l.any longR := by
    unfold idxI
    cases h : l.any longR <;> simp
  refine scall_of (live := []) (ords := []) Tryz.func29 rfl (by kernel_rfl) (by kernel_rfl) (Nat.le_of_ble_eq_true rfl) ?_
  (conv=>arg 2;whnf);refine wp_pcall f1 ?_
  (conv=>arg 2;whnf);refine w_ret1 rfl (Vle.eq (cBool e)) (List.nil_sublist _) rfl
end Go.Sv
namespace Go.Sv
open Go Go.Proofs
def TwoS (c1 c2 : Nat) (R : List Res) (X Y : List (List Bd)) : Prop := ∃ (v1 v2 : V) (i1 i2 : Option Nat), R[0]? = some (.obj c1 [v1]) ∧ R[1]? = some (.obj c2 [v2]) ∧ RowAt (some 1) R i1 v1 (X.map runV) ∧ RowAt (some 1) R i2 v2 (Y.map runV) ∧ (∀ j, i1 = some j → j ≠ 0 ∧ j ≠ 1 ∧ i2 ≠ some j) ∧ (∀ j, i2 = some j → j ≠ 0 ∧ j ≠ 1)
theorem two2 {c1 c2 i' : Nat} {R R' : List Res} {X Y Z : List (List Bd)} {v1 v2 v' : V} {i1 i2 : Option Nat} (h1 : R[0]? = some (.obj c1 [v1])) (h2 : R[1]? = some (.obj c2 [v2])) (r1 : RowAt (some 1) R i1 v1 (X.map runV)) (s1 : ∀ j, i1 = some j → j ≠ 0 ∧ j ≠ 1 ∧ i2 ≠ some j) (s2 : ∀ j, i2 = some j → j ≠ 0 ∧ j ≠ 1)
    (r' : RowAt (some 1) R' (some i') v' (Y.map runV ++ Z.map runV)) (hk : ∀ j a, i2 ≠ some j → R[j]? = some a → R'[j]? = some a ∧ i' ≠ j) : TwoS c1 c2 (R'.set 1 (.obj c2 [v'])) X (Y ++ Z) := by
  have k0 := hk 0 _ (fun e => (s2 0 e).1 rfl) h1
  have k1 := hk 1 _ (fun e => (s2 1 e).2 rfl) h2
  refine ⟨v1, v', i1, some i', get_ne (by decide) k0.1, get_set k1.1, r1.keep fun j a e hj => get_ne (fun e2 => (s1 j e).2.1 e2.symm) (hk j a (s1 j e).2.2 hj).1, ?_, fun j e => ⟨(s1 j e).1, (s1 j e).2.1, fun e2 => ?_⟩, fun j e => ?_⟩
  · rw [List.map_append]
    exact r'.keep fun j a e hj => get_ne (fun e2 => k1.2 (by cases e; exact e2.symm)) hj
  · cases e2
    subst e
    obtain ⟨b, cap, sp, _, hb, _⟩ := r1
    exact (hk i' _ (s1 i' rfl).2.2 hb).2 rfl
  · cases e
    exact ⟨k0.2, k1.2⟩
theorem two1 {c1 c2 i' : Nat} {R R' : List Res} {X Y Z : List (List Bd)} {v1 v2 v' : V} {i1 i2 : Option Nat} (h1 : R[0]? = some (.obj c1 [v1])) (h2 : R[1]? = some (.obj c2 [v2])) (r2 : RowAt (some 1) R i2 v2 (Y.map runV)) (s1 : ∀ j, i1 = some j → j ≠ 0 ∧ j ≠ 1 ∧ i2 ≠ some j) (s2 : ∀ j, i2 = some j → j ≠ 0 ∧ j ≠ 1)
    (r' : RowAt (some 1) R' (some i') v' (X.map runV ++ Z.map runV)) (hk : ∀ j a, i1 ≠ some j → R[j]? = some a → R'[j]? = some a ∧ i' ≠ j) : TwoS c1 c2 (R'.set 0 (.obj c1 [v'])) (X ++ Z) Y := by
  have k0 := hk 0 _ (fun e => (s1 0 e).1 rfl) h1
  have k1 := hk 1 _ (fun e => (s1 1 e).2.1 rfl) h2
  have n12 : ∀ j, i2 = some j → i1 ≠ some j := fun j e e1 => (s1 j e1).2.2 e
  refine ⟨v', v2, some i', i2, get_set k0.1, get_ne (by decide) k1.1, ?_, r2.keep fun j a e hj => get_ne (fun e2 => (s2 j e).1 e2.symm) (hk j a (n12 j e) hj).1, fun j e => ?_, s2⟩
  · rw [List.map_append]
    exact r'.keep fun j a e hj => get_ne (fun e2 => k0.2 (by cases e; exact e2.symm)) hj
  · cases e
    refine ⟨k0.2, k1.2, fun e2 => ?_⟩
    subst e2
    obtain ⟨b, cap, sp, _, hb, _⟩ := r2
    exact (hk i' _ (n12 i' rfl) hb).2 rfl
def St2 (c1 : Nat) (R : List Res) (v3 : V) (X Y : List (List Bd)) : Prop := ∃ (v1 : V) (i1 i3 : Option Nat), R[0]? = some (.obj c1 [v1]) ∧ RowAt (some 1) R i1 v1 (X.map runV) ∧ RowAt (some 1) R i3 v3 (Y.map runV) ∧ (∀ j, i1 = some j → j ≠ 0 ∧ i3 ≠ some j) ∧ (∀ j, i3 = some j → j ≠ 0)
theorem st_run {c1 i' : Nat} {R R' : List Res} {X Y Z : List (List Bd)} {v1 v3 v' : V} {i1 i3 : Option Nat} (h1 : R[0]? = some (.obj c1 [v1])) (r3 : RowAt (some 1) R i3 v3 (Y.map runV)) (s1 : ∀ j, i1 = some j → j ≠ 0 ∧ i3 ≠ some j) (s3 : ∀ j, i3 = some j → j ≠ 0)
    (r' : RowAt (some 1) R' (some i') v' (X.map runV ++ Z.map runV)) (hk : ∀ j a, i1 ≠ some j → R[j]? = some a → R'[j]? = some a ∧ i' ≠ j) : St2 c1 (R'.set 0 (.obj c1 [v'])) v3 (X ++ Z) Y := by
  have k0 := hk 0 _ (fun e => (s1 0 e).1 rfl) h1
  have n13 : ∀ j, i3 = some j → i1 ≠ some j := fun j e e1 => (s1 j e1).2 e
  refine ⟨v', some i', i3, get_set k0.1, ?_, r3.keep fun j a e hj => get_ne (fun e2 => (s3 j e) e2.symm) (hk j a (n13 j e) hj).1, fun j e => ?_, s3⟩
  · rw [List.map_append]
    exact r'.keep fun j a e hj => get_ne (fun e2 => k0.2 (by cases e; exact e2.symm)) hj
  · cases e
    refine ⟨k0.2, fun e2 => ?_⟩
    subst e2
    obtain ⟨b, cap, sp, _, hb, _⟩ := r3
    exact (hk i' _ (n13 i' rfl) hb).2 rfl
theorem st_match {c1 i' : Nat} {R R' : List Res} {X Y Z : List (List Bd)} {v1 v' : V} {i1 i3 : Option Nat} (h1 : R[0]? = some (.obj c1 [v1])) (r1 : RowAt (some 1) R i1 v1 (X.map runV)) (s1 : ∀ j, i1 = some j → j ≠ 0 ∧ i3 ≠ some j) (s3 : ∀ j, i3 = some j → j ≠ 0)
    (r' : RowAt (some 1) R' (some i') v' (Y.map runV ++ Z.map runV)) (hk : ∀ j a, i3 ≠ some j → R[j]? = some a → R'[j]? = some a ∧ i' ≠ j) : St2 c1 R' v' X (Y ++ Z) := by
  have k0 := hk 0 _ (fun e => (s3 0 e) rfl) h1
  refine ⟨v1, i1, some i', k0.1, r1.keep fun j a e hj => (hk j a (s1 j e).2 hj).1, by rw [List.map_append]; exact r', fun j e => ⟨(s1 j e).1, fun e2 => ?_⟩, fun j e => by cases e; exact k0.2⟩
  cases e2
  subst e
  obtain ⟨b, cap, sp, _, hb, _⟩ := r1
  exact (hk i' _ (s1 i' rfl).2 hb).2 rfl
theorem wp_joinRW {P : Program} {A : Prop} {C : List Res → Prop} {t : Tree} {Q : Exit → Fr → List Res → Prop} (h1 : (Unit → ∀ R, C R → t.wp P R Q) → A) (rest : ∀ R, C R → t.wp P R Q) : A := h1 fun _ => rest
theorem st2_of {c1 j : Nat} {R : List Res} {X : List (List Bd)} {v1 : V} {i1 : Option Nat} (h1 : R[0]? = some (.obj c1 [v1])) (r1 : RowAt (some 1) R i1 v1 (X.map runV)) (s1 : ∀ j, i1 = some j → j ≠ 0) (hj : j ≠ 0) (hij : i1 ≠ some j) (x : Res) : St2 c1 (R.set j x) (.sl none [] .zero) (X ++ []) [] :=
  ⟨v1, i1, none, get_ne hj h1, by rw [List.append_nil]; exact r1.keep fun k a e hk => get_ne (fun e2 => hij (by rw [e, e2])) hk, .nil _ _, fun k e => ⟨s1 k e, by simp⟩, fun k e => by cases e⟩
theorem st2_nil {c1 : Nat} {R : List Res} {X : List (List Bd)} {v1 : V} {i1 : Option Nat} (h1 : R[0]? = some (.obj c1 [v1])) (r1 : RowAt (some 1) R i1 v1 (X.map runV)) (s1 : ∀ j, i1 = some j → j ≠ 0) : St2 c1 R (.sl none [] .zero) (X ++ []) [] :=
  ⟨v1, i1, none, h1, by rw [List.append_nil]; exact r1, .nil _ _, fun k e => ⟨s1 k e, by simp⟩, fun k e => by cases e⟩
structure RunsOk (p : Pa) (r : List (List Bd)) : Prop where
  n : r.length < 2 ^ 20
  each : ∀ x ∈ r, BdsOk p x ∧ x.length + 1 < 2 ^ 29
theorem with_ok {s : Sc} {p : Pa} {l : List Kp} {x y : List Bd} {k : Nat} (hx : BdsOk p x) (hn : x.length + 1 < 2 ^ 29) (hk : k < 2 ^ 60) (h : withE s p l x k = some y) : BdsOk p y ∧ y.length < 2 ^ 29 := by
  unfold withE at h
  split at h
  · cases h
  · split at h
    · cases h
      exact ⟨hx.grown (by omega) l hk, by rw [grown, List.length_append, List.length_singleton]; exact hn⟩
    · cases h
theorem take_ok {s : Sc} {p : Pa} (hp : p.els.length < 2 ^ 60) {l : List Kp} {x : List Bd} (hx : BdsOk p x) (hn : x.length + 1 < 2 ^ 29) {y : List Bd} (h : y ∈ takeE s p l x) : BdsOk p y ∧ y.length < 2 ^ 29 := by
  unfold takeE at h
  split at h
  · cases h
  · obtain ⟨k, hk, hw⟩ := List.mem_filterMap.1 h
    exact with_ok hx hn (elems_lt hk hx.last hp) hw
theorem take_len (s : Sc) (p : Pa) (l : List Kp) (x : List Bd) : (takeE s p l x).length ≤ 2 := by
  unfold takeE
  split
  · exact Nat.zero_le _
  · refine Nat.le_trans (List.length_filterMap_le _ _) ?_
    rw [elemsE]; cases nextE p (lastBd x).elem <;> simp
theorem takes_len (s : Sc) (p : Pa) (l : List Kp) : ∀ r : List (List Bd), (takesE' s p l r).length ≤ 2 * r.length
  | [] => Nat.le_refl _
  | x :: r => by
    have h1 := take_len s p l x
    have h2 := takes_len s p l r
    rw [takesE', List.flatMap_cons, List.length_append, List.length_cons]
    rw [takesE'] at h2
    omega
theorem made_ok {s : Sc} {p : Pa} (hp : p.els.length < 2 ^ 60) {l : List Kp} {r : List (List Bd)} (hr : RunsOk p r) {y : List Bd} (h : y ∈ madeE s p l r) : BdsOk p y ∧ y.length < 2 ^ 29 := by
  rcases List.mem_append.1 h with h | h
  · obtain ⟨x, hx, hy⟩ := List.mem_flatMap.1 h
    have := hr.each x (List.mem_filter.1 hx).1
    exact take_ok hp this.1 this.2 hy
  · cases hw : withE s p l [] 0 with
    | none => rw [hw] at h; cases h
    | some z =>
      rw [hw] at h
      have : y = z := by simpa using h
      subst this
      exact with_ok (x := []) ⟨by decide, fun y hy => (by cases hy)⟩ (by decide) (by decide) hw
theorem live_len (p : Pa) (l : List Kp) (r : List (List Bd)) : (liveE p l r).length ≤ r.length := List.length_filter_le _ _
theorem made_len (s : Sc) (p : Pa) (l : List Kp) (r : List (List Bd)) : (madeE s p l r).length ≤ 2 * r.length + 1 := by
  have h1 := takes_len s p l (liveE p l r)
  have h2 := live_len p l r
  rw [madeE, List.length_append]
  have : (withE s p l [] 0).toList.length ≤ 1 := by cases withE s p l [] 0 <;> simp
  omega
theorem insE_len (x : List Bd) : ∀ l : List (List Bd), (insE x l).length ≤ l.length + 1
  | [] => Nat.le_refl _
  | y :: l => by
    unfold insE
    split
    · simp
    · split
      · simp
      · have := insE_len x l
        simp only [List.length_cons]; omega
theorem sorted_len : ∀ l : List (List Bd), (sortedE l).length ≤ l.length
  | [] => Nat.le_refl _
  | x :: l => by
    have h1 := insE_len x (sortedE l)
    have h2 := sorted_len l
    rw [show sortedE (x :: l) = insE x (sortedE l) from rfl, List.length_cons]
    omega
end Go.Sv
namespace Go.Sv
open Go Go.Proofs
set_option maxRecDepth 100000 in
set_option maxHeartbeats 4000000 in
theorem step_call (hC : CountsUp) (s : Sc) (hs : ScOk s) (p : Pa) (hp : StOkP p) (l : List Kp) (hl : StOkL l) (r : List (List Bd)) (hr : RunsOk p r) :
    PCall Tryz.prog 8 [scV s, .agg (paC p), kpsV l, runsV r] (stepR (stepE s p l r)) := by
  have hpn := hp.n
  have hrn := hr.n
  have hmo := fun y => made_ok (s := s) hpn (l := l) hr (y := y)
  have hml := made_len s p l r
  have hll := live_len p l r
  have hlc := living_call p l r
  have hli := living_iter p l hl r (by omega)
  have hLl : (lvL p l r).length = (liveE p l r).length := by rw [lvL, List.length_map]
  obtain ⟨L, hL⟩ : ∃ L, L = liveE p l r := ⟨_, rfl⟩
  rw [← hL] at hll hLl
  refine scall_of (live := [33, 41, 47, 59, 82, 99]) (ords := [(4, []), (9, []), (11, []), (15, []), (24, [])]) Tryz.func8 rfl (by kernel_rfl) (by kernel_rfl) (Nat.le_of_ble_eq_true rfl) ?_
  (conv=>arg 2;whnf);refine wp_allocE [.sl none [] .zero] rfl fun c1 => ?_
  (conv=>arg 2;whnf);refine wp_allocE [.sl none [] .zero] rfl fun c2 => ?_
  (conv=>arg 2;whnf);refine wp_pcall hlc ?_
  (conv=>arg 2;whnf);refine wp_range hli (fun i R1 => TwoS c1 c2 R1 ((L.take i).filter (stayB s p l)) (takesE' s p l (L.take i))) ⟨_, _, none, none, rfl, rfl, .nil _ _, .nil _ _, fun j e => (by cases e), fun j e => (by cases e)⟩ (fun i args h => lv_len h) (fun i args R1 hi hJ => ?_) (fun R1 hJ => ?_)
  · obtain ⟨x, hx, hxr, rfl⟩ := lv_get hi
    rw [← hL] at hx
    obtain ⟨hxo, hxn⟩ := hr.each x hxr
    have ft := take_call s hs p hp l hl x hxo (by omega)
    have fc := pclone_call x (by omega)
    have hb1 : ((L.take i).filter (stayB s p l)).length ≤ 2 ^ 20 := by
      have := List.length_filter_le (stayB s p l) (L.take i)
      rw [List.length_take] at this
      omega
    have hb2 : (takesE' s p l (L.take i)).length ≤ 2 ^ 21 := by
      have := takes_len s p l (L.take i)
      rw [List.length_take] at this
      omega
    have hb3 := take_len s p l x
    have hst : (L.take (i + 1)).filter (stayB s p l) = (L.take i).filter (stayB s p l) ++ (if stayB s p l x then [x] else []) := filt_next (stayB s p l) hx
    have htk : takesE' s p l (L.take (i + 1)) = takesE' s p l (L.take i) ++ takeE s p l x := by
      rw [List.take_add_one, hx, takesE', List.flatMap_append]; simp [takesE']
    rw [hst, htk]
    (conv=>arg 2;whnf);refine wp_allocE runZ rfl fun q => ?_
    (conv=>arg 2;whnf);refine wp_storeE (cs := runZ) R1.length 0 (runC x) (by simp) rfl (VleL.refl _) (Nat.le_refl _) rfl (R' := R1 ++ [.obj q (runC x)]) (by simp [splice, runZ, runC]) ?_
    (conv=>arg 2;whnf)
    refine wp_cutP (frL [(4, .pt (some 1) (scV s) 0), (5, .pt (some 4) (.agg (paC p)) 0), (6, .pt none (kpsV l) 0), (11, .loc c1 0), (12, .loc c2 0), (13, .pt (some 1) (runV x) 0)]) R1 [.obj q (runC x)] ?_ ?_
    · exact .cons (.refl _) (.cons (.refl _) (.cons (.refl _) (.cons (.refl _) (.cons (.refl _) (.cons (.all (k := 1) (List.Mem.head _) rfl Nat.one_pos (VleL.refl _)) (.nil _))))))
    obtain ⟨v1, v2, i1, i2, h1, h2, r1, r2, s1, s2⟩ := hJ
    (conv=>arg 2;whnf);refine wp_pcall ft ?_
    (conv=>arg 2;whnf);refine wp_load 1 h2 rfl ?_
    (conv=>arg 2;whnf);refine wp_app_row r2 (okE_run _) (okE_run _) (show _ * 24 ≤ _ by rw [List.length_map, List.length_map]; omega) (fun v' R' i' r' hk hlen => ?_)
    have hT := two2 h1 h2 r1 s1 s2 r' hk
    have ho : [v'].all oneV = true := by simp [r'.rd.one]
    (conv=>arg 2;whnf);refine wp_storeE (cs := [v2]) 1 0 [v'] (hk 1 _ (fun e => (s2 1 e).2 rfl) h2).1 rfl (VleL.refl _) (Nat.le_refl _) ho (R' := R'.set 1 (.obj c2 [v'])) rfl ?_
    clear r' hk ho h1 h2 r1 r2 s1 s2
    (conv=>arg 2;whnf);refine wp_ite (fun h5 => ?_) (fun h5 => ?_)
    · have hsb : stayB s p l x = true := by rw [stayB, h5]; rfl
      rw [hsb, if_pos rfl]
      obtain ⟨v1, v2, i1, i2, h1, h2, r1, r2, s1, s2⟩ := hT
      (repeat ((conv=>arg 2;whnf);first|refine wp_it rfl ?_|refine wp_if rfl ?_))
      (conv=>arg 2;whnf);refine wp_load 0 h1 rfl ?_
      (conv=>arg 2;whnf);refine wp_pc fc ?_
      (conv=>arg 2;whnf);refine wp_app_row r1 (okE_run _) (okE_run [x]) (show (_ + 1) * 24 ≤ _ by rw [List.length_map]; omega) (fun w' R2 i'' r' hk _ => ?_)
      have ho : [w'].all oneV = true := by simp [r'.rd.one]
      have hT2 := two1 (Z := [x]) h1 h2 r2 s1 s2 r' hk
      (conv=>arg 2;whnf);refine wp_storeE (cs := [v1]) 0 0 [w'] (hk 0 _ (fun e => (s1 0 e).1 rfl) h1).1 rfl (VleL.refl _) (Nat.le_refl _) ho (R' := R2.set 0 (.obj c1 [w'])) rfl ?_
      (conv=>arg 2;whnf)
      exact wp_leaf hT2
    · (conv=>arg 2;whnf);refine wp_ite (fun h6 => ?_) (fun h6 => ?_)
      · have hsb : stayB s p l x = true := by
          rw [stayB, h5]
          have : ((takeE s p l x).map runV).length = 0 := by have := beq_iff_eq.1 h6; omega
          rw [List.length_map] at this
          rw [List.eq_nil_of_length_eq_zero this]; rfl
        rw [hsb, if_pos rfl]
        obtain ⟨v1, v2, i1, i2, h1, h2, r1, r2, s1, s2⟩ := hT
        (repeat ((conv=>arg 2;whnf);first|refine wp_it rfl ?_|refine wp_if rfl ?_))
        (conv=>arg 2;whnf);refine wp_load 0 h1 rfl ?_
        (conv=>arg 2;whnf);refine wp_pc fc ?_
        (conv=>arg 2;whnf);refine wp_app_row r1 (okE_run _) (okE_run [x]) (show (_ + 1) * 24 ≤ _ by rw [List.length_map]; omega) (fun w' R2 i'' r' hk _ => ?_)
        have ho : [w'].all oneV = true := by simp [r'.rd.one]
        have hT2 := two1 (Z := [x]) h1 h2 r2 s1 s2 r' hk
        (conv=>arg 2;whnf);refine wp_storeE (cs := [v1]) 0 0 [w'] (hk 0 _ (fun e => (s1 0 e).1 rfl) h1).1 rfl (VleL.refl _) (Nat.le_refl _) ho (R' := R2.set 0 (.obj c1 [w'])) rfl ?_
        (conv=>arg 2;whnf)
        exact wp_leaf hT2
      · have hsb : stayB s p l x = false := by
          rw [stayB, h5]
          have h6 := beq_eq_false_iff_ne.1 h6
          rw [List.length_map] at h6
          cases ht : takeE s p l x with
          | nil => rw [ht] at h6; exact absurd rfl h6
          | cons => rfl
        rw [hsb, if_neg (by decide), List.append_nil]
        (repeat ((conv=>arg 2;whnf);first|refine wp_it rfl ?_|refine wp_if rfl ?_))
        (conv=>arg 2;whnf)
        exact wp_leaf hT
  · rw [hLl, List.take_length] at hJ
    have hJ : TwoS c1 c2 R1 (stayE s p l r) (takesE' s p l (liveE p l r)) := by rw [hL] at hJ; exact hJ
    have fs := start_call s hs p hp l hl
    have htl := takes_len s p l (liveE p l r)
    rw [hL] at hll
    clear hlc hli hLl hL
    apply wp_joinRW (C := fun R => TwoS c1 c2 R (stayE s p l r) (madeE s p l r))
    case h1 =>
      intro rest
      rcases (show withE s p l [] 0 = none ∨ ∃ x, withE s p l [] 0 = some x by cases withE s p l [] 0 <;> simp) with hw | ⟨x, hw⟩
      · have hm : madeE s p l r = takesE' s p l (liveE p l r) := by rw [madeE, hw]; exact List.append_nil _
        have fs2 := fs
        rw [hw] at fs2
        (conv=>arg 2;whnf);refine wp_pcall fs2 ?_
        (conv=>arg 2;whnf);refine wp_allocE runZ rfl fun q => ?_
        (conv=>arg 2;whnf);refine wp_storeE (cs := runZ) R1.length 0 (runC []) (by simp) rfl (VleL.refl _) (Nat.le_refl _) rfl (R' := R1 ++ [.obj q (runC [])]) (by simp [splice, runZ, runC]) ?_
        (conv=>arg 2;whnf)
        refine wp_cutP (frL [(4, .pt (some 1) (scV s) 0), (5, .pt (some 4) (.agg (paC p)) 0), (11, .loc c1 0), (12, .loc c2 0), (16, bV false)]) R1 [.obj q (runC [])] ?_ ?_
        · exact .cons (.refl _) (.cons (.refl _) (.cons (.refl _) (.cons (.refl _) (.cons (.refl _) (.nil _)))))
        (repeat ((conv=>arg 2;whnf);first|refine wp_it rfl ?_|refine wp_if rfl ?_))
        (conv=>arg 2;whnf)
        refine wp_cutR (frL [(4, .pt (some 1) (scV s) 0), (5, .pt (some 4) (.agg (paC p)) 0), (11, .loc c1 0), (12, .loc c2 0)]) R1 (.cons (.refl _) (.cons (.refl _) (.cons (.refl _) (.cons (.refl _) (.nil _))))) (List.Sublist.refl _) ?_
        have h5 := rest () R1 (by rw [hm]; exact hJ)
        exact h5
      · have hm : madeE s p l r = takesE' s p l (liveE p l r) ++ [x] := by rw [madeE, hw]; rfl
        have fs2 := fs
        rw [hw] at fs2
        (conv=>arg 2;whnf);refine wp_pcall fs2 ?_
        (conv=>arg 2;whnf);refine wp_allocE runZ rfl fun q => ?_
        (conv=>arg 2;whnf);refine wp_storeE (cs := runZ) R1.length 0 (runC x) (by simp) rfl (VleL.refl _) (Nat.le_refl _) rfl (R' := R1 ++ [.obj q (runC x)]) (by simp [splice, runZ, runC]) ?_
        (conv=>arg 2;whnf)
        refine wp_cutP (frL [(4, .pt (some 1) (scV s) 0), (5, .pt (some 4) (.agg (paC p)) 0), (11, .loc c1 0), (12, .loc c2 0), (15, .pt (some 1) (runV x) 0), (16, bV true)]) R1 [.obj q (runC x)] ?_ ?_
        · exact .cons (.refl _) (.cons (.refl _) (.cons (.refl _) (.cons (.refl _) (.cons (.all (k := 1) (List.Mem.head _) rfl Nat.one_pos (VleL.refl _)) (.cons (.refl _) (.nil _))))))
        obtain ⟨v1, v2, i1, i2, h1, h2, r1, r2, s1, s2⟩ := hJ
        (repeat ((conv=>arg 2;whnf);first|refine wp_it rfl ?_|refine wp_if rfl ?_))
        (conv=>arg 2;whnf);refine wp_load 1 h2 rfl ?_
        (conv=>arg 2;whnf);refine wp_app_row r2 (okE_run _) (okE_run [x]) (show (_ + 1) * 24 ≤ _ by rw [List.length_map]; omega) (fun v' R' i' r' hk hlen => ?_)
        have hT := two2 (Z := [x]) h1 h2 r1 s1 s2 r' hk
        have ho : [v'].all oneV = true := by simp [r'.rd.one]
        (conv=>arg 2;whnf);refine wp_storeE (cs := [v2]) 1 0 [v'] (hk 1 _ (fun e => (s2 1 e).2 rfl) h2).1 rfl (VleL.refl _) (Nat.le_refl _) ho (R' := R'.set 1 (.obj c2 [v'])) rfl ?_
        (conv=>arg 2;whnf)
        exact wp_cutR (frL [(4, .pt (some 1) (scV s) 0), (5, .pt (some 4) (.agg (paC p)) 0), (11, .loc c1 0), (12, .loc c2 0)]) _ (.cons (.refl _) (.cons (.refl _) (.cons (.refl _) (.cons (.refl _) (.nil _))))) (List.Sublist.refl _) (rest () _ (by rw [hm]; exact hT))
    case rest =>
      rintro R ⟨v1, v2, i1, i2, h1, h2, r1, r2, s1, s2⟩
      obtain ⟨ms, hms⟩ : ∃ ms, ms = sortedE (madeE s p l r) := ⟨_, rfl⟩
      have fso := sortedrow_call hC (madeE s p l r) (fun x hx => by have := (hmo x hx).2; omega) (by omega) r2
      have hmsl : ms.length ≤ 2 ^ 22 := by
        have := sorted_len (madeE s p l r)
        rw [hms]; omega
      have hmso : ∀ x ∈ ms, BdsOk p x ∧ x.length < 2 ^ 29 := fun x hx => hmo x (mem_sortedE.1 (by rw [hms] at hx; exact hx))
      have hstl : (stayE s p l r).length ≤ 2 ^ 20 := by
        have := List.length_filter_le (stayB s p l) (liveE p l r)
        rw [stayE]; omega
      rw [← hms] at fso
      (conv=>arg 2;whnf);refine wp_load 1 h2 rfl ?_
      (conv=>arg 2;whnf);refine wp_call fso ?_
      rintro v' R' ⟨rd, hk, hset⟩
      have k0 := hk 0 _ (fun e => (s2 0 e).1 rfl) h1
      have r1' := r1.keep fun j a e hj => hk j a (s1 j e).2.2 hj
      obtain ⟨INV, hINV⟩ : ∃ INV : Nat → Fr → List Res → Prop, INV = (fun m fr R => ∃ (n : Nat) (v3 : V), m = ms.length - n ∧ n ≤ ms.length ∧ St2 c1 R v3 (stayE s p l r ++ (ms.take n).filter (goesOn p)) ((ms.take n).filter (doneE p)) ∧ (ms.take n).any longR = false ∧ fr = frL [(5, .pt (some 4) (.agg (paC p)) 0), (11, .loc c1 0), (17, v3), (61, runsV ms), (62, i64V ms.length), (63, i64V n)]) := ⟨_, rfl⟩
      have rd2 := rd.two
      apply wp_joinU
      case h1 =>
        intro rest
        rcases rd2 with ⟨_, hv, he⟩ | ⟨j, b, cap, sp, hi, hv, hb⟩
        · have h0 : ms = [] := List.map_eq_nil_iff.1 he
          have hrv : Vle (.sl none [] .zero) (runsV ms) := by rw [h0]; exact Vle.nil _ _ _
          have hlv : V.c (.int .i64 (([] : List V).length : Nat)) = i64V ms.length := by rw [h0]; rfl
          rw [hv]
          (conv=>arg 2;whnf)
          exact wp_loop INV ms.length (frL [(5, .pt (some 4) (.agg (paC p)) 0), (11, .loc c1 0), (17, .sl none [] .zero), (61, runsV ms), (62, i64V ms.length), (63, i64V (0 : Nat))]) R' (.cons (.refl _) (.cons (.refl _) (.cons (.refl _) (.cons (Vle.gotL hrv rfl) (.cons (Vle.viaS hlv rfl) (.cons (.refl _) (.nil _))))))) (List.Sublist.refl _) (by rw [hINV]; exact ⟨0, _, rfl, Nat.zero_le _, st2_nil k0 r1' (fun j e => (s1 j e).1), rfl, rfl⟩) (rest ())
        · have hj := s2 j hi
          have hij : i1 ≠ some j := fun e => (s1 j e).2.2 hi
          have hlv : V.c (.int .i64 ((ms.map runV).length : Nat)) = i64V ms.length := by rw [List.length_map]; rfl
          have hpin : Pin [Res.obj b (rowC (some 1) (ms.map runV) ++ sp)] (.lsl (some 1) b 0 (ms.map runV).length cap) (runsV ms) := Pin.alls (List.Mem.head _) Nat.one_pos (runs_agg ms)
          rw [hv]
          (conv=>arg 2;whnf)
          refine wp_loopU INV ms.length (frL [(5, .pt (some 4) (.agg (paC p)) 0), (11, .loc c1 0), (17, .sl none [] .zero), (61, runsV ms), (62, i64V ms.length), (63, i64V (0 : Nat))]) _ (UpdF.pinAt hb ?_) (by rw [hINV]; exact ⟨0, _, rfl, Nat.zero_le _, st2_of k0 r1' (fun j e => (s1 j e).1) hj.1 hij _, rfl, rfl⟩) (rest ())
          exact .cons (.refl _) (.cons (.refl _) (.cons (.refl _) (.cons (Pin.gotL hpin rfl) (.cons (.vle (Vle.viaS hlv rfl)) (.cons (.refl _) (.nil _))))))
      case rest =>
        clear rd rd2 hk hset k0 r1' r1 r2 h1 h2 s1 s2 fso
        clear v1 v2 i1 i2
        intro m fr R hI
        rw [hINV] at hI
        obtain ⟨n, v3, rfl, hn, hS, hany, rfl⟩ := hI
        (conv=>arg 2;whnf);refine wp_ite (fun h => ?_) (fun h => ?_)
        · have h : n < ms.length := by have := of_decide_eq_true h; omega
          obtain ⟨x, hx⟩ : ∃ x, ms[n]? = some x := ⟨_, List.getElem?_eq_getElem h⟩
          obtain ⟨hxo, hxn⟩ := hmso x (List.mem_of_getElem? hx)
          have fd := done_call p hpn x (by omega)
          have fc := pclone_call x (by omega)
          have hg := filt_next (goesOn p) hx
          have hd := filt_next (doneE p) hx
          have hb1 : ((ms.take n).filter (goesOn p)).length ≤ 2 ^ 22 := by
            have := List.length_filter_le (goesOn p) (ms.take n)
            rw [List.length_take] at this
            omega
          have hb2 : ((ms.take n).filter (doneE p)).length ≤ 2 ^ 22 := by
            have := List.length_filter_le (doneE p) (ms.take n)
            rw [List.length_take] at this
            omega
          have hb3 : (stayE s p l r ++ (ms.take n).filter (goesOn p)).length ≤ 2 ^ 23 := by rw [List.length_append]; omega
          (conv=>arg 2;whnf);refine wp_elem n (runV x) rfl (runs_at hx) (Vle.refl _) ?_
          (conv=>arg 2;whnf);refine wp_allocE runZ rfl fun q => ?_
          (conv=>arg 2;whnf);refine wp_storeE (cs := runZ) R.length 0 (runC x) (by simp) rfl (VleL.refl _) (Nat.le_refl _) rfl (R' := R ++ [.obj q (runC x)]) (by simp [splice, runZ, runC]) ?_
          (conv=>arg 2;whnf)
          refine wp_cutP (frL [(5, .pt (some 4) (.agg (paC p)) 0), (11, .loc c1 0), (17, v3), (19, .pt (some 1) (runV x) 0), (61, runsV ms), (62, i64V ms.length), (63, i64V n)]) R [.obj q (runC x)] ?_ ?_
          · exact .cons (.refl _) (.cons (.refl _) (.cons (.refl _) (.cons (.all (k := 1) (List.Mem.head _) rfl Nat.one_pos (VleL.refl _)) (.cons (.refl _) (.cons (.refl _) (.cons (.refl _) (.nil _)))))))
          (conv=>arg 2;whnf);refine wp_ite (fun hlong => ?_) (fun hlong => ?_)
          · have hlong : longR x = true := by
              have := of_decide_eq_true hlong
              rw [List.length_map] at this
              exact decide_eq_true (by omega)
            have hr0 : stepE s p l r = none := by
              rw [stepE, ← hms, if_pos (List.any_eq_true.2 ⟨x, List.mem_of_getElem? hx, hlong⟩)]
            (conv=>arg 2;whnf)
            refine wp_leaf (loop_ret ?_)
            (conv=>arg 2;whnf);refine w_ret3P (a := runsV []) (b := runsV []) (c := .c (errV (some 18))) rfl (.vle (Vle.nil _ _ _)) (.vle (Vle.nil _ _ _)) (.refl _) ?_
            rw [hr0]; rfl
          · have hlong : longR x = false := by
              have := of_decide_eq_false hlong
              rw [List.length_map] at this
              exact decide_eq_false (by omega)
            have hany2 : (ms.take (n + 1)).any longR = false := any_next hany hx hlong
            obtain ⟨v1, i1, i3, h1, r1, r3, s1, s3⟩ := hS
            cases hdn : doneE p x with
            | false =>
              have hgo : goesOn p x = true := by rw [goesOn, hdn]; rfl
              rw [hgo, if_pos rfl] at hg
              rw [hdn, if_neg (by decide), List.append_nil] at hd
              rw [hdn] at fd
              (conv=>arg 2;whnf);refine wp_pcall fd ?_
              (repeat ((conv=>arg 2;whnf);first|refine wp_it rfl ?_|refine wp_if rfl ?_))
              (conv=>arg 2;whnf);refine wp_load 0 h1 rfl ?_
              (conv=>arg 2;whnf);refine wp_app_row r1 (okE_run _) (okE_run [x]) (show (_ + 1) * 24 ≤ _ by rw [List.length_map]; omega) (fun w' R2 i'' r' hk _ => ?_)
              have ho : [w'].all oneV = true := by simp [r'.rd.one]
              have hS2 := st_run (Z := [x]) h1 r3 s1 s3 r' hk
              rw [List.append_assoc] at hS2
              (conv=>arg 2;whnf);refine wp_storeE (cs := [v1]) 0 0 [w'] (hk 0 _ (fun e => (s1 0 e).1 rfl) h1).1 rfl (VleL.refl _) (Nat.le_refl _) ho (R' := R2.set 0 (.obj c1 [w'])) rfl ?_
              (conv=>arg 2;whnf)
              refine wp_leaf (loop_next (ms.length - (n + 1)) _ (R2.set 0 (.obj c1 [w'])) (by omega) (.cons (.refl _) (.cons (.refl _) (.cons (.refl _) (.cons (.refl _) (.cons (.refl _) (.cons (Vle.inc n rfl (by omega)) (.nil _))))))) (List.Sublist.refl _) (by rw [hINV]; exact ⟨n + 1, _, rfl, h, by rw [hg, hd]; exact hS2, hany2, rfl⟩))
            | true =>
              rw [hdn, if_pos rfl] at hd
              rw [hdn] at fd
              have hel : 0 < p.els.length := by
                have h2 := hdn
                rw [doneE, Bool.and_eq_true] at h2
                have := of_decide_eq_true h2.2
                omega
              have w0 : IntKind.i64.wrap (((p.els.map elV).length : Int) - 1) = ((p.els.length - 1 : Nat) : Int) := by rw [List.length_map, w_i64_small (by omega) (by omega)]; omega
              obtain ⟨e, he, _, hee⟩ := nt_at p (n := p.els.length - 1) (by omega)
              have hlp : lastPlus p = e.plus := by rw [lastPlus, hee]
              (conv=>arg 2;whnf);refine wp_pcall fd ?_
              (repeat ((conv=>arg 2;whnf);first|refine wp_it rfl ?_|refine wp_if rfl ?_))
              (conv=>arg 2;whnf);refine wp_pcall fc ?_
              (conv=>arg 2;whnf);refine wp_app_row r3 (okE_run _) (okE_run [x]) (show (_ + 1) * 24 ≤ _ by rw [List.length_map]; omega) (fun w3 R3 i3' r3' hk3 _ => ?_)
              have hS3 := st_match (Z := [x]) h1 r1 s1 s3 r3' hk3
              clear h1 r1 r3 s1 s3 r3' hk3
              obtain ⟨v1, i1, i3, h1, r1, r3, s1, s3⟩ := hS3
              (repeat ((conv=>arg 2;whnf);first|refine wp_it rfl ?_|refine wp_if rfl ?_))
              (conv=>arg 2;whnf);refine wp_elem (p.els.length - 1) (elV e) w0 (els_at2 he) (Vle.refl _) ?_
              (conv=>arg 2;whnf);refine wp_ite (fun hpl => ?_) (fun hpl => ?_)
              · have hgo : goesOn p x = true := by rw [goesOn, hdn, hlp, hpl]; rfl
                rw [hgo, if_pos rfl] at hg
                (conv=>arg 2;whnf);refine wp_load 0 h1 rfl ?_
                (conv=>arg 2;whnf);refine wp_app_row r1 (okE_run _) (okE_run [x]) (show (_ + 1) * 24 ≤ _ by rw [List.length_map]; omega) (fun w' R2 i'' r' hk _ => ?_)
                have ho : [w'].all oneV = true := by simp [r'.rd.one]
                have hS2 := st_run (Z := [x]) h1 r3 s1 s3 r' hk
                rw [List.append_assoc] at hS2
                (conv=>arg 2;whnf);refine wp_storeE (cs := [v1]) 0 0 [w'] (hk 0 _ (fun e => (s1 0 e).1 rfl) h1).1 rfl (VleL.refl _) (Nat.le_refl _) ho (R' := R2.set 0 (.obj c1 [w'])) rfl ?_
                (conv=>arg 2;whnf)
                refine wp_leaf (loop_next (ms.length - (n + 1)) _ (R2.set 0 (.obj c1 [w'])) (by omega) (.cons (.refl _) (.cons (.refl _) (.cons (.refl _) (.cons (.refl _) (.cons (.refl _) (.cons (Vle.inc n rfl (by omega)) (.nil _))))))) (List.Sublist.refl _) (by rw [hINV]; exact ⟨n + 1, _, rfl, h, by rw [hg, hd]; exact hS2, hany2, rfl⟩))
              · have hgo : goesOn p x = false := by rw [goesOn, hdn, hlp, hpl]; rfl
                rw [hgo, if_neg (by decide), List.append_nil] at hg
                (conv=>arg 2;whnf)
                refine wp_leaf (loop_next (ms.length - (n + 1)) _ R3 (by omega) (.cons (.refl _) (.cons (.refl _) (.cons (.refl _) (.cons (.refl _) (.cons (.refl _) (.cons (Vle.inc n rfl (by omega)) (.nil _))))))) (List.Sublist.refl _) (by rw [hINV]; exact ⟨n + 1, _, rfl, h, by rw [hg, hd]; exact ⟨v1, i1, i3, h1, r1, r3, s1, s3⟩, hany2, rfl⟩))
        · have h : n = ms.length := by have := of_decide_eq_false h; omega
          rw [h, List.take_length] at hS hany
          obtain ⟨v1, i1, i3, h1, r1, r3, s1, s3⟩ := hS
          obtain ⟨rs, hrs⟩ : ∃ rs, rs = sortedE (stayE s p l r ++ ms.filter (goesOn p)) := ⟨_, rfl⟩
          have hfl : (stayE s p l r ++ ms.filter (goesOn p)).length ≤ 2 ^ 23 := by
            have := List.length_filter_le (goesOn p) ms
            rw [List.length_append]; omega
          have hQ : ∀ x ∈ stayE s p l r ++ ms.filter (goesOn p), x.length < 2 ^ 60 := fun x hx => by
            rcases List.mem_append.1 hx with hx | hx
            · have := (hr.each x (List.mem_filter.1 (List.mem_filter.1 hx).1).1).2
              omega
            · have := (hmso x (List.mem_filter.1 hx).1).2
              omega
          have hrsl : rs.length ≤ 2 ^ 23 := by
            have := sorted_len (stayE s p l r ++ ms.filter (goesOn p))
            rw [hrs]; omega
          have fso := sortedrow_call hC (stayE s p l r ++ ms.filter (goesOn p)) hQ (by omega) r1
          have fl := longs_call rs (by omega)
          have hstep : stepE s p l r = if 60 < rs.length ∨ rs.any longR then none else some (rs, ms.filter (doneE p)) := by
            rw [stepE, ← hms, if_neg (by rw [hany]; decide), ← hrs]
          rw [← hrs] at fso
          (conv=>arg 2;whnf)
          refine wp_leaf (loop_exit ?_)
          (conv=>arg 2;whnf);refine wp_load 0 h1 rfl ?_
          (conv=>arg 2;whnf);refine wp_call fso ?_
          rintro v' R' ⟨rd, hk, _⟩
          have k0 := hk 0 _ (fun e => (s1 0 e).1 rfl) h1
          have r3' := r3.keep fun j a e hj => hk j a (fun e1 => (s1 j e1).2 e) hj
          have ho : [v'].all oneV = true := by simp [rd.one]
          have rd' := rd.keep (R' := R'.set 0 (.obj c1 [v'])) fun j a e hj => get_ne (fun e2 => (s1 j e).1 e2.symm) hj
          have r3'' := r3'.keep (R' := R'.set 0 (.obj c1 [v'])) fun j a e hj => get_ne (fun e2 => (s3 j e) e2.symm) hj
          have p1 := rd'.pin Nat.one_pos (runs_agg rs)
          have p3 := r3''.rd.pin Nat.one_pos (runs_agg (ms.filter (doneE p)))
          (conv=>arg 2;whnf);refine wp_storeE (cs := [v1]) 0 0 [v'] k0 rfl (VleL.refl _) (Nat.le_refl _) ho (R' := R'.set 0 (.obj c1 [v'])) rfl ?_
          (conv=>arg 2;whnf)
          refine wp_cutP (frL [(11, .pt none (runsV rs) 0), (17, runsV (ms.filter (doneE p)))]) [] (R'.set 0 (.obj c1 [v'])) ?_ ?_
          · exact .cons (.oneP (List.mem_of_getElem? (get_set k0)) p1) (.cons (Pin.gotL p3 rfl) (.nil _))
          (conv=>arg 2;whnf);refine wp_ite (fun h6 => ?_) (fun h6 => ?_)
          · have h6 : 60 < rs.length := by
              have := of_decide_eq_true h6
              rw [List.length_map] at this; omega
            rw [if_pos (.inl h6)] at hstep
            rw [hstep]
            (repeat ((conv=>arg 2;whnf);first|refine wp_it rfl ?_|refine wp_if rfl ?_))
            (conv=>arg 2;whnf);refine w_ret3P (a := runsV []) (b := runsV []) (c := .c (errV (some 18))) rfl (.vle (Vle.nil _ _ _)) (.vle (Vle.nil _ _ _)) (.refl _) rfl
          · have h6 : ¬ 60 < rs.length := by
              have := of_decide_eq_false h6
              rw [List.length_map] at this; omega
            (conv=>arg 2;whnf);refine wp_pcall fl ?_
            cases hlr : rs.any longR with
            | true =>
              rw [if_pos (.inr hlr)] at hstep
              rw [hstep]
              (repeat ((conv=>arg 2;whnf);first|refine wp_it rfl ?_|refine wp_if rfl ?_))
              (conv=>arg 2;whnf);refine w_ret3P (a := runsV []) (b := runsV []) (c := .c (errV (some 18))) rfl (.vle (Vle.nil _ _ _)) (.vle (Vle.nil _ _ _)) (.refl _) rfl
            | false =>
              rw [if_neg (by rw [hlr]; simp [h6])] at hstep
              rw [hstep]
              (repeat ((conv=>arg 2;whnf);first|refine wp_it rfl ?_|refine wp_if rfl ?_))
              (conv=>arg 2;whnf);refine w_ret3P (a := runsV rs) (b := runsV (ms.filter (doneE p))) (c := .c (errV none)) rfl (.refl _) (.refl _) (.refl _) rfl
end Go.Sv
namespace Go.Sv
open Go Go.Proofs
def allGo (s : Sc) (p : Pa) (l : List Kp) : Nat → Nat → List (List Bd) → List (List (List Bd)) → List (List (List Bd)) × Option Nat
  | 0, _, _, out => (out, none)
  | k + 1, i, r, out => match stepE s p (l.take (i + 1)) r with
    | none => (out, some 18)
    | some (r', m) => allGo s p l k (i + 1) r' (out ++ [m])
def allE (s : Sc) (p : Pa) (l : List Kp) : List (List (List Bd)) × Option Nat := allGo s p l l.length 0 [] []
def mssV (l : List (List (List Bd))) : V := .sl none (l.map runsV) .no
def allR (x : List (List (List Bd)) × Option Nat) : V := .tup [mssV x.1, .c (errV x.2)]
theorem StOkL.take {l : List Kp} (h : StOkL l) (n : Nat) : StOkL (l.take n) :=
  ⟨by rw [List.length_take]; have := h.n; omega, h.rise.sublist (List.take_sublist _ _), fun k hk => h.rg k (List.mem_of_mem_take hk)⟩
theorem step_runs {s : Sc} {p : Pa} (hp : p.els.length < 2 ^ 60) {l : List Kp} {r rs ms : List (List Bd)} (hr : RunsOk p r) (h : stepE s p l r = some (rs, ms)) : RunsOk p rs ∧ rs.length ≤ 60 ∧ (∀ x ∈ rs, x.length ≤ 30) ∧ (∀ x ∈ ms, x.length ≤ 30) := by
  unfold stepE at h
  split at h
  · cases h
  · rename_i h0
    split at h
    · cases h
    · rename_i h1
      cases h
      have hl : ∀ x, x ∈ sortedE (stayE s p l r ++ (sortedE (madeE s p l r)).filter (goesOn p)) → x.length ≤ 30 := fun x hx => by
        have h2 : ¬ _ := fun e => h1 (.inr e)
        rw [Bool.not_eq_true, List.any_eq_false] at h2
        have := h2 x hx
        simpa [longR] using this
      refine ⟨⟨by have h2 : ¬ _ := fun e => h1 (.inl e); omega, fun x hx => ⟨?_, by have := hl x hx; omega⟩⟩, by have h2 : ¬ _ := fun e => h1 (.inl e); omega, hl, fun x hx => ?_⟩
      · rcases List.mem_append.1 (mem_sortedE.1 hx) with hx | hx
        · exact (hr.each x (List.mem_filter.1 (List.mem_filter.1 hx).1).1).1
        · exact (made_ok hp hr (mem_sortedE.1 (List.mem_filter.1 hx).1)).1
      · rw [Bool.not_eq_true, List.any_eq_false] at h0
        have := h0 x (List.mem_filter.1 hx).1
        simpa [longR] using this
theorem runs_nil (p : Pa) : RunsOk p [] := ⟨by decide, fun x hx => (by cases hx)⟩
theorem kps_take (l : List Kp) (n : Nat) : Vle (.sl (some 4) ((l.map kpV).take (Int.toNat ((n : Nat) : Int))) .no) (kpsV (l.take n)) := Vle.eq (by rw [kpsV, List.map_take]; rfl)
theorem okE_ms (l : List (List (List Bd))) : ∀ y ∈ l.map runsV, okE none y := by
  intro y hy
  obtain ⟨b, _, rfl⟩ := List.mem_map.1 hy
  rfl
set_option maxRecDepth 100000 in
set_option maxHeartbeats 1000000 in
theorem all_call (hC : CountsUp) (s : Sc) (hs : ScOk s) (p : Pa) (hp : StOkP p) (l : List Kp) (hl : StOkL l) (hln : l.length < 2 ^ 30) :
    PCall Tryz.prog 13 [scV s, .agg (paC p), kpsV l] (allR (allE s p l)) := by
  have hpn := hp.n
  refine scall_of (live := []) (ords := []) Tryz.func13 rfl (by kernel_rfl) (by kernel_rfl) (Nat.le_of_ble_eq_true rfl) ?_
  (conv=>arg 2;whnf);refine wp_loop (fun m fr R => ∃ (n : Nat) (r : List (List Bd)) (out : List (List (List Bd))) (t : Option Nat) (vr : V), m = l.length - n ∧ n ≤ l.length ∧ allE s p l = allGo s p l (l.length - n) n r out ∧ RunsOk p r ∧ out.length ≤ n ∧ (t = none → out = []) ∧ Vle vr (runsV r) ∧ R = [] ++ (tokR none t ++ []) ∧
      fr = frL [(2, kpsV l), (3, .pt (some 1) (scV s) 0), (4, .pt (some 4) (.agg (paC p)) 0), (8, .sl (shOf none t) (out.map runsV) (tkOf t)), (9, vr), (15, i64V l.length), (16, i64V n)])
    l.length _ _ (.cons (.refl _) (.cons (.refl _) (.cons (.refl _) (.cons (.refl _) (.cons (.refl _) (.cons (Vle.i64 _ rfl (by rw [List.length_map])) (.cons (.refl _) (.nil _)))))))) (List.Sublist.refl _) ⟨0, [], [], none, .sl none [] .zero, rfl, Nat.zero_le _, rfl, runs_nil p, Nat.zero_le _, fun _ => rfl, Vle.nil _ _ _, rfl, rfl⟩ ?_
  rintro m fr R ⟨n, r, out, t, vr, rfl, hn, he, hr, hout, ht, hvr, rfl, rfl⟩
  (conv=>arg 2;whnf);refine wp_ite (fun h => ?_) (fun h => ?_)
  · have h : n < l.length := by have := of_decide_eq_true h; omega
    have fs := step_call hC s hs p hp (l.take (n + 1)) (hl.take _) r hr
    have hw1 : IntKind.i64.wrap ((n : Int) + 1) = ((n + 1 : Nat) : Int) := by rw [w_i64_small (by omega) (by omega)]; omega
    have hsl : Vle (.sl (some 4) ((l.map kpV).take (Int.toNat (IntKind.i64.wrap ((n : Int) + 1)))) .no) (kpsV (l.take (n + 1))) := by rw [hw1]; exact kps_take l (n + 1)
    have he : allE s p l = allGo s p l ((l.length - (n + 1)) + 1) n r out := by rw [he]; congr 1; omega
    rw [allGo] at he
    (conv=>arg 2;whnf);refine wp_need (by rw [hw1, List.length_map]; omega) ?_
    cases hst : stepE s p (l.take (n + 1)) r with
    | none =>
      rw [hst] at fs he
      have hv : Vle (.sl (shOf none t) (out.map runsV) (tkOf t)) (mssV out) := by
        cases t with
        | none => rw [ht rfl]; exact Vle.nil _ _ _
        | some t => exact Vle.sl _ _ _
      (conv=>arg 2;whnf);refine wp_pcV (.cons (.refl _) (.cons (.refl _) (.cons hsl (.cons hvr .nil)))) fs ?_
      (repeat ((conv=>arg 2;whnf);first|refine wp_it rfl ?_|refine wp_if rfl ?_))
      (conv=>arg 2;whnf)
      refine wp_leaf (loop_ret ?_)
      (conv=>arg 2;whnf);refine w_ret2 rfl hv (Vle.refl _) (List.nil_sublist _) ?_
      rw [he]; rfl
    | some x =>
      obtain ⟨rs, ms⟩ := x
      rw [hst] at fs he
      have hrs := (step_runs hpn hr hst).1
      (conv=>arg 2;whnf);refine wp_pcV (.cons (.refl _) (.cons (.refl _) (.cons hsl (.cons hvr .nil)))) fs ?_
      (repeat ((conv=>arg 2;whnf);first|refine wp_it rfl ?_|refine wp_if rfl ?_))
      (conv=>arg 2;whnf);refine wp_append_x (A := []) (B := []) (sh := none) (t := t) (xs := out.map runsV) (ys := [runsV ms]) (fun h => by rw [ht h]; rfl) (okE_ms [ms]) (show (_ + 1) * 24 ≤ _ by rw [List.length_map]; omega) (fun t' S' hS => ?_)
      (conv=>arg 2;whnf)
      refine wp_leaf (loop_next (l.length - (n + 1)) _ [.tok t' none] (by omega) (.cons (.refl _) (.cons (.refl _) (.cons (.refl _) (.cons (Vle.of (.sl none (out.map runsV ++ [runsV ms]) (.t t')) rfl ?_) (.cons (.refl _) (.cons (.refl _) (.cons (Vle.inc n rfl (by omega)) (.nil _)))))))) hS ⟨n + 1, rs, out ++ [ms], some t', runsV rs, rfl, h, he, hrs, by rw [List.length_append, List.length_singleton]; omega, (fun e => by cases e), Vle.refl _, rfl, rfl⟩)
      rw [List.map_append]; rfl
  · have h : n = l.length := by have := of_decide_eq_false h; omega
    subst h
    rw [Nat.sub_self] at he
    have hv : Vle (.sl (shOf none t) (out.map runsV) (tkOf t)) (mssV out) := by
      cases t with
      | none => rw [ht rfl]; exact Vle.nil _ _ _
      | some t => exact Vle.sl _ _ _
    (conv=>arg 2;whnf)
    refine wp_leaf (loop_exit ?_)
    (conv=>arg 2;whnf);refine w_ret2 rfl hv (Vle.refl _) (List.nil_sublist _) ?_
    rw [he]; rfl
end Go.Sv
namespace Go.Sv
open Go
def bindsR (p : Pa) (l : List Kp) (b : List Bd) : List Bn := b.map fun x => ⟨(elAt p x.elem).al, (atE l x.at_).getD ev0⟩
def byR (s : Sc) (p : Pa) (e : Ev) : Val := (getV s e p.by_).getD val0
def takesR (s : Sc) (p : Pa) (l : List Kp) (b : List Bd) (k : Nat) (e : Ev) : Bool :=
  (elAt p k).ty.contains e.ty && (if b ≠ [] ∧ p.by_ ≠ [] ∧ byR s p (firstEv l b) ≠ byR s p e then false else holdsE s (elAt p k).cond (bindsR p l b ++ [⟨(elAt p k).al, e⟩]))
def freeR (s : Sc) (p : Pa) (l : List Kp) (b : List Bd) (k : Nat) (i j : Int) : Bool :=
  if k = 0 ∨ ntAt p.els (k - 1) = false then true else (betw l i j).all fun y => !takesR s p l b (k - 1) y.e
def sameR (p : Pa) (b : List Bd) (k : Nat) : Bool := decide (k = (lastBd b).elem) && (elAt p k).plus
def goesR (s : Sc) (p : Pa) (l : List Kp) (b : List Bd) (k : Nat) (x : Kp) : Bool :=
  if b = [] then decide (k = 0) && takesR s p l [] 0 x.e
  else match atE l (b.headD bd0).at_ with
    | none => false
    | some f =>
      if x.at_ ≤ (lastBd b).at_ then false
      else if sameR p b k = false ∧ nextI p (lastBd b).elem ≠ k then false
      else if x.e.ts - f.ts > p.within then false
      else takesR s p l b k x.e && (sameR p b k || freeR s p l b k (lastBd b).at_ x.at_)
structure PfOk (s : Sc) (p : Pa) : Prop where
  pos : 0 < p.els.length
  first : ntAt p.els 0 = false
  last : ntAt p.els (p.els.length - 1) = false
  apart : ∀ i, ntAt p.els (i + 1) = true → ntAt p.els i = false
  als : ∀ i j, i < p.els.length → j < p.els.length → (elAt p i).al = (elAt p j).al → i = j
  byOk : p.by_ ≠ [] → ∀ k, k < p.els.length → ∀ t ∈ (elAt p k).ty, ∃ ty, findT s t = some ty ∧ 0 ≤ fieldI ty p.by_
  within : 0 ≤ p.within
def EvOk (s : Sc) (e : Ev) : Prop := ∃ ty, findT s e.ty = some ty ∧ e.vals.length = ty.flds.length
def EvsOk (s : Sc) (l : List Kp) : Prop := ∀ k ∈ l, EvOk s k.e
theorem fieldI_lt (ty : Ty) (f : List UInt8) : fieldI ty f < ty.flds.length ∨ ty.flds.length = 0 := by
  unfold fieldI idxI
  split
  · rename_i h
    have := List.findIdx_lt_length.2 (by obtain ⟨x, hx, hq⟩ := List.any_eq_true.1 h; exact ⟨x, hx, hq⟩)
    exact .inl (by omega)
  · by_cases h : ty.flds.length = 0
    · exact .inr h
    · exact .inl (by omega)
theorem getV_by {s : Sc} {p : Pa} (hp : PfOk s p) (hb : p.by_ ≠ []) {k : Nat} (hk : k < p.els.length) {e : Ev} (he : EvOk s e) (ht : (elAt p k).ty.contains e.ty = true) : ∃ v, getV s e p.by_ = some v := by
  obtain ⟨ty, h1, h2⟩ := he
  obtain ⟨ty', h3, h4⟩ := hp.byOk hb k hk e.ty (by simpa using ht)
  rw [h1] at h3; cases h3
  rw [getV, h1]
  simp only
  rw [if_neg (by omega)]
  have h5 := fieldI_lt ty p.by_
  have h6 : (fieldI ty p.by_).toNat < e.vals.length := by
    rcases h5 with h5 | h5
    · omega
    · have : fieldI ty p.by_ = -1 := by
        unfold fieldI idxI
        rw [List.eq_nil_of_length_eq_zero h5]; rfl
      omega
  exact ⟨_, List.getElem?_eq_getElem h6⟩
theorem lastB_append (al : List UInt8) (l : List Bn) (b : Bn) : lastB al (l ++ [b]) = if b.al = al then some b else lastB al l := by
  rw [lastB, List.reverse_append]
  simp only [List.reverse_cons, List.reverse_nil, List.nil_append, List.singleton_append, List.find?_cons]
  by_cases h : b.al = al
  · simp [h]
  · simp [h, lastB]
theorem snoc_ind {α : Type} {C : List α → Prop} (h0 : C []) (h1 : ∀ l x, C l → C (l ++ [x])) (l : List α) : C l := by
  have h : ∀ r : List α, C r.reverse := by
    intro r
    induction r with
    | nil => exact h0
    | cons x r ih => rw [List.reverse_cons]; exact h1 _ _ ih
  have := h l.reverse
  rwa [List.reverse_reverse] at this
theorem evE_congr {s : Sc} {l l' : List Bn} (h : ∀ al, (lastB al l).map (·.e) = (lastB al l').map (·.e)) : ∀ (k : Nat) (x : Ex), evE s l k x = evE s l' k x
  | 0, _ => rfl
  | k + 1, x => by
    have hf : fieldE s l x.al x.fd = fieldE s l' x.al x.fd := by
      have := h x.al
      unfold fieldE
      cases h1 : lastB x.al l with
      | none => rw [h1] at this; cases h2 : lastB x.al l' with
        | none => rfl
        | some b => rw [h2] at this; cases this
      | some b => rw [h1] at this; cases h2 : lastB x.al l' with
        | none => rw [h2] at this; cases this
        | some b' =>
          rw [h2] at this
          simp only [Option.map_some, Option.some.injEq] at this
          simp only [this]
    simp only [evE, hf, evE_congr h k]
theorem holdsE_congr {s : Sc} {l l' : List Bn} (h : ∀ al, (lastB al l).map (·.e) = (lastB al l').map (·.e)) (x : Ex) : holdsE s x l = holdsE s x l' := by
  unfold holdsE; rw [evE_congr h]
theorem prefE_snoc {s : Sc} {p : Pa} {l : List Kp} {b : List Bd} {x : Bd} : prefE s p l (b ++ [x]) = ((prefE s p l b || decide (b = [])) && goesE s p l b x) := by
  unfold prefE
  rw [List.length_append, List.length_singleton, List.range_succ, List.all_append]
  have h1 : ((List.range b.length).all fun i => goesE s p l ((b ++ [x]).take i) ((b ++ [x]).getD i bd0)) = (List.range b.length).all fun i => goesE s p l (b.take i) (b.getD i bd0) := by
    rw [Bool.eq_iff_iff, List.all_eq_true, List.all_eq_true]
    have : ∀ i ∈ List.range b.length, goesE s p l ((b ++ [x]).take i) ((b ++ [x]).getD i bd0) = goesE s p l (b.take i) (b.getD i bd0) := by
      intro i hi
      have hi := List.mem_range.1 hi
      rw [List.take_append_of_le_length (by omega), List.getD_eq_getElem?_getD, List.getD_eq_getElem?_getD, List.getElem?_append_left hi]
    constructor
    · intro h i hi; rw [← this i hi]; exact h i hi
    · intro h i hi; rw [this i hi]; exact h i hi
  have h2 : ([b.length].all fun i => goesE s p l ((b ++ [x]).take i) ((b ++ [x]).getD i bd0)) = goesE s p l b x := by
    simp [List.getD_eq_getElem?_getD]
  rw [h1, h2]
  cases b with
  | nil => simp
  | cons y b => simp
def Pre0 (s : Sc) (p : Pa) (l : List Kp) (b : List Bd) : Prop := b = [] ∨ prefE s p l b = true
theorem pre0_snoc {s : Sc} {p : Pa} {l : List Kp} {b : List Bd} {x : Bd} : prefE s p l (b ++ [x]) = true ↔ Pre0 s p l b ∧ goesE s p l b x = true := by
  rw [prefE_snoc, Bool.and_eq_true, Bool.or_eq_true, Pre0, decide_eq_true_iff, or_comm]
theorem lastBd_snoc (b : List Bd) (x : Bd) : lastBd (b ++ [x]) = x := by
  unfold lastBd; simp
theorem goesE_some {s : Sc} {p : Pa} {l : List Kp} {b : List Bd} {x : Bd} (h : goesE s p l b x = true) : ∃ e, atE l x.at_ = some e ∧ x.elem < p.els.length ∧
    ((b = [] ∧ x.elem = 0 ∧ takesE s p l [] 0 e = true) ∨
     (b ≠ [] ∧ (lastBd b).at_ < x.at_ ∧ (sameE p b x = true ∨ nextI p (lastBd b).elem = x.elem) ∧ e.ts - (firstEv l b).ts ≤ p.within ∧ alikeE s p (firstEv l b) e = true ∧ takesE s p l b x.elem e = true ∧ (sameE p b x || guardE s p l b x) = true)) := by
  unfold goesE at h
  cases he : atE l x.at_ with
  | none => rw [he] at h; cases h
  | some e =>
    rw [he] at h
    simp only at h
    by_cases h1 : p.els.length ≤ x.elem
    · rw [if_pos h1] at h; cases h
    · rw [if_neg h1] at h
      refine ⟨e, rfl, by omega, ?_⟩
      by_cases hb : b = []
      · rw [if_pos hb, Bool.and_eq_true, decide_eq_true_iff] at h
        exact .inl ⟨hb, h⟩
      · rw [if_neg hb] at h
        by_cases h2 : x.at_ ≤ (lastBd b).at_
        · rw [if_pos h2] at h; cases h
        · rw [if_neg h2] at h
          by_cases h3 : sameE p b x = false ∧ nextI p (lastBd b).elem ≠ x.elem
          · rw [if_pos h3] at h; cases h
          · rw [if_neg h3] at h
            by_cases h4 : e.ts - (firstEv l b).ts > p.within
            · rw [if_pos h4] at h; cases h
            · rw [if_neg h4, Bool.and_eq_true, Bool.and_eq_true] at h
              refine .inr ⟨hb, by omega, ?_, by omega, h.1, h.2.1, h.2.2⟩
              cases hs : sameE p b x with
              | true => exact .inl rfl
              | false => exact .inr (Classical.byContradiction fun hn => h3 ⟨hs, hn⟩)
theorem nextE_some {p : Pa} {k n : Nat} (h : nextE p k = some n) : k < n ∧ n < p.els.length ∧ ntAt p.els n = false ∧ ∀ i, k < i → i < n → ntAt p.els i = true := by
  unfold nextE at h
  have h1 := List.find?_some h
  have h2 := List.mem_range.1 (List.mem_of_find?_eq_some h)
  rw [Bool.and_eq_true, decide_eq_true_iff, Bool.not_eq_true'] at h1
  refine ⟨h1.1, h2, h1.2, fun i hi hin => ?_⟩
  rw [List.find?_range_eq_some] at h
  have := h.2.2 i hin
  simp only [hi, decide_true, Bool.true_and, Bool.not_not] at this
  exact this
theorem nextI_nat {p : Pa} {k n : Nat} (h : nextI p k = n) : nextE p k = some n := by
  unfold nextI at h
  split at h
  · rename_i m hm; rw [hm]; congr 1; omega
  · omega
structure Bound0 (s : Sc) (p : Pa) (l : List Kp) (b : List Bd) : Prop where
  el : ∀ y ∈ b, y.elem ≤ (lastBd b).elem ∧ y.at_ ≤ (lastBd b).at_
  at_ : ∀ y ∈ b, (atE l y.at_).isSome = true
  len : (lastBd b).elem < p.els.length
  nt : b ≠ [] → ntAt p.els (lastBd b).elem = false
  ty : b ≠ [] → (elAt p 0).ty.contains (firstEv l b).ty = true
theorem firstEv_snoc {l : List Kp} {b : List Bd} (hb : b ≠ []) (x : Bd) : firstEv l (b ++ [x]) = firstEv l b := by
  cases b with
  | nil => exact absurd rfl hb
  | cons y b => rfl
theorem same_next {s : Sc} {p : Pa} {b : List Bd} {x : Bd} (h : sameE p b x = true ∨ nextI p (lastBd b).elem = x.elem) : (lastBd b).elem ≤ x.elem := by
  rcases h with h | h
  · unfold sameE at h
    rw [Bool.and_eq_true, decide_eq_true_iff] at h
    omega
  · have := (nextE_some (nextI_nat h)).1; omega
theorem bound0 {s : Sc} {p : Pa} (hp : PfOk s p) {l : List Kp} (b : List Bd) (h : Pre0 s p l b) : Bound0 s p l b := by
  induction b using snoc_ind with
  | h0 => exact ⟨fun y hy => (by cases hy), fun y hy => (by cases hy), hp.pos, fun h => absurd rfl h, fun h => absurd rfl h⟩
  | h1 b x ih =>
    have h := h.resolve_left (by simp)
    rw [pre0_snoc] at h
    have hb := ih h.1
    obtain ⟨e, he, hlen, h2⟩ := goesE_some h.2
    rcases h2 with ⟨rfl, h0, ht⟩ | ⟨hne, hat, hsn, hts, hal, htk, hg⟩
    · have e1 : ([] : List Bd) ++ [x] = [x] := rfl
      rw [e1]
      refine ⟨fun y hy => ?_, fun y hy => ?_, hlen, fun _ => ?_, fun _ => ?_⟩
      · rw [List.mem_singleton.1 hy]; exact ⟨Nat.le_refl _, Int.le_refl _⟩
      · rw [List.mem_singleton.1 hy, he]; rfl
      · show ntAt p.els x.elem = false
        rw [h0]; exact hp.first
      · have : firstEv l [x] = e := by unfold firstEv; simp [he]
        rw [this]
        unfold takesE at ht
        rw [Bool.and_eq_true] at ht
        exact ht.1
    · have hle := same_next (s := s) hsn
      refine ⟨fun y hy => ?_, fun y hy => ?_, by rw [lastBd_snoc]; exact hlen, fun _ => ?_, fun _ => by rw [firstEv_snoc hne]; exact hb.ty hne⟩
      · rw [lastBd_snoc]
        rcases List.mem_append.1 hy with hy | hy
        · have := hb.el y hy; omega
        · rw [List.mem_singleton.1 hy]; exact ⟨Nat.le_refl _, Int.le_refl _⟩
      · rcases List.mem_append.1 hy with hy | hy
        · exact hb.at_ y hy
        · rw [List.mem_singleton.1 hy, he]; rfl
      · rw [lastBd_snoc]
        rcases hsn with h | h
        · unfold sameE at h
          rw [Bool.and_eq_true, decide_eq_true_iff] at h
          rw [h.1]; exact hb.nt hne
        · exact (nextE_some (nextI_nat h)).2.2.1
theorem binds_same {s : Sc} {p : Pa} (hp : PfOk s p) {l : List Kp} {b : List Bd} (hb : Bound0 s p l b) {k : Nat} (hk : k < p.els.length) (hle : ∀ y ∈ b, y.elem ≤ k) (e : Ev) (al : List UInt8) :
    (lastB al (boundE p l b k ++ [⟨(elAt p k).al, e⟩])).map (·.e) = (lastB al (bindsR p l b ++ [⟨(elAt p k).al, e⟩])).map (·.e) := by
  rw [lastB_append, lastB_append]
  by_cases ha : (elAt p k).al = al
  · rw [if_pos ha, if_pos ha]
  · rw [if_neg ha, if_neg ha]
    congr 1
    have hat := hb.at_
    have hlen : ∀ y ∈ b, y.elem < p.els.length := fun y hy => by have := hle y hy; omega
    clear hb
    induction b using snoc_ind with
    | h0 => rfl
    | h1 b x ih =>
      have ih := ih (fun y hy => hle y (List.mem_append_left _ hy)) (fun y hy => hat y (List.mem_append_left _ hy)) (fun y hy => hlen y (List.mem_append_left _ hy))
      obtain ⟨f, hf⟩ := Option.isSome_iff_exists.1 (hat x (by simp))
      have hx := hle x (by simp)
      have hxl := hlen x (by simp)
      rw [bindsR, List.map_append, List.map_singleton, ← bindsR, lastB_append, hf]
      have e1 : boundE p l (b ++ [x]) k = boundE p l b k ++ (if x.elem < k then [⟨(elAt p x.elem).al, f⟩] else []) := by
        unfold boundE
        rw [List.filterMap_append]
        congr 1
        simp only [List.filterMap_cons, List.filterMap_nil, hf]
        by_cases h : x.elem < k <;> simp [h]
      rw [e1]
      by_cases h : x.elem < k
      · rw [if_pos h, lastB_append, ih]; rfl
      · rw [if_neg h, List.append_nil, ih]
        have : x.elem = k := by omega
        rw [this, if_neg ha]
theorem first_ok {s : Sc} {p : Pa} {l : List Kp} (hl : EvsOk s l) {b : List Bd} (hb : b ≠ []) (h : Bound0 s p l b) : EvOk s (firstEv l b) ∧ atE l (b.headD bd0).at_ = some (firstEv l b) := by
  cases b with
  | nil => exact absurd rfl hb
  | cons y b =>
    obtain ⟨f, hf⟩ := Option.isSome_iff_exists.1 (h.at_ y (by simp))
    obtain ⟨q, hq, he, _⟩ := at_mem hf
    have : firstEv l (y :: b) = f := by unfold firstEv; simp [hf]
    rw [this]
    exact ⟨he ▸ hl q hq, by simpa using hf⟩
theorem takes_same {s : Sc} {p : Pa} (hp : PfOk s p) {l : List Kp} (hl : EvsOk s l) {b : List Bd} (hb : Bound0 s p l b) {k : Nat} (hk : k < p.els.length) (hle : ∀ y ∈ b, y.elem ≤ k) {e : Ev} (he : EvOk s e) :
    takesR s p l b k e = (takesE s p l b k e && (decide (b = []) || alikeE s p (firstEv l b) e)) := by
  unfold takesR takesE
  rw [holdsE_congr (binds_same hp hb hk hle e)]
  cases hc : (elAt p k).ty.contains e.ty with
  | false => rfl
  | true =>
    rw [Bool.true_and, Bool.true_and]
    by_cases h0 : b = []
    · rw [if_neg (fun h => h.1 h0), decide_eq_true h0]; simp
    · rw [decide_eq_false h0, Bool.false_or]
      unfold alikeE
      by_cases h1 : p.by_ = []
      · rw [if_neg (fun h => h.2.1 h1), decide_eq_true h1]; simp
      · rw [decide_eq_false h1, Bool.false_or]
        obtain ⟨v, hv⟩ := getV_by hp h1 hp.pos (first_ok hl h0 hb).1 (hb.ty h0)
        obtain ⟨u, hu⟩ := getV_by hp h1 hk he hc
        rw [hv, hu]
        have e1 : byR s p (firstEv l b) = v := by rw [byR, hv]; rfl
        have e2 : byR s p e = u := by rw [byR, hu]; rfl
        rw [e1, e2]
        by_cases h : v = u <;> simp [h, h0, h1]
theorem betw_ok {s : Sc} {l : List Kp} (hl : EvsOk s l) {i j : Int} {y : Kp} (h : y ∈ betw l i j) : EvOk s y.e := hl y (List.mem_filter.1 h).1
theorem guard_same {s : Sc} {p : Pa} (hp : PfOk s p) {l : List Kp} (hl : EvsOk s l) {b : List Bd} (hb : Bound0 s p l b) (h0 : b ≠ []) {x : Bd} (hn : nextE p (lastBd b).elem = some x.elem) :
    guardE s p l b x = freeR s p l b x.elem (lastBd b).at_ x.at_ := by
  obtain ⟨h1, h2, h3, h4⟩ := nextE_some hn
  have hx0 : x.elem ≠ 0 := by omega
  rw [Bool.eq_iff_iff]
  unfold guardE freeR
  rw [List.all_eq_true]
  by_cases hnt : ntAt p.els (x.elem - 1) = false
  · rw [if_pos (.inr hnt)]
    refine ⟨fun _ => rfl, fun _ k hk => ?_⟩
    have hk := List.mem_range.1 hk
    rw [Bool.or_eq_true]
    refine .inl (decide_eq_true ?_)
    refine Classical.byContradiction fun hc => ?_
    have h5 : x.elem - 1 = (lastBd b).elem := by
      refine Classical.byContradiction fun hne => ?_
      have := h4 (x.elem - 1) (by omega) (by omega)
      rw [this] at hnt; cases hnt
    omega
  · have hnt' : ntAt p.els (x.elem - 1) = true := by simpa using hnt
    rw [if_neg (by simp [hx0, hnt']), List.all_eq_true]
    have hlast : (lastBd b).elem + 1 = x.elem - 1 := by
      have h5 := hb.nt h0
      have h6 : x.elem - 1 ≠ (lastBd b).elem := fun e => by rw [e, h5] at hnt'; cases hnt'
      refine Classical.byContradiction fun hne => ?_
      have h7 := h4 (x.elem - 2) (by omega) (by omega)
      have h8 := hp.apart (x.elem - 2) (by rw [show x.elem - 2 + 1 = x.elem - 1 by omega]; exact hnt')
      rw [h7] at h8; cases h8
    have hts : ∀ y ∈ betw l (lastBd b).at_ x.at_, takesR s p l b (x.elem - 1) y.e = (takesE s p l b (x.elem - 1) y.e && alikeE s p (firstEv l b) y.e) := by
      intro y hy
      rw [takes_same hp hl hb (by omega) (fun z hz => by have := (hb.el z hz).1; omega) (betw_ok hl hy), decide_eq_false h0, Bool.false_or]
    constructor
    · intro h y hy
      have := h (x.elem - 1) (List.mem_range.2 (by omega))
      rw [decide_eq_false (by omega), Bool.false_or, List.all_eq_true] at this
      rw [hts y hy]; exact this y hy
    · intro h k hk
      have hk := List.mem_range.1 hk
      by_cases hkl : k ≤ (lastBd b).elem
      · rw [decide_eq_true hkl]; rfl
      · rw [decide_eq_false hkl, Bool.false_or, List.all_eq_true]
        intro y hy
        have : k = x.elem - 1 := by omega
        rw [this, ← hts y hy]; exact h y hy
theorem goes_same {s : Sc} {p : Pa} (hp : PfOk s p) {l : List Kp} (hl : EvsOk s l) {b : List Bd} (h : Pre0 s p l b) {k : Nat} (hk : k < p.els.length) {x : Kp} (hx : x ∈ l) (hx2 : atE l x.at_ = some x.e) :
    goesR s p l b k x = goesE s p l b ⟨k, x.at_⟩ := by
  have hb := bound0 hp b h
  unfold goesR goesE
  rw [hx2]
  simp only
  rw [if_neg (by omega : ¬ p.els.length ≤ k)]
  by_cases h0 : b = []
  · rw [if_pos h0, if_pos h0]
    subst h0
    rw [takes_same hp hl hb hp.pos (fun y hy => by cases hy) (hl x hx)]
    simp
  · rw [if_neg h0, if_neg h0, (first_ok hl h0 hb).2]
    simp only
    by_cases h1 : x.at_ ≤ (lastBd b).at_
    · rw [if_pos h1, if_pos h1]
    · rw [if_neg h1, if_neg h1]
      have hs : sameR p b k = sameE p b ⟨k, x.at_⟩ := by
        unfold sameR sameE
        by_cases e : k = (lastBd b).elem
        · rw [e]
        · simp [e]
      rw [hs]
      by_cases h2 : sameE p b ⟨k, x.at_⟩ = false ∧ nextI p (lastBd b).elem ≠ k
      · rw [if_pos h2, if_pos h2]
      · rw [if_neg h2, if_neg h2]
        by_cases h3 : x.e.ts - (firstEv l b).ts > p.within
        · rw [if_pos h3, if_pos h3]
        · rw [if_neg h3, if_neg h3]
          have h2' : sameE p b ⟨k, x.at_⟩ = true ∨ nextI p (lastBd b).elem = ((⟨k, x.at_⟩ : Bd).elem : Int) := by
            cases hs : sameE p b ⟨k, x.at_⟩ with
            | true => exact .inl rfl
            | false => exact .inr (Classical.byContradiction fun hn => h2 ⟨hs, hn⟩)
          have hle := same_next (s := s) h2'
          rw [takes_same hp hl hb hk (fun y hy => Nat.le_trans (hb.el y hy).1 hle) (hl x hx), decide_eq_false h0, Bool.false_or]
          cases hs : sameE p b ⟨k, x.at_⟩ with
          | true => simp only [Bool.true_or, Bool.and_true]; rw [Bool.and_comm]
          | false =>
            have hn := nextI_nat (h2'.resolve_left (by rw [hs]; decide))
            rw [guard_same hp hl hb h0 hn]
            simp only [Bool.false_or]
            rw [← Bool.and_assoc, Bool.and_comm (takesE s p l b k x.e), Bool.and_assoc]
end Go.Sv
namespace Go.Sv
open Go Go.Proofs
set_option maxRecDepth 100000 in
theorem rat_call (l : List Kp) (t : Int) (hl : l.length < 2 ^ 60) : PCall Tryz.prog 56 [kpsV l, i64V t] (atR (atE l t)) := by
  refine scall_of (live := []) (ords := []) Tryz.func56 rfl (by kernel_rfl) (by kernel_rfl) (Nat.le_of_ble_eq_true rfl) ?_
  (conv=>arg 2;whnf);refine wp_allocE evZ rfl fun c => ?_
  (conv=>arg 2;whnf);refine wp_loop (fun m fr R => ∃ n : Nat, m = l.length - n ∧ n ≤ l.length ∧ R = [.obj c evZ] ∧ (l.take n).any (fun k => decide (k.at_ = t)) = false ∧ fr = frL [(0, kpsV l), (1, i64V t), (4, .loc c 0), (6, i64V n)])
    l.length _ _ (.cons (.refl _) (.cons (.refl _) (.cons (.refl _) (.cons (.refl _) (.nil _))))) (List.Sublist.refl _) ⟨0, rfl, Nat.zero_le _, rfl, rfl, rfl⟩ ?_
  rintro m fr R ⟨n, rfl, hn, rfl, ha, rfl⟩
  (conv=>arg 2;whnf);refine wp_ite (fun h => ?_) (fun h => ?_)
  · have h : n < l.length := by
      have := of_decide_eq_true h
      rw [List.length_map] at this; omega
    obtain ⟨k, hk⟩ : ∃ k, l[n]? = some k := ⟨_, List.getElem?_eq_getElem h⟩
    (conv=>arg 2;whnf);refine wp_elem n (kpV k) rfl (kps_at hk) (Vle.refl _) ?_
    (conv=>arg 2;whnf);refine wp_ite (fun h1 => ?_) (fun h1 => ?_)
    · have h1 : decide (k.at_ = t) = true := decide_eq_true (beq_iff_eq.1 h1)
      have hr : atE l t = some k.e := by rw [atE, find_hit ha hk h1]; rfl
      (conv=>arg 2;whnf);refine wp_elem n (kpV k) rfl (kps_at hk) (Vle.refl _) ?_
      (conv=>arg 2;whnf);refine wp_storeE (cs := evZ) 0 0 (evC k.e) rfl rfl (VleL.refl _) (Nat.le_refl _) rfl (R' := [.obj c (evC k.e)]) rfl ?_
      (conv=>arg 2;whnf)
      refine wp_leaf (loop_ret ?_)
      (conv=>arg 2;whnf);refine w_ret2ck (R' := []) (a := evV k.e) (u := bV true) c 0 0 rfl rfl rfl rfl rfl (Vle.refl _) (Vle.refl _) (List.nil_sublist _) (by rw [hr]; rfl)
    · have h1 : decide (k.at_ = t) = false := decide_eq_false (beq_eq_false_iff_ne.1 h1)
      have hn' := any_next ha hk h1
      (conv=>arg 2;whnf)
      exact wp_leaf (loop_next (l.length - (n + 1)) _ [.obj c evZ] (by omega) (.cons (.refl _) (.cons (.refl _) (.cons (.refl _) (.cons (Vle.inc n rfl (by omega)) (.nil _))))) (List.Sublist.refl _) ⟨n + 1, rfl, h, rfl, hn', rfl⟩)
  · have h : n = l.length := by
      have := of_decide_eq_false h
      rw [List.length_map] at this; omega
    rw [h, List.take_length] at ha
    have hr : atE l t = none := by rw [atE, find_none ha]; rfl
    (conv=>arg 2;whnf)
    refine wp_leaf (loop_exit ?_)
    (conv=>arg 2;whnf);refine wp_storeE (cs := evZ) 0 0 (evC ev0) rfl rfl evZ_vle (Nat.le_refl _) rfl (R' := [.obj c (evC ev0)]) rfl ?_
    (conv=>arg 2;whnf);refine w_ret2ck (R' := []) (a := evV ev0) (u := bV false) c 0 0 rfl rfl rfl rfl rfl (Vle.refl _) (Vle.refl _) (List.nil_sublist _) (by rw [hr]; rfl)
set_option maxRecDepth 100000 in
theorem rnext_call (p : Pa) (k : Nat) (hl : p.els.length < 2 ^ 60) (hk : k < 2 ^ 60) : PCall Tryz.prog 57 [.agg (paC p), i64V k] (i64V (nextI p k)) := by
  refine scall_of (live := []) (ords := []) Tryz.func57 rfl (by kernel_rfl) (by kernel_rfl) (Nat.le_of_ble_eq_true rfl) ?_
  (conv=>arg 2;whnf);refine wp_loop (fun m fr R => ∃ n : Nat, m = p.els.length - n ∧ k < n ∧ n < 2 ^ 61 ∧ (∀ i, k < i → i < n → i < p.els.length → ntAt p.els i = true) ∧ R = [] ∧ fr = frL [(2, .pt (some 4) (.agg (paC p)) 0), (5, i64V n)])
    (p.els.length - (k + 1)) _ _ (.cons (.refl _) (.cons (Vle.inc k rfl (by omega)) (.nil _))) (List.Sublist.refl _) ⟨k + 1, rfl, by omega, by omega, fun i h1 h2 => by omega, rfl, rfl⟩ ?_
  rintro m fr R ⟨n, rfl, hkn, hn61, hall, rfl, rfl⟩
  (conv=>arg 2;whnf);refine wp_ite (fun h => ?_) (fun h => ?_)
  · have h : n < p.els.length := by
      have := of_decide_eq_true h
      rw [List.length_map] at this; omega
    obtain ⟨e, he, hnt, _⟩ := nt_at p h
    (conv=>arg 2;whnf);refine wp_elem n (elV e) rfl (els_at2 he) (Vle.refl _) ?_
    (conv=>arg 2;whnf);refine wp_ite (fun h1 => ?_) (fun h1 => ?_)
    · have h1 : ntAt p.els n = false := by rw [← hnt]; simpa using h1
      have hr : nextI p k = (n : Int) := by rw [nextI, next_hit hkn h (fun i a b => hall i a b (by omega)) h1]
      (conv=>arg 2;whnf)
      refine wp_leaf (loop_ret ?_)
      (conv=>arg 2;whnf);refine w_retp rfl (Vle.eq (cI64 hr.symm))
    · have h1 : ntAt p.els n = true := by rw [← hnt]; simpa using h1
      (conv=>arg 2;whnf)
      refine wp_leaf (loop_next (p.els.length - (n + 1)) _ [] (by omega) (.cons (.refl _) (.cons (Vle.inc n rfl (by omega)) (.nil _))) (List.Sublist.refl _) ⟨n + 1, rfl, by omega, by omega, fun i a b c => ?_, rfl, rfl⟩)
      by_cases hin : i = n
      · rw [hin]; exact h1
      · exact hall i a (by omega) c
  · have h : p.els.length ≤ n := by
      have := of_decide_eq_false h
      rw [List.length_map] at this; omega
    have hr : nextI p k = -1 := by rw [nextI, next_miss fun i a b => hall i a (by omega) b]
    (conv=>arg 2;whnf)
    refine wp_leaf (loop_exit ?_)
    (conv=>arg 2;whnf);refine w_retp rfl (Vle.eq (cI64 hr.symm))
theorem has_next {l : List (List UInt8)} {n : Nat} {y t : List UInt8} (h : (l.take n).contains t = false) (hy : l[n]? = some y) (hq : decide (y = t) = false) : (l.take (n + 1)).contains t = false := by
  have hne : ¬ y = t := of_decide_eq_false hq
  rw [List.take_add_one, hy]
  simp only [Option.toList_some, List.contains_eq_mem, List.mem_append, List.mem_singleton, decide_eq_false_iff_not] at h ⊢
  rintro (h1 | h1)
  · exact h h1
  · exact hne h1.symm
set_option maxRecDepth 100000 in
theorem rhastype_call (x : El) (hx : x.ty.length < 2 ^ 60) (t : List UInt8) : PCall Tryz.prog 97 [.agg (elC x), str t] (bV (x.ty.contains t)) := by
  refine scall_of (live := []) (ords := []) Tryz.func97 rfl (by kernel_rfl) (by kernel_rfl) (Nat.le_of_ble_eq_true rfl) ?_
  (conv=>arg 2;whnf);refine wp_loop (fun m fr R => ∃ n : Nat, m = x.ty.length - n ∧ n ≤ x.ty.length ∧ R = [] ∧ (x.ty.take n).contains t = false ∧ fr = frL [(1, str t), (2, .pt (some 11) (.agg (elC x)) 0), (5, i64V n)])
    x.ty.length _ _ (.cons (.refl _) (.cons (.refl _) (.cons (.refl _) (.nil _)))) (List.Sublist.refl _) ⟨0, rfl, Nat.zero_le _, rfl, rfl, rfl⟩ ?_
  rintro m fr R ⟨n, rfl, hn, rfl, ha, rfl⟩
  (conv=>arg 2;whnf);refine wp_ite (fun h => ?_) (fun h => ?_)
  · have h : n < x.ty.length := by
      have := of_decide_eq_true h
      rw [List.length_map] at this; omega
    obtain ⟨y, hy⟩ : ∃ y, x.ty[n]? = some y := ⟨_, List.getElem?_eq_getElem h⟩
    (conv=>arg 2;whnf);refine wp_elem n (str y) rfl (strs_at hy) (Vle.refl _) ?_
    (conv=>arg 2;whnf);refine wp_ite (fun h1 => ?_) (fun h1 => ?_)
    · rw [strEq] at h1
      have hr : x.ty.contains t = true := by
        have h2 : y = t := of_decide_eq_true h1
        rw [List.contains_eq_mem]
        exact decide_eq_true (h2 ▸ List.mem_of_getElem? hy)
      (conv=>arg 2;whnf)
      refine wp_leaf (loop_ret ?_)
      (conv=>arg 2;whnf);refine w_retp rfl (Vle.eq (cBool hr.symm))
    · rw [strEq] at h1
      have hn' := has_next ha hy h1
      (conv=>arg 2;whnf)
      exact wp_leaf (loop_next (x.ty.length - (n + 1)) _ [] (by omega) (.cons (.refl _) (.cons (.refl _) (.cons (Vle.inc n rfl (by omega)) (.nil _)))) (List.Sublist.refl _) ⟨n + 1, rfl, h, rfl, hn', rfl⟩)
  · have h : n = x.ty.length := by
      have := of_decide_eq_false h
      rw [List.length_map] at this; omega
    rw [h, List.take_length] at ha
    (conv=>arg 2;whnf)
    refine wp_leaf (loop_exit ?_)
    (conv=>arg 2;whnf);refine w_retp rfl (Vle.eq (cBool ha.symm))
set_option maxRecDepth 100000 in
theorem rby_call (s : Sc) (hs : ScOk s) (p : Pa) (e : Ev) : PCall Tryz.prog 98 [scV s, .agg (paC p), evV e] (valV (byR s p e)) := by
  have f1 := rget_call s hs e p.by_
  refine scall_of (live := []) (ords := []) Tryz.func98 rfl (by kernel_rfl) (by kernel_rfl) (Nat.le_of_ble_eq_true rfl) ?_
  cases hg : getV s e p.by_ with
  | none =>
    rw [hg] at f1
    have hr : valV val0 = valV (byR s p e) := by rw [byR, hg]; rfl
    (conv=>arg 2;whnf);refine wp_allocE valZ rfl fun c => ?_
    (conv=>arg 2;whnf);refine wp_pcall f1 ?_
    (conv=>arg 2;whnf);refine wp_allocE valZ rfl fun d => ?_
    (conv=>arg 2;whnf);refine wp_storeE (cs := valZ) 1 0 (valL val0) rfl rfl (VleL.refl _) (Nat.le_refl _) rfl (R' := [.obj c valZ, .obj d (valL val0)]) rfl ?_
    (conv=>arg 2;whnf);refine wp_load (cs := valL val0) 1 rfl rfl ?_
    (conv=>arg 2;whnf);refine wp_storeE (cs := valZ) 0 0 (valL val0) rfl rfl (VleL.refl _) (Nat.le_refl _) rfl (R' := [.obj c (valL val0), .obj d (valL val0)]) rfl ?_
    (conv=>arg 2;whnf);refine w_ret1k (R' := []) c 0 0 rfl rfl rfl rfl rfl (Vle.refl _) (List.nil_sublist _) hr
  | some v =>
    rw [hg] at f1
    have hr : valV v = valV (byR s p e) := by rw [byR, hg]; rfl
    (conv=>arg 2;whnf);refine wp_allocE valZ rfl fun c => ?_
    (conv=>arg 2;whnf);refine wp_pcall f1 ?_
    (conv=>arg 2;whnf);refine wp_allocE valZ rfl fun d => ?_
    (conv=>arg 2;whnf);refine wp_storeE (cs := valZ) 1 0 (valL v) rfl rfl (VleL.refl _) (Nat.le_refl _) rfl (R' := [.obj c valZ, .obj d (valL v)]) rfl ?_
    (conv=>arg 2;whnf);refine wp_load (cs := valL v) 1 rfl rfl ?_
    (conv=>arg 2;whnf);refine wp_storeE (cs := valZ) 0 0 (valL v) rfl rfl (VleL.refl _) (Nat.le_refl _) rfl (R' := [.obj c (valL v), .obj d (valL v)]) rfl ?_
    (conv=>arg 2;whnf);refine w_ret1k (R' := []) c 0 0 rfl rfl rfl rfl rfl (Vle.refl _) (List.nil_sublist _) hr
theorem binds_next {p : Pa} {l : List Kp} {b : List Bd} {n : Nat} {x : Bd} (h : b[n]? = some x) : bindsR p l (b.take (n + 1)) = bindsR p l (b.take n) ++ [⟨(elAt p x.elem).al, (atE l x.at_).getD ev0⟩] := by
  rw [List.take_add_one, h, bindsR, List.map_append]; rfl
set_option maxRecDepth 100000 in
set_option maxHeartbeats 1000000 in
theorem rbinds_call (p : Pa) (l : List Kp) (hl : l.length < 2 ^ 60) (b : List Bd) (hb : b.length < 2 ^ 30) (hk : ∀ y ∈ b, y.elem < p.els.length) :
    SCall Tryz.prog 100 [.agg (paC p), kpsV l, bdsV b] [] fun v R' => ∃ t : Option Nat, (t = none → bindsR p l b = []) ∧ R' = tokR (some 4) t ∧ v = .sl (shOf (some 4) t) ((bindsR p l b).map bnV) (tkOf t) := by
  refine scall_of (live := [38]) (ords := []) Tryz.func100 rfl (by kernel_rfl) (by kernel_rfl) (Nat.le_of_ble_eq_true rfl) ?_
  (conv=>arg 2;whnf);refine wp_loop (fun m fr R => ∃ (n : Nat) (t : Option Nat), m = b.length - n ∧ n ≤ b.length ∧ (t = none → bindsR p l (b.take n) = []) ∧ R = tokR (some 4) t ∧
      fr = frL [(1, kpsV l), (2, bdsV b), (3, .pt (some 4) (.agg (paC p)) 0), (7, .sl (shOf (some 4) t) ((bindsR p l (b.take n)).map bnV) (tkOf t)), (8, i64V n)])
    b.length _ _ (.cons (.refl _) (.cons (.refl _) (.cons (.refl _) (.cons (.refl _) (.cons (.refl _) (.nil _)))))) (List.Sublist.refl _) ⟨0, none, rfl, Nat.zero_le _, fun _ => rfl, rfl, rfl⟩ ?_
  rintro m fr R ⟨n, t, rfl, hn, ht, rfl, rfl⟩
  (conv=>arg 2;whnf);refine wp_ite (fun h => ?_) (fun h => ?_)
  · have h : n < b.length := by
      have := of_decide_eq_true h
      rw [List.length_map] at this; omega
    obtain ⟨x, hx⟩ : ∃ x, b[n]? = some x := ⟨_, List.getElem?_eq_getElem h⟩
    have fa := rat_call l x.at_ hl
    have hnx := binds_next (p := p) (l := l) hx
    obtain ⟨y, hy, _, hey⟩ := nt_at p (n := x.elem) (hk x (List.mem_of_getElem? hx))
    have hbl : (bindsR p l (b.take n)).length ≤ n := by rw [bindsR, List.length_map, List.length_take]; omega
    obtain ⟨e, he⟩ : ∃ e, e = (atE l x.at_).getD ev0 := ⟨_, rfl⟩
    have fa2 : ∃ ok, PCall Tryz.prog 56 [kpsV l, i64V x.at_] (.tup [evV e, bV ok]) := by
      cases ha : atE l x.at_ with
      | none => rw [ha] at fa he; rw [he]; exact ⟨false, fa⟩
      | some e' => rw [ha] at fa he; rw [he]; exact ⟨true, fa⟩
    obtain ⟨ok, fa⟩ := fa2
    rw [← he, hey] at hnx
    (conv=>arg 2;whnf);refine wp_elem n (bdV x) rfl (bds_at hx) (Vle.refl _) ?_
    (conv=>arg 2;whnf);refine wp_pcall fa ?_
    (conv=>arg 2;whnf);refine wp_allocE evZ rfl fun u => ?_
    (conv=>arg 2;whnf);refine wp_storeE (cs := evZ) (tokR (some 4) t).length 0 (evC e) (by simp) rfl (VleL.refl _) (Nat.le_refl _) rfl (R' := [] ++ (tokR (some 4) t ++ [.obj u (evC e)])) (by simp [splice, evZ, evC]) ?_
    (conv=>arg 2;whnf);refine wp_elem n (bdV x) rfl (bds_at hx) (Vle.refl _) ?_
    (conv=>arg 2;whnf);refine wp_elem x.elem (elV y) rfl (els_at2 hy) (Vle.refl _) ?_
    (conv=>arg 2;whnf);refine wp_load (cs := evC e) (tokR (some 4) t).length (by simp) rfl ?_
    (conv=>arg 2;whnf);refine wp_append_x (A := []) (B := [.obj u (evC e)]) (sh := some 4) (t := t) (xs := (bindsR p l (b.take n)).map bnV) (ys := [bnV ⟨y.al, e⟩]) (fun h => by rw [ht h]; rfl) (okE_bn [⟨y.al, e⟩]) (show (_ + 1) * 64 ≤ _ by rw [List.length_map]; omega) (fun t' S' hS => ?_)
    (conv=>arg 2;whnf)
    refine wp_leaf (loop_next (b.length - (n + 1)) _ [.tok t' (some 4)] (by omega) (.cons (.refl _) (.cons (.refl _) (.cons (.refl _) (.cons (Vle.of (.sl (some 4) ((bindsR p l (b.take n)).map bnV ++ [bnV ⟨y.al, e⟩]) (.t t')) rfl ?_) (.cons (Vle.inc n rfl (by omega)) (.nil _)))))) hS ⟨n + 1, some t', rfl, h, (fun e => by cases e), rfl, rfl⟩)
    rw [hnx, List.map_append]; rfl
  · have h : n = b.length := by
      have := of_decide_eq_false h
      rw [List.length_map] at this; omega
    rw [h, List.take_length] at ht ⊢
    (conv=>arg 2;whnf)
    refine wp_leaf (loop_exit ?_)
    (conv=>arg 2;whnf);refine w_ret1 rfl (Vle.refl _) (List.Sublist.refl _) ⟨t, ht, rfl, rfl⟩
end Go.Sv
