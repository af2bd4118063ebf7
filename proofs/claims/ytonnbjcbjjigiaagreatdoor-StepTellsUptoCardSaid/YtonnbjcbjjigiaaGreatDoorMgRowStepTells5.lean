/- Parts of the proof, one behind the other. -/
import Derived.Test.YtonnbjcbjjigiaaGreatDoorMgRowStepTells4
import Derived.Lib.Join
import Derived.Test.YtonnbjcbjjigiaaGreatDoorProg
import Derived.ProofKit
import Derived.Deep.Grids
import Derived.Test.YtonnbjcbjjigiaaGreatDoorRows
import Derived.ChangeArms
import Derived.Test.YtonnbjcbjjigiaaGreatDoorChecked
namespace Go.Sv
open Go Go.Proofs
def ltS (x y : List UInt8) : Bool := Op.bytesLess (S x).toList (S y).toList
def riseB (l : List (List UInt8)) : Bool := (List.range (l.length - 1)).all fun i => ltS (l.getD i []) (l.getD (i + 1) [])
theorem getD_of {l : List (List UInt8)} {i : Nat} {x : List UInt8} (h : l[i]? = some x) : l.getD i [] = x := by rw [List.getD_eq_getElem?_getD, h]; rfl
set_option maxRecDepth 100000 in
theorem refrise_call (l : List (List UInt8)) (hl : l.length < 2 ^ 60) : PCall Tryz.prog 42 [.sl none (l.map str) .no] (bV (riseB l)) := by
  refine scall_of (live := []) (ords := []) Tryz.func42 rfl (by kernel_rfl) (by kernel_rfl) (Nat.le_of_ble_eq_true rfl) ?_
  (conv=>arg 2;whnf);refine wp_loop (fun m fr R => ∃ n : Nat, m = l.length - n ∧ n ≤ l.length - 1 ∧ R = [] ∧ ((List.range n).all fun i => ltS (l.getD i []) (l.getD (i + 1) [])) = true ∧ fr = frL [(0, .sl none (l.map str) .no), (3, i64V (n + 1 : Nat))])
    l.length _ _ (.cons (.refl _) (.cons (.refl _) (.nil _))) (List.Sublist.refl _) ⟨0, rfl, Nat.zero_le _, rfl, rfl, rfl⟩ ?_
  rintro m fr R ⟨n, rfl, hn, rfl, hall, rfl⟩
  (conv=>arg 2;whnf);refine wp_ite (fun h => ?_) (fun h => ?_)
  · have h : n + 1 < l.length := by
      have := of_decide_eq_true h
      rw [List.length_map] at this; omega
    obtain ⟨y, hy⟩ : ∃ y, l[n + 1]? = some y := ⟨_, List.getElem?_eq_getElem h⟩
    obtain ⟨x, hx⟩ : ∃ x, l[n]? = some x := ⟨_, List.getElem?_eq_getElem (by omega)⟩
    (conv=>arg 2;whnf);refine wp_elem n (str x) (wsub (by omega : ((n + 1 : Nat) : Int) - 1 = (n : Int)) (by omega) (by omega)) (by rw [List.getElem?_map, hx]; rfl) (Vle.refl _) ?_
    (conv=>arg 2;whnf);refine wp_elem (n + 1) (str y) rfl (by rw [List.getElem?_map, hy]; rfl) (Vle.refl _) ?_
    (conv=>arg 2;whnf);refine wp_ite (fun h1 => ?_) (fun h1 => ?_)
    · have h1 : ltS x y = false := by simpa [ltS] using h1
      (conv=>arg 2;whnf)
      refine wp_leaf (loop_ret ?_)
      (conv=>arg 2;whnf);refine w_retp rfl (Vle.eq (cBool ?_))
      symm
      rw [riseB, List.all_eq_false]
      exact ⟨n, List.mem_range.2 (by omega), by rw [getD_of hx, getD_of hy, h1]; simp⟩
    · have h1 : ltS x y = true := by simpa [ltS] using h1
      (conv=>arg 2;whnf)
      refine wp_leaf (loop_next (l.length - (n + 1)) _ _ (by omega) (.cons (.refl _) (.cons (Vle.inc (n + 1) rfl (by omega)) (.nil _))) (List.Sublist.refl _) ⟨n + 1, rfl, by omega, rfl, ?_, rfl⟩)
      rw [List.range_succ, List.all_append, hall]
      simp only [List.all_cons, List.all_nil]
      rw [getD_of hx, getD_of hy, h1]; rfl
  · have h : n = l.length - 1 := by
      have := of_decide_eq_false h
      rw [List.length_map] at this; omega
    subst h
    (conv=>arg 2;whnf)
    refine wp_leaf (loop_exit ?_)
    (conv=>arg 2;whnf);refine w_retp rfl (Vle.eq (cBool hall.symm))
end Go.Sv
namespace Go.Sv
open Go
structure El where
  al : List UInt8
  ty : List (List UInt8)
  plus : Bool
  nt : Bool
  cond : Ex
structure Pa where
  els : List El
  within : Int
  by_ : List UInt8
  any : Bool
def el0 : El := ⟨[], [], false, false, ex0⟩
def elC (e : El) : List V := str e.al :: .sl none (e.ty.map str) .no :: bV e.plus :: bV e.nt :: exC e.cond
def elV (e : El) : V := .agg (elC e)
def elsV (l : List El) : V := .sl (some 11) (l.map elV) .no
def paC (p : Pa) : List V := [elsV p.els, i64V p.within, str p.by_, bV p.any]
def zeroB (x : Ex) : Bool := headB x ex0
theorem zeroB_iff {x : Ex} : zeroB x = true ↔ x = ex0 := by
  obtain ⟨o, v, a, f, l⟩ := x
  constructor
  · intro h
    simp only [zeroB, headB, Bool.and_eq_true] at h
    obtain ⟨h1, h2, h3, h4, h5⟩ := h
    have e1 : o = 0 := of_decide_eq_true h1
    have e2 : v = val0 := of_decide_eq_true h2
    have e3 : a = [] := of_decide_eq_true h3
    have e4 : f = [] := of_decide_eq_true h4
    have h6 : l.length = 0 := of_decide_eq_true h5
    have e5 : l = [] := List.length_eq_zero_iff.1 h6
    rw [e1, e2, e3, e4, e5]; rfl
  · intro h; rw [h]; rfl
def isElB (e : El) : Bool := isNm e.al && (decide (1 ≤ e.ty.length) && (decide (e.ty.length ≤ 3) && (riseB e.ty && (!(e.plus && e.nt) && (e.ty.all isNm && (zeroB e.cond || isExB e.cond))))))
def twiceB (l : List El) (i : Nat) (a : List UInt8) : Bool := (l.take i).any fun x => decide (x.al = a)
def ntAt (l : List El) (i : Nat) : Bool := (l.map (·.nt)).getD i false
def okAtB (l : List El) (i : Nat) (e : El) : Bool := isElB e && (!twiceB l i e.al && !(e.nt && (decide (0 < i) && ntAt l (i - 1))))
def isPaB (p : Pa) : Bool :=
  decide (1 ≤ p.els.length) && (decide (p.els.length ≤ 5) && (!ntAt p.els 0 && (!ntAt p.els (p.els.length - 1) && (decide (0 ≤ p.within) && (decide (p.within ≤ 1000) && ((decide (p.by_ = []) || isNm p.by_) &&
    (List.range p.els.length).all fun i => okAtB p.els i (p.els.getD i el0)))))))
end Go.Sv
namespace Go.Sv
open Go Go.Proofs
theorem getDx {α : Type} {l : List α} {i : Nat} {a d : α} (h : l[i]? = some a) : l.getD i d = a := by rw [List.getD_eq_getElem?_getD, h]; rfl
theorem headB_len {x y : Ex} (h : headB x y = true) : x.kids.length = y.kids.length := by
  simp only [headB, Bool.and_eq_true] at h
  exact of_decide_eq_true h.2.2.2.2
theorem head_ite {x y : Ex} {a b : Bool} (h : headB x y = true → a = b) : (headB x y && a) = (headB x y && b) := by
  cases hh : headB x y with
  | false => rfl
  | true => rw [h hh]
theorem refsame0_call (x : Ex) (hl : x.kids.length < 2 ^ 60) : PCall Tryz.prog 43 [.agg (exC x), .agg (exC ex0)] (bV (zeroB x)) := by
  have := refsame_step x ex0 (fun _ => false) hl (fun n a b ha hb => by simp [ex0, Ex.kids] at hb)
  rw [head_ite (b := true) (fun h => by rw [headB_len h]; rfl), Bool.and_true] at this
  exact this
theorem same0_call (x : Ex) (hl : x.kids.length < 2 ^ 60) : PCall Tryz.prog 126 [.agg (exC x), .agg (exC ex0)] (bV (zeroB x)) := by
  have := same_step x ex0 (fun _ => false) hl (fun n a b ha hb => by simp [ex0, Ex.kids] at hb)
  rw [head_ite (b := true) (fun h => by rw [headB_len h]; rfl), Bool.and_true] at this
  exact this
end Go.Sv
namespace Go.Sv
open Go Go.Proofs
def ExBd (x : Ex) : Prop := ExOk 20 x ∧ ExOk 6 x ∧ ExSm 5 x ∧ (nodesN 20 x).length ≤ 2 ^ 40
def ElBd (e : El) : Prop := e.al.length < 2 ^ 40 ∧ e.ty.length < 2 ^ 40 ∧ (∀ t ∈ e.ty, t.length < 2 ^ 40) ∧ ExBd e.cond
def PaBd (p : Pa) : Prop := p.els.length < 2 ^ 40 ∧ (∀ e ∈ p.els, ElBd e) ∧ p.by_.length < 2 ^ 40 ∧ (-9223372036854775808 ≤ p.within ∧ p.within < 9223372036854775808)
theorem ExBd.kids {x : Ex} (h : ExBd x) : x.kids.length < 2 ^ 60 := h.1.2.2.2.1
theorem zero_vle : Vle (.agg [i64V 0, i64V 0, i64V 0, str [], str [], str [], .sl none [] .zero]) (.agg (exC ex0)) :=
  Vle.agg (.cons (.refl _) (.cons (.refl _) (.cons (.refl _) (.cons (.refl _) (.cons (.refl _) (.cons (.refl _) (.cons (Vle.nil _ _ _) .nil)))))))
theorem isEl_name {e : El} (h : isNm e.al = false) : isElB e = false := by rw [isElB, h]; rfl
theorem isEl_few {e : El} (h : e.ty.length < 1) : isElB e = false := by rw [isElB, decide_eq_false (by omega : ¬ 1 ≤ e.ty.length)]; simp
theorem isEl_many {e : El} (h : 3 < e.ty.length) : isElB e = false := by rw [isElB, decide_eq_false (by omega : ¬ e.ty.length ≤ 3)]; simp
theorem isEl_rise {e : El} (h : riseB e.ty = false) : isElB e = false := by rw [isElB, h]; simp
theorem isEl_both {e : El} (h : e.plus = true) (h' : e.nt = true) : isElB e = false := by rw [isElB, h, h']; simp
theorem isEl_ty {e : El} {t : List UInt8} (h : t ∈ e.ty) (h' : isNm t = false) : isElB e = false := by
  have : e.ty.all isNm = false := List.all_eq_false.2 ⟨t, h, by simp [h']⟩
  rw [isElB, this]; simp
theorem isEl_end {e : El} (h1 : isNm e.al = true) (h2 : 1 ≤ e.ty.length) (h3 : e.ty.length ≤ 3) (h4 : riseB e.ty = true) (h5 : (e.plus && e.nt) = false) (h6 : e.ty.all isNm = true) : isElB e = (zeroB e.cond || isExB e.cond) := by
  rw [isElB, h1, decide_eq_true h2, decide_eq_true h3, h4, h5, h6]; rfl
end Go.Sv
namespace Go.Sv
open Go Go.Proofs
def I64 (n : Int) : Prop := -9223372036854775808 ≤ n ∧ n < 9223372036854775808
mutual
def exSize : Ex → Nat
  | .mk _ v a f l => 1 + v.s.length + a.length + f.length + exsSize l
def exsSize : List Ex → Nat
  | [] => 0
  | x :: l => exSize x + exsSize l
end
mutual
def exRg : Ex → Prop
  | .mk _ v _ _ l => I64 v.n ∧ exsRg l
def exsRg : List Ex → Prop
  | [] => True
  | x :: l => exRg x ∧ exsRg l
end
theorem exsSize_sum (l : List Ex) : exsSize l = (l.map exSize).sum := by
  induction l with
  | nil => rw [exsSize]; rfl
  | cons x l ih => rw [exsSize, ih]; simp
theorem exsRg_iff (l : List Ex) : exsRg l ↔ ∀ y ∈ l, exRg y := by
  induction l with
  | nil => rw [exsRg]; simp
  | cons x l ih => rw [exsRg, ih]; simp
theorem exSize_eq (x : Ex) : exSize x = 1 + x.val.s.length + x.al.length + x.fd.length + exsSize x.kids := by
  cases x; rw [exSize]; rfl
theorem exRg_eq (x : Ex) : exRg x ↔ I64 x.val.n ∧ ∀ y ∈ x.kids, exRg y := by
  cases x; rw [exRg, exsRg_iff]; rfl
theorem exSize_pos (x : Ex) : 1 ≤ exSize x := by rw [exSize_eq]; omega
theorem exsSize_mem : ∀ {l : List Ex} {y : Ex}, y ∈ l → exSize y ≤ exsSize l
  | x :: l, y, h => by
    rw [exsSize]
    rcases List.mem_cons.1 h with rfl | h
    · omega
    · have := exsSize_mem h; omega
theorem exsSize_len : ∀ l : List Ex, l.length ≤ exsSize l
  | [] => by simp
  | x :: l => by
    rw [exsSize, List.length_cons]
    have := exsSize_len l
    have := exSize_pos x
    omega
theorem exOk_of {B : Nat} (hB : B < 2 ^ 60) : ∀ (k : Nat) (x : Ex), exSize x ≤ B → ExOk k x
  | 0, _, _ => trivial
  | k + 1, x, h => by
    rw [exSize_eq] at h
    have := exsSize_len x.kids
    exact ⟨by omega, by omega, by omega, by omega, fun y hy => exOk_of hB k y (by have := exsSize_mem hy; omega)⟩
theorem exSm_of {B : Nat} (hB : B < 2 ^ 40) : ∀ (k : Nat) (x : Ex), exSize x ≤ B → exRg x → ExSm k x
  | 0, _, _, _ => trivial
  | k + 1, x, h, hr => by
    rw [exSize_eq] at h
    rw [exRg_eq] at hr
    exact ⟨⟨by omega, hr.1.1, hr.1.2⟩, by omega, by omega, fun y hy => exSm_of hB k y (by have := exsSize_mem hy; omega) (hr.2 y hy)⟩
theorem nodes_size : ∀ (k : Nat) (x : Ex), (nodesN k x).length ≤ exSize x
  | 0, _ => by simp [nodesN]
  | k + 1, x => by
    have key : ∀ l : List Ex, (l.flatMap (nodesN k)).length ≤ exsSize l := by
      intro l
      induction l with
      | nil => simp
      | cons y l ih =>
        rw [List.flatMap_cons, List.length_append, exsSize]
        have := nodes_size k y
        omega
    have := key x.kids
    rw [nodesN, exSize_eq]
    split
    · simp
    · rw [List.length_cons]; omega
theorem exBd_of {x : Ex} (h : exSize x ≤ 2 ^ 39) (hr : exRg x) : ExBd x :=
  ⟨exOk_of (by omega) 20 x h, exOk_of (by omega) 6 x h, exSm_of (by omega) 5 x h hr, by have := nodes_size 20 x; omega⟩
def elSize (e : El) : Nat := e.al.length + (e.ty.map fun s => s.length + 1).sum + exSize e.cond
def paSize (p : Pa) : Nat := p.by_.length + (p.els.map elSize).sum
theorem sum_mem {α : Type} {f : α → Nat} : ∀ {l : List α} {y : α}, y ∈ l → f y ≤ (l.map f).sum
  | x :: l, y, h => by
    rw [List.map_cons, List.sum_cons]
    rcases List.mem_cons.1 h with rfl | h
    · omega
    · have := sum_mem (f := f) h; omega
theorem sum_len {α : Type} {f : α → Nat} (hf : ∀ a, 1 ≤ f a) : ∀ l : List α, l.length ≤ (l.map f).sum
  | [] => by simp
  | x :: l => by
    rw [List.map_cons, List.sum_cons, List.length_cons]
    have := sum_len hf l
    have := hf x
    omega
theorem elBd_of {e : El} (h : elSize e ≤ 2 ^ 39) (hr : exRg e.cond) : ElBd e := by
  unfold elSize at h
  have h1 := sum_len (f := fun s : List UInt8 => s.length + 1) (fun a => by omega) e.ty
  refine ⟨by omega, by omega, fun t ht => ?_, exBd_of (by omega) hr⟩
  have := sum_mem (f := fun s : List UInt8 => s.length + 1) ht
  omega
theorem paBd_of {p : Pa} (h : paSize p ≤ 2 ^ 39) (hr : ∀ e ∈ p.els, exRg e.cond) (hw : I64 p.within) : PaBd p := by
  unfold paSize at h
  have h1 := sum_len (f := elSize) (fun e => by have := exSize_pos e.cond; unfold elSize; omega) p.els
  refine ⟨by omega, fun e he => elBd_of ?_ (hr e he), by omega, hw⟩
  have := sum_mem (f := elSize) he
  omega
end Go.Sv
namespace Go.Sv
open Go Go.RowKit Go.ChangeShapes Go.WideShapes
def Gh.start (W : World) : Gh := { cm := fun b => match W.heap[b]? with | some (.cells vals _ _) => vals.size | _ => 0, nt := 0, th := fun _ => undef }
def statOk (W : World) : Prop := (∀ p ∈ statics, ∃ v, cell W p.1 p.2.1 = some v ∧ p.2.2 v) ∧ ∀ p ∈ sized, (cell W p.1 0).isSome ∧ cell W p.1 p.2 = none
theorem wf_start (W : World) (hst : statOk W) : Wf (Gh.start W) W := by
  have hcm : ∀ b o v, cell W b o = some v → o < (Gh.start W).cm b := fun b o v h1 => by
    unfold cell World.cell? at h1
    simp only [Gh.start]
    cases hh : W.heap[b]? with
    | none => simp [hh] at h1
    | some ob =>
      cases ob <;> simp [hh] at h1
      rename_i vals e f
      simp only
      exact (Array.getElem?_eq_some_iff.1 h1).1
  refine ⟨fun b hb => ?_, fun b o ho => ?_, fun p hp => ?_, fun p hp => ?_⟩
  · simp only [Gh.start]; rw [Array.getElem?_eq_none hb]
  · simp only [Gh.start] at ho
    unfold cell World.cell?
    split at ho
    · rename_i vals e f h
      simp only [h]
      simp [ho]
    · omega
  · obtain ⟨v, h1, h2⟩ := hst.1 p hp
    exact ⟨v, h1, h2, hcm _ _ _ h1⟩
  · obtain ⟨h1, h2⟩ := hst.2 p hp
    obtain ⟨v, h1⟩ := Option.isSome_iff_exists.1 h1
    exact ⟨hcm _ _ _ h1, h2⟩
variable {P : Program}
theorem calls_of_pcall {f : FuncId} {args : List V} {v : V} {W : World} {xs : List Value} (hst : statOk W) (hf : isFn P f) (h : PCall P f args v) (hx : RelL (Gh.start W) W args xs) :
    Calls P f xs.toArray W fun e W' => ∃ x, e = .returned x ∧ Below W.heap.size W W' ∧ ∃ g', RelV g' W' v x := by
  obtain ⟨fn, c, h1, h2, h3⟩ := hf
  have hrun : (callFunc f xs.toArray).run P W = .ok (.enter f xs.toArray) W := by
    have hn' : ¬ fn.name = "runtime.NumGoroutine" := by simpa using h3
    simp [callFunc, h1, h2, hn']
  rcases h (Gh.start W) W xs (wf_start W hst) hx ⟨by simp, by simp [blocks]⟩ with ⟨y, w', e1, _⟩ | ⟨f', args', w', e1, hc⟩ | ⟨row, args', w', e1, _⟩
  · rw [hrun] at e1; cases e1
  · rw [hrun] at e1; cases e1
    refine (callsIn_wide.1 hc).mono ?_
    rintro e W' ⟨x, rfl, u, g', R', hu, hA, hv⟩
    subst hu
    refine ⟨x, rfl, ⟨hA.ext.os, hA.ext.tape, hA.ext.output, hA.ext.size, fun k hk => hA.ext.frame k hk (by simp [blocks])⟩, g', hv⟩
  · rw [hrun] at e1; cases e1
theorem trodAll_below {H : Type} {enc : TypeId × Value → H} {W W' : World} (hl : laidOutB P = true) (hb : Below W.heap.size W W') : ∀ (ts : List TypeId) (vs : List Value) (ds : List (DataW H)) (ps : List MemPlace), (∀ t ∈ ts, P.readableRec t = true ∧ t < P.types.size) →
    (∀ x ∈ ps, x.block < W.heap.size) → DataW.TrodAll enc P W 0 (fun _ => true) true ts vs ds ps → DataW.TrodAll enc P W' 0 (fun b => decide (b < W.heap.size)) true ts vs ds ps
  | [], vs, ds, ps, _, _, h => by
    cases vs with
    | nil => cases ds with
      | nil => exact h
      | cons => exact h.elim
    | cons => cases ds <;> exact h.elim
  | t :: ts, vs, ds, ps, hr, hlt, h => by
    cases vs with
    | nil => cases ds <;> exact h.elim
    | cons v vs => cases ds with
      | nil => exact h.elim
      | cons d ds =>
        obtain ⟨p, q, h1, h2, rfl⟩ := h
        exact ⟨p, q, Below.trod hl (hr t (by simp)).1 (hr t (by simp)).2 h1 hb (fun x hx => hlt x (by simp [hx])), trodAll_below hl hb ts vs ds q (fun t ht => hr t (by simp [ht])) (fun x hx => hlt x (by simp [hx])) h2, rfl⟩
theorem post_true {H : Type} {enc : TypeId × Value → H} {f : Func} {s : ChangeSpec} {W W' : World} {args : Array Value} {ds gs : List (DataW H)} {before : List MemPlace} (hl : laidOutB P = true) (hW : DataW.Whole enc P f.params.toList s.vars false W args.toList ds gs before) (hb : Below W.heap.size W W') {tb : TypeId}
    (hr : f.params.toList.all (fun t => P.readableRec t && decide (t < P.types.size)) = true) (hres : f.resultTypes = #[tb]) (htb : P.underlying tb = some .bool) (hvars : s.vars = []) (hfn : s.fn H (ds ++ gs) = { results := [.lit (.bool true)], args := ds }) :
    s.post enc P f false true false false W args (.bool true) W' := by
  have hlt : ∀ x ∈ before, x.block < W.heap.size := fun x hx => by simpa using hW.lt x hx
  have hW' := hW
  obtain ⟨p, q, hA, hV, rfl, hfz, hnd⟩ := hW
  rw [hvars] at hV
  refine ⟨ds, gs, p ++ q, [], p, q, hW', ?_, ?_, ?_, hb.frame _, by simp⟩
  · rw [hfn, hres]
    exact trodAll_mk1 (shut_bool htb true)
  · rw [hfn]
    refine trodAll_below hl hb _ _ _ _ (fun t ht => ?_) (fun x hx => hlt x (by simp [hx])) hA
    have := List.all_eq_true.1 hr t ht
    simpa using this
  · rw [hfn, hvars]
    obtain ⟨rfl, rfl⟩ := trodVars_none hV
    exact hV
end Go.Sv
namespace Go.Sv
open Go Go.RowKit Go.ChangeShapes Go.WideShapes
theorem cell_spot {W : World} {a : Addr} {y : Value} (h : W.cell? a = some y) : a = ⟨a.block, a.off, none⟩ := by
  obtain ⟨b, o, s⟩ := a
  cases s with
  | none => rfl
  | some k =>
    exfalso
    unfold World.cell? at h
    cases hh : W.heap[b]? with
    | none => simp [hh] at h
    | some ob => cases ob <;> simp [hh] at h
theorem start_lt {W : World} {b o : Nat} {y : Value} (h : cell W b o = some y) : o < (Gh.start W).cm b := by
  unfold cell World.cell? at h
  simp only [Gh.start]
  cases hh : W.heap[b]? with
  | none => simp [hh] at h
  | some ob =>
    cases ob <;> simp [hh] at h
    rename_i vals e f
    simp only
    exact (Array.getElem?_eq_some_iff.1 h).1
section
variable {H : Type} {enc : TypeId × Value → H} {P : Program} {W : World} {base b0 : Nat} {spare : Nat → Bool} {held : Bool} {r : Reach}
end
end Go.Sv
namespace Go.Sv
open Go Go.RowKit Go.ChangeShapes Go.WideShapes Go.Proofs.YtonnbjcbjjigiaaGreatDoor
theorem choose_row {α : Type} {Q : Nat → α → Prop} : ∀ n : Nat, (∀ i, i < n → ∃ a, Q i a) → ∃ l : List α, l.length = n ∧ ∀ i a, l[i]? = some a → Q i a
  | 0, _ => ⟨[], rfl, by simp⟩
  | n + 1, h => by
    obtain ⟨l, hl, hq⟩ := choose_row n fun i hi => h i (by omega)
    obtain ⟨a, ha⟩ := h n (by omega)
    refine ⟨l ++ [a], by simp [hl], fun i b hb => ?_⟩
    rw [List.getElem?_append] at hb
    split at hb
    · exact hq i b hb
    · rename_i hi
      have hi' : i = n := by
        have := (List.getElem?_eq_some_iff.1 hb).1
        simp at this; omega
      subst hi'
      rw [hl] at hb
      simp at hb; subst hb; exact ha
theorem addr_add2 (a : Addr) (i j : Nat) : (a.add i).add j = a.add (i + j) := by
  unfold Addr.add
  by_cases hi : i = 0
  · subst hi; simp
  · by_cases hj : j = 0
    · subst hj; simp
    · rw [if_neg hi, if_neg hj, if_neg (by omega)]
      simp only [Addr.mk.injEq, true_and, and_true]
      omega
section
variable {H : Type} {enc : TypeId × Value → H} {P : Program} {W : World} {base : Nat} {held : Bool} {fuel : Nat} {t : TypeId} {cs : List Value} {x : DataW H × List MemPlace}
theorem bulk_sum {α : Type} {sz : α → Nat} : ∀ (l : List α) (m : List (DataW H × List MemPlace)), l.length = m.length → (∀ (i : Nat) a y, l[i]? = some a → m[i]? = some y → sz a ≤ Rows.uptoBulk y.1) → (l.map sz).sum ≤ Rows.uptoBulkAll (m.map (·.1))
  | [], [], _, _ => by simp [Rows.uptoBulkAll]
  | [], _ :: _, h, _ => by simp at h
  | _ :: _, [], h, _ => by simp at h
  | a :: l, y :: m, h, hq => by
    have h1 := hq 0 a y rfl rfl
    have h2 := bulk_sum l m (by simpa using h) fun i b z hb hz => hq (i + 1) b z hb hz
    simp only [List.map_cons, List.sum_cons, Rows.uptoBulkAll]
    omega
theorem opens_str (ht : P.underlying t = some .string) (h : DataW.trod enc P W base (fun _ => true) held fuel t cs = some x) : ∃ s : List UInt8, RelL (Gh.start W) W [str s] cs ∧ s.length + 1 ≤ Rows.uptoBulk x.1 := by
  obtain ⟨s, rfl, rfl, _⟩ := DataW.trod_string ht h
  refine ⟨s.data.toList, ?_, by simp [Rows.uptoBulk]⟩
  simp only [RelL, RelV, str]
  exact ⟨_, _, rfl, by rw [← S_of], rfl⟩
theorem opens_i64 (ht : P.underlying t = some (.int .i64)) (h : DataW.trod enc P W base (fun _ => true) held fuel t cs = some x) : ∃ n : Int, RelL (Gh.start W) W [i64V n] cs ∧ (-9223372036854775808 ≤ n ∧ n < 9223372036854775808) ∧ 1 ≤ Rows.uptoBulk x.1 := by
  obtain ⟨n, rfl, rfl, hw⟩ := DataW.trod_int ht h
  refine ⟨n, ?_, ?_, by simp [Rows.uptoBulk]⟩
  · simp only [RelL, RelV, i64V]; exact ⟨_, _, rfl, rfl, rfl⟩
  · have : -9223372036854775808 ≤ n ∧ n ≤ 9223372036854775807 := by simpa [Lit.wf, IntKind.min, IntKind.max, IntKind.signed, IntKind.bits] using hw
    omega
theorem opens_bool (ht : P.underlying t = some .bool) (h : DataW.trod enc P W base (fun _ => true) held fuel t cs = some x) : ∃ b : Bool, RelL (Gh.start W) W [bV b] cs ∧ 1 ≤ Rows.uptoBulk x.1 := by
  obtain ⟨b, rfl, rfl⟩ := DataW.trod_bool ht h
  refine ⟨b, ?_, by simp [Rows.uptoBulk]⟩
  simp only [RelL, RelV, bV]; exact ⟨_, _, rfl, rfl, rfl⟩
theorem opens_row {α : Type} {e : TypeId} {sh : Option Nat} {toV : α → V} {Pr : α → Prop} {sz : α → Nat} (ht : P.underlying t = some (.slice e)) (hw : P.cellsOf e = width sh) (hpos : 0 < width sh)
    (he : ∀ n cs x, n < fuel → DataW.trod enc P W base (fun _ => true) held n e cs = some x → ∃ a, RelE (Gh.start W) W sh (toV a) (fun i => cs[i]?) ∧ Pr a ∧ sz a ≤ Rows.uptoBulk x.1)
    (h : DataW.trod enc P W base (fun _ => true) held fuel t cs = some x) : ∃ l : List α, RelL (Gh.start W) W [.sl sh (l.map toV) .no] cs ∧ (∀ a ∈ l, Pr a) ∧ (l.map sz).sum + 1 ≤ Rows.uptoBulk x.1 := by
  rcases DataW.trod_slice ht h with ⟨rfl, rfl⟩ | ⟨a, len, cap, elems, rest, n, rfl, rfl, rfl, _, hl, _, hel, hget, _, _⟩
  · refine ⟨[], ?_, by simp, by simp [Rows.uptoBulk]⟩
    simp only [RelL, RelV]
    exact ⟨_, _, rfl, ⟨none, 0, 0, rfl, rfl, Nat.le_refl _, trivial, .inl (by trivial)⟩, rfl⟩
  · rw [hw] at hget
    have hex : ∀ i, i < len → ∃ b : α, (∃ y, elems[i]? = some y ∧ sz b ≤ Rows.uptoBulk y.1) ∧ Pr b ∧ ∃ ds : List Value, ds.length = width sh ∧ (∀ j, j < width sh → W.cell? (a.add (i * width sh + j)) = ds[j]?) ∧ RelE (Gh.start W) W sh (toV b) (fun j => ds[j]?) := fun i hi => by
      have hg := hget i hi
      obtain ⟨y, hy⟩ : ∃ y, elems[i]? = some y := ⟨_, List.getElem?_eq_getElem (by omega)⟩
      rw [hy, Option.bind_eq_some_iff] at hg
      obtain ⟨ds, hc, htr⟩ := hg
      obtain ⟨_, hlen, hcell⟩ := World.cells?_some hc
      obtain ⟨b, h1, h2, h3⟩ := he n ds y (by omega) htr
      refine ⟨b, ⟨y, hy, h3⟩, h2, ds, hlen, fun j hj => ?_, h1⟩
      rw [← hcell j hj, show (a.add (i * width sh)).add j = a.add (i * width sh + j) from addr_add2 a _ _]
    obtain ⟨l, hll, hq⟩ := choose_row len hex
    refine ⟨l, ?_, fun b hb => ?_, ?_⟩
    · simp only [RelL, RelV]
      refine ⟨_, _, rfl, ⟨some a, len, cap, rfl, by simp [hll], hl, trivial, ?_⟩, rfl⟩
      cases len with
      | zero => exact .inl (by rw [List.length_eq_zero_iff.1 hll]; rfl)
      | succ m =>
        right
        obtain ⟨b0, hb0⟩ : ∃ b, l[0]? = some b := ⟨_, List.getElem?_eq_getElem (by omega)⟩
        obtain ⟨_, _, ds0, hl0, hc0, _⟩ := hq 0 b0 hb0
        have hy0 : W.cell? (a.add (0 * width sh + 0)) = ds0[0]? := hc0 0 hpos
        obtain ⟨y0, hy0'⟩ : ∃ y, ds0[0]? = some y := ⟨_, List.getElem?_eq_getElem (by omega)⟩
        rw [hy0'] at hy0
        have ha : a = ⟨a.block, a.off, none⟩ := by
          have := cell_spot hy0
          obtain ⟨b, o, s⟩ := a
          simp [Addr.add] at this ⊢
          exact this
        have hadd : ∀ i, a.add i = ⟨a.block, a.off + i, none⟩ := fun i => by rw [ha]; simp [Addr.add]
        refine ⟨a.block, a.off, by rw [← ha], ?_, relXs_of_get fun i u hu => ?_⟩
        · obtain ⟨b, hb⟩ : ∃ b, l[m]? = some b := ⟨_, List.getElem?_eq_getElem (by omega)⟩
          obtain ⟨_, _, ds, hld, hcd, _⟩ := hq m b hb
          obtain ⟨y, hy⟩ : ∃ y, ds[width sh - 1]? = some y := ⟨_, List.getElem?_eq_getElem (by omega)⟩
          have h1 := hcd (width sh - 1) (by omega)
          rw [hy, hadd] at h1
          have := start_lt (W := W) h1
          rw [Nat.add_mul]; omega
        · rw [List.getElem?_map, Option.map_eq_some_iff] at hu
          obtain ⟨b, hb, rfl⟩ := hu
          obtain ⟨_, _, ds, hld, hcd, hr⟩ := hq i b hb
          refine relE_congr hr fun j hj => ?_
          have h1 := hcd j hj
          rw [hadd] at h1
          rw [← h1]
          show cell W a.block (a.off + (i * width sh + j)) = _
          rfl
    · obtain ⟨i, hi⟩ := List.mem_iff_getElem?.1 hb
      exact (hq i b hi).2.1
    · have := bulk_sum (sz := sz) l elems (by omega) fun i b y hb hy => by
        obtain ⟨⟨y', hy', hs⟩, _⟩ := hq i b hb
        rw [hy] at hy'; rw [Option.some.inj hy']; exact hs
      simp only [Rows.uptoBulk]
      omega
theorem opens_strs {e : TypeId} (ht : P.underlying t = some (.slice e)) (he : P.underlying e = some .string) (hw : P.cellsOf e = 1)
    (h : DataW.trod enc P W base (fun _ => true) held fuel t cs = some x) : ∃ l : List (List UInt8), RelL (Gh.start W) W [.sl none (l.map str) .no] cs ∧ (l.map fun s => s.length + 1).sum + 1 ≤ Rows.uptoBulk x.1 := by
  obtain ⟨l, h1, _, h2⟩ := opens_row (sh := none) (toV := str) (Pr := fun _ => True) (sz := fun s : List UInt8 => s.length + 1) ht hw (by decide) (fun n cs x _ hx => by
    obtain ⟨s, hs, hb⟩ := opens_str he hx
    refine ⟨s, ?_, trivial, hb⟩
    simp only [RelL] at hs
    obtain ⟨y, _, rfl, hv, rfl⟩ := hs
    exact ⟨y, rfl, hv⟩) h
  exact ⟨l, h1, h2⟩
theorem relE_cells {n : Nat} {vs : List V} {cs : List Value} (hl : cs.length = n) (h : RelL (Gh.start W) W vs cs) : RelE (Gh.start W) W (some n) (.agg vs) (fun i => cs[i]?) := by
  refine ⟨cs.toArray, by simp [hl], fun i _ => by simp, ?_⟩
  simp only [RelV]
  exact ⟨_, rfl, by simpa using h⟩
end
end Go.Sv
namespace Go.Sv
open Go Go.Proofs Go.RowKit Go.ChangeShapes Go.WideShapes Go.Proofs.YtonnbjcbjjigiaaGreatDoor
section
variable {H : Type} {enc : TypeId × Value → H} {W : World} {base : Nat} {held : Bool} {fuel : Nat} {cs : List Value} {x : DataW H × List MemPlace}
theorem cI : Tryz.prog.cellsOf 3 = 1 := by kernel_rfl
theorem cL64 : Tryz.prog.cellsOf 2 = 1 := by kernel_rfl
theorem cB : Tryz.prog.cellsOf 4 = 1 := by kernel_rfl
theorem cS : Tryz.prog.cellsOf 9 = 1 := by kernel_rfl
theorem cVal : Tryz.prog.cellsOf 58 = 3 := by kernel_rfl
theorem cEx : Tryz.prog.cellsOf 61 = 7 := by kernel_rfl
theorem cExs : Tryz.prog.cellsOf 59 = 1 := by kernel_rfl
theorem cEl : Tryz.prog.cellsOf 63 = 11 := by kernel_rfl
theorem cEls : Tryz.prog.cellsOf 22 = 1 := by kernel_rfl
theorem cStrs : Tryz.prog.cellsOf 56 = 1 := by kernel_rfl
theorem cPa : Tryz.prog.cellsOf 24 = 4 := by kernel_rfl
theorem rel1 {g : Gh} {v : V} {c : Value} (h : RelL g W [v] [c]) : RelV g W v c := by
  simp only [RelL] at h
  obtain ⟨_, _, e, hv, e'⟩ := h
  obtain ⟨rfl, rfl⟩ := List.cons.inj e
  exact hv
theorem relCons {g : Gh} {v : V} {c : Value} {vs : List V} {cs : List Value} (h : RelV g W v c) (hs : RelL g W vs cs) : RelL g W (v :: vs) (c :: cs) := by
  simp only [RelL]; exact ⟨_, _, rfl, h, hs⟩
set_option maxRecDepth 100000 in
theorem opens_val (h : DataW.trod enc Tryz.prog W base (fun _ => true) held fuel 58 cs = some x) : ∃ v : Val, RelL (Gh.start W) W (valL v) cs ∧ I64 v.n ∧ v.s.length + 1 ≤ Rows.uptoBulk x.1 := by
  obtain ⟨xs, n, rfl, rfl, hl, hlen, hf⟩ := DataW.trod_struct Tryz.underlying58 h
  rw [cVal] at hl
  match cs, hl with
  | [c0, c1, c2], _ =>
    match xs, hlen with
    | [y0, y1, y2], _ =>
      have h0 : DataW.trod enc Tryz.prog W base (fun _ => true) held n 3 (List.take (Tryz.prog.cellsOf 3) (List.drop 0 [c0, c1, c2])) = some y0 := hf 0 _ rfl
      have h1 : DataW.trod enc Tryz.prog W base (fun _ => true) held n 2 (List.take (Tryz.prog.cellsOf 2) (List.drop 1 [c0, c1, c2])) = some y1 := hf 1 _ rfl
      have h2 : DataW.trod enc Tryz.prog W base (fun _ => true) held n 9 (List.take (Tryz.prog.cellsOf 9) (List.drop 2 [c0, c1, c2])) = some y2 := hf 2 _ rfl
      rw [cI] at h0
      rw [cL64] at h1
      rw [cS] at h2
      obtain ⟨k, r0, _, _⟩ := opens_i64 (cs := [c0]) Tryz.underlying3 h0
      obtain ⟨m, r1, b1, _⟩ := opens_i64 (cs := [c1]) Tryz.underlying2 h1
      obtain ⟨s, r2, b2⟩ := opens_str (cs := [c2]) Tryz.underlying9 h2
      refine ⟨⟨k, m, s⟩, relCons (rel1 r0) (relCons (rel1 r1) (relCons (rel1 r2) (by simp [RelL]))), b1, ?_⟩
      simp only [List.map_cons, List.map_nil, Rows.uptoBulk, Rows.uptoBulkAll]
      omega
set_option maxRecDepth 100000 in
theorem opens_ex : ∀ (fuel : Nat) (cs : List Value) (x : DataW H × List MemPlace), DataW.trod enc Tryz.prog W base (fun _ => true) held fuel 61 cs = some x →
    ∃ e : Ex, cs.length = 7 ∧ RelL (Gh.start W) W (exC e) cs ∧ exRg e ∧ exSize e ≤ Rows.uptoBulk x.1 := by
  intro fuel
  induction fuel using Nat.strongRecOn with
  | _ fuel ih =>
  intro cs x h
  obtain ⟨xs, n, rfl, rfl, hl, hlen, hf⟩ := DataW.trod_struct Tryz.underlying61 h
  rw [cEx] at hl
  match cs, hl with
  | [c0, c1, c2, c3, c4, c5, c6], _ =>
    match xs, hlen with
    | [y0, y1, y2, y3, y4], _ =>
      have h0 : DataW.trod enc Tryz.prog W base (fun _ => true) held n 3 (List.take (Tryz.prog.cellsOf 3) (List.drop 0 [c0, c1, c2, c3, c4, c5, c6])) = some y0 := hf 0 _ rfl
      have h1 : DataW.trod enc Tryz.prog W base (fun _ => true) held n 58 (List.take (Tryz.prog.cellsOf 58) (List.drop 1 [c0, c1, c2, c3, c4, c5, c6])) = some y1 := hf 1 _ rfl
      have h2 : DataW.trod enc Tryz.prog W base (fun _ => true) held n 9 (List.take (Tryz.prog.cellsOf 9) (List.drop 4 [c0, c1, c2, c3, c4, c5, c6])) = some y2 := hf 2 _ rfl
      have h3 : DataW.trod enc Tryz.prog W base (fun _ => true) held n 9 (List.take (Tryz.prog.cellsOf 9) (List.drop 5 [c0, c1, c2, c3, c4, c5, c6])) = some y3 := hf 3 _ rfl
      have h4 : DataW.trod enc Tryz.prog W base (fun _ => true) held n 59 (List.take (Tryz.prog.cellsOf 59) (List.drop 6 [c0, c1, c2, c3, c4, c5, c6])) = some y4 := hf 4 _ rfl
      rw [cI] at h0
      rw [cVal] at h1
      rw [cS] at h2
      rw [cS] at h3
      rw [cExs] at h4
      obtain ⟨o, r0, _, _⟩ := opens_i64 (cs := [c0]) Tryz.underlying3 h0
      obtain ⟨v, r1, b1, s1⟩ := opens_val (cs := [c1, c2, c3]) h1
      obtain ⟨a, r2, s2⟩ := opens_str (cs := [c4]) Tryz.underlying9 h2
      obtain ⟨f, r3, s3⟩ := opens_str (cs := [c5]) Tryz.underlying9 h3
      obtain ⟨l, r4, b4, s4⟩ := opens_row (cs := [c6]) (sh := some 7) (toV := exV) (Pr := exRg) (sz := exSize) Tryz.underlying59 cEx (by decide) (fun m ds y hm hy => by
        obtain ⟨e, q1, q2, q3, q4⟩ := ih m (by omega) ds y hy
        exact ⟨e, by rw [exV_eq]; exact relE_cells q1 q2, q3, q4⟩) h4
      refine ⟨.mk o v a f l, rfl, ?_, ?_, ?_⟩
      · have := relL_append r1 (relCons (rel1 r2) (relCons (rel1 r3) (relCons (rel1 r4) (by simp [RelL] : RelL (Gh.start W) W [] []))))
        exact relCons (rel1 r0) this
      · rw [exRg_eq]; exact ⟨b1, b4⟩
      · rw [exSize_eq]
        have e1 : exsSize l = (l.map exSize).sum := exsSize_sum l
        simp only [List.map_cons, List.map_nil, Rows.uptoBulk, Rows.uptoBulkAll, Ex.val, Ex.al, Ex.fd, Ex.kids]
        omega
set_option maxRecDepth 100000 in
theorem opens_el {fuel : Nat} {cs : List Value} {x : DataW H × List MemPlace} (h : DataW.trod enc Tryz.prog W base (fun _ => true) held fuel 63 cs = some x) :
    ∃ e : El, cs.length = 11 ∧ RelL (Gh.start W) W (elC e) cs ∧ exRg e.cond ∧ elSize e ≤ Rows.uptoBulk x.1 := by
  obtain ⟨xs, n, rfl, rfl, hl, hlen, hf⟩ := DataW.trod_struct Tryz.underlying63 h
  rw [cEl] at hl
  match cs, hl with
  | [c0, c1, c2, c3, c4, c5, c6, c7, c8, c9, c10], _ =>
    match xs, hlen with
    | [y0, y1, y2, y3, y4], _ =>
      have h0 : DataW.trod enc Tryz.prog W base (fun _ => true) held n 9 (List.take (Tryz.prog.cellsOf 9) (List.drop 0 [c0, c1, c2, c3, c4, c5, c6, c7, c8, c9, c10])) = some y0 := hf 0 _ rfl
      have h1 : DataW.trod enc Tryz.prog W base (fun _ => true) held n 56 (List.take (Tryz.prog.cellsOf 56) (List.drop 1 [c0, c1, c2, c3, c4, c5, c6, c7, c8, c9, c10])) = some y1 := hf 1 _ rfl
      have h2 : DataW.trod enc Tryz.prog W base (fun _ => true) held n 4 (List.take (Tryz.prog.cellsOf 4) (List.drop 2 [c0, c1, c2, c3, c4, c5, c6, c7, c8, c9, c10])) = some y2 := hf 2 _ rfl
      have h3 : DataW.trod enc Tryz.prog W base (fun _ => true) held n 4 (List.take (Tryz.prog.cellsOf 4) (List.drop 3 [c0, c1, c2, c3, c4, c5, c6, c7, c8, c9, c10])) = some y3 := hf 3 _ rfl
      have h4 : DataW.trod enc Tryz.prog W base (fun _ => true) held n 61 (List.take (Tryz.prog.cellsOf 61) (List.drop 4 [c0, c1, c2, c3, c4, c5, c6, c7, c8, c9, c10])) = some y4 := hf 4 _ rfl
      rw [cS] at h0
      rw [cStrs] at h1
      rw [cB] at h2
      rw [cB] at h3
      rw [cEx] at h4
      obtain ⟨a, r0, s0⟩ := opens_str (cs := [c0]) Tryz.underlying9 h0
      obtain ⟨l, r1, s1⟩ := opens_strs (cs := [c1]) Tryz.underlying56 Tryz.underlying9 cS h1
      obtain ⟨p, r2, _⟩ := opens_bool (cs := [c2]) Tryz.underlying4 h2
      obtain ⟨q, r3, _⟩ := opens_bool (cs := [c3]) Tryz.underlying4 h3
      obtain ⟨z, _, r4, b4, s4⟩ := opens_ex n [c4, c5, c6, c7, c8, c9, c10] _ h4
      refine ⟨⟨a, l, p, q, z⟩, rfl, relCons (rel1 r0) (relCons (rel1 r1) (relCons (rel1 r2) (relCons (rel1 r3) r4))), b4, ?_⟩
      simp only [elSize, List.map_cons, List.map_nil, Rows.uptoBulk, Rows.uptoBulkAll]
      omega
set_option maxRecDepth 100000 in
theorem opens_pa {fuel : Nat} {cs : List Value} {x : DataW H × List MemPlace} (h : DataW.trod enc Tryz.prog W base (fun _ => true) held fuel 24 cs = some x) :
    ∃ p : Pa, cs.length = 4 ∧ RelL (Gh.start W) W (paC p) cs ∧ (∀ e ∈ p.els, exRg e.cond) ∧ I64 p.within ∧ paSize p ≤ Rows.uptoBulk x.1 := by
  obtain ⟨xs, n, rfl, rfl, hl, hlen, hf⟩ := DataW.trod_struct Tryz.underlying24 h
  rw [cPa] at hl
  match cs, hl with
  | [c0, c1, c2, c3], _ =>
    match xs, hlen with
    | [y0, y1, y2, y3], _ =>
      have h0 : DataW.trod enc Tryz.prog W base (fun _ => true) held n 22 (List.take (Tryz.prog.cellsOf 22) (List.drop 0 [c0, c1, c2, c3])) = some y0 := hf 0 _ rfl
      have h1 : DataW.trod enc Tryz.prog W base (fun _ => true) held n 3 (List.take (Tryz.prog.cellsOf 3) (List.drop 1 [c0, c1, c2, c3])) = some y1 := hf 1 _ rfl
      have h2 : DataW.trod enc Tryz.prog W base (fun _ => true) held n 9 (List.take (Tryz.prog.cellsOf 9) (List.drop 2 [c0, c1, c2, c3])) = some y2 := hf 2 _ rfl
      have h3 : DataW.trod enc Tryz.prog W base (fun _ => true) held n 4 (List.take (Tryz.prog.cellsOf 4) (List.drop 3 [c0, c1, c2, c3])) = some y3 := hf 3 _ rfl
      rw [cEls] at h0
      rw [cI] at h1
      rw [cS] at h2
      rw [cB] at h3
      obtain ⟨l, r0, b0, s0⟩ := opens_row (cs := [c0]) (sh := some 11) (toV := elV) (Pr := fun e => exRg e.cond) (sz := elSize) Tryz.underlying22 cEl (by decide) (fun m ds y hm hy => by
        obtain ⟨e, q1, q2, q3, q4⟩ := opens_el hy
        exact ⟨e, relE_cells q1 q2, q3, q4⟩) h0
      obtain ⟨w, r1, b1, _⟩ := opens_i64 (cs := [c1]) Tryz.underlying3 h1
      obtain ⟨s, r2, s2⟩ := opens_str (cs := [c2]) Tryz.underlying9 h2
      obtain ⟨q, r3, _⟩ := opens_bool (cs := [c3]) Tryz.underlying4 h3
      refine ⟨⟨l, w, s, q⟩, rfl, relCons (rel1 r0) (relCons (rel1 r1) (relCons (rel1 r2) (relCons (rel1 r3) (by simp [RelL])))), b0, b1, ?_⟩
      simp only [paSize, List.map_cons, List.map_nil, Rows.uptoBulk, Rows.uptoBulkAll]
      omega
end
end Go.Sv
namespace Go.Sv
open Go
structure Fd where
  name : List UInt8
  kind : Int
structure Ty where
  name : List UInt8
  flds : List Fd
structure Ev where
  ty : List UInt8
  ts : Int
  vals : List Val
abbrev Sc := List Ty
def ty0 : Ty := ⟨[], []⟩
def ev0 : Ev := ⟨[], 0, []⟩
def fdC (f : Fd) : List V := [str f.name, i64V f.kind]
def fdV (f : Fd) : V := .agg (fdC f)
def fdsV (l : List Fd) : V := .sl (some 2) (l.map fdV) .no
def tyC (t : Ty) : List V := [str t.name, fdsV t.flds]
def tyV (t : Ty) : V := .agg (tyC t)
def tysV (s : Sc) : V := .sl (some 2) (s.map tyV) .no
def scC (s : Sc) : List V := [tysV s]
def scV (s : Sc) : V := .agg (scC s)
def valsV (l : List Val) : V := .sl (some 3) (l.map valV) .no
def evC (e : Ev) : List V := [str e.ty, i64V e.ts, valsV e.vals]
def evV (e : Ev) : V := .agg (evC e)
structure Kp where
  at_ : Int
  e : Ev
structure Bd where
  elem : Nat
  at_ : Int
  deriving DecidableEq
structure Bn where
  al : List UInt8
  e : Ev
def kpC (k : Kp) : List V := i64V k.at_ :: evC k.e
def kpV (k : Kp) : V := .agg (kpC k)
def kpsV (l : List Kp) : V := .sl (some 4) (l.map kpV) .no
def bdC (b : Bd) : List V := [i64V b.elem, i64V b.at_]
def bdV (b : Bd) : V := .agg (bdC b)
def bdsV (l : List Bd) : V := .sl (some 2) (l.map bdV) .no
def bnC (b : Bn) : List V := str b.al :: evC b.e
def bnV (b : Bn) : V := .agg (bnC b)
def bnsV (l : List Bn) : V := .sl (some 4) (l.map bnV) .no
def idxI {α : Type} (q : α → Bool) (l : List α) : Int := if l.any q then (l.findIdx q : Nat) else -1
def findT (s : Sc) (n : List UInt8) : Option Ty := s.find? fun t => decide (t.name = n)
def fieldI (t : Ty) (f : List UInt8) : Int := idxI (fun x => decide (x.name = f)) t.flds
def getV (s : Sc) (e : Ev) (f : List UInt8) : Option Val :=
  match findT s e.ty with
  | none => none
  | some t => if fieldI t f < 0 then none else e.vals[(fieldI t f).toNat]?
def findR : Option Ty → V
  | some t => .tup [tyV t, bV true]
  | none => .tup [tyV ty0, bV false]
def getR : Option Val → V
  | some v => .tup [valV v, bV true]
  | none => .tup [valV val0, bV false]
def boolV (b : Bool) : Val := ⟨3, if b then 1 else 0, []⟩
def inI (n : Int) : Bool := decide (-9223372036854775808 ≤ n) && decide (n < 9223372036854775808)
def opI (op x y : Int) : Int := if op = 3 then x + y else if op = 4 then x - y else x * y
def arithE (op x y : Int) : Except Nat Val := if inI (opI op x y) then .ok ⟨1, opI op x y, []⟩ else .error 16
def lessV (a b : Val) : Bool := if a.kind = 1 then decide (a.n < b.n) else ltS a.s b.s
def pairE (op : Int) (a b : Val) : Except Nat Val :=
  if a.kind = b.kind then
    if op ≤ 5 ∧ a.kind = 1 then arithE op a.n b.n
    else if op = 6 then .ok (boolV (decide (a = b)))
    else if op = 7 then .ok (boolV (!decide (a = b)))
    else if op = 8 ∧ a.kind ≠ 3 then .ok (boolV (lessV a b))
    else if op = 9 ∧ a.kind ≠ 3 then .ok (boolV (!lessV b a))
    else .error 14
  else .error 14
def lastB (al : List UInt8) (l : List Bn) : Option Bn := l.reverse.find? fun b => decide (b.al = al)
def fieldE (s : Sc) (l : List Bn) (al f : List UInt8) : Except Nat Val :=
  match lastB al l with
  | none => .error 13
  | some b => match getV s b.e f with
    | none => .error 13
    | some v => .ok v
def evE (s : Sc) (l : List Bn) : Nat → Ex → Except Nat Val
  | 0, _ => .error 0
  | k + 1, x =>
    if x.op = 1 then .ok x.val
    else if x.op = 2 then fieldE s l x.al x.fd
    else if x.op = 10 ∨ x.op = 11 then match x.kids with
      | [a, b] => match evE s l k a with
        | .error e => .error e
        | .ok v => if v.kind ≠ 3 then .error 14 else if decide (v.n = 1) = decide (x.op = 11) then .ok v else match evE s l k b with
          | .error e => .error e
          | .ok u => if u.kind ≠ 3 then .error 14 else .ok u
      | _ => .error 0
    else if x.op = 12 then match x.kids with
      | [a] => match evE s l k a with
        | .error e => .error e
        | .ok v => if v.kind ≠ 3 then .error 14 else .ok (boolV (decide (v.n = 0)))
      | _ => .error 0
    else match x.kids with
      | [a, b] => match evE s l k a with
        | .error e => .error e
        | .ok v => match evE s l k b with
          | .error e => .error e
          | .ok u => pairE x.op v u
      | _ => .error 0
def holdsE (s : Sc) (x : Ex) (l : List Bn) : Bool :=
  zeroB x || (isExB x && match evE s l 5 x with
    | .ok v => decide (v = boolV true)
    | .error _ => false)
end Go.Sv
namespace Go.Sv
open Go Go.Proofs
theorem idx_hit {α : Type} {q : α → Bool} {l : List α} {n : Nat} {y : α} (h : (l.take n).any q = false) (hy : l[n]? = some y) (hq : q y = true) : idxI q l = n := by
  have hs : l = l.take n ++ y :: l.drop (n + 1) := by rw [← drop_at hy, List.take_append_drop]
  have hn := (List.getElem?_eq_some_iff.1 hy).1
  have ha : l.any q = true := by rw [hs]; simp [hq]
  have hf : l.findIdx q = n := by
    rw [hs, List.findIdx_append]
    have h1 : List.findIdx q (l.take n) = (l.take n).length := List.findIdx_eq_length.2 fun x hx => by
      have := List.any_eq_false.1 h x hx
      simpa using this
    rw [h1, List.length_take, Nat.min_eq_left (Nat.le_of_lt hn), if_neg (by omega), List.findIdx_cons, hq]
    simp
  rw [idxI, if_pos ha, hf]
theorem idx_none {α : Type} {q : α → Bool} {l : List α} (h : l.any q = false) : idxI q l = -1 := by rw [idxI, h]; rfl
theorem any_next {α : Type} {q : α → Bool} {l : List α} {n : Nat} {y : α} (h : (l.take n).any q = false) (hy : l[n]? = some y) (hq : q y = false) : (l.take (n + 1)).any q = false := by
  rw [List.take_add_one, hy, List.any_append, h]
  simp [hq]
theorem find_idx {α : Type} {q : α → Bool} : ∀ {l : List α}, l.any q = true → l.find? q = l[l.findIdx q]?
  | [], h => by cases h
  | x :: l, h => by
    cases hq : q x with
    | true => simp [hq, List.findIdx_cons]
    | false =>
      have := find_idx (l := l) (by simpa [hq] using h)
      simp [hq, List.findIdx_cons, this]
theorem idx_get {α : Type} {q : α → Bool} {l : List α} (h : l.any q = true) : ∃ y, l[l.findIdx q]? = some y ∧ l.find? q = some y ∧ l.findIdx q < l.length := by
  have hlt : l.findIdx q < l.length := List.findIdx_lt_length.2 (by obtain ⟨x, hx, hq⟩ := List.any_eq_true.1 h; exact ⟨x, hx, hq⟩)
  exact ⟨l[l.findIdx q], List.getElem?_eq_getElem hlt, by rw [find_idx h, List.getElem?_eq_getElem hlt], hlt⟩
theorem find_none {α : Type} {q : α → Bool} {l : List α} (h : l.any q = false) : l.find? q = none := by
  rw [List.find?_eq_none]
  exact fun x hx => List.any_eq_false.1 h x hx
set_option maxRecDepth 100000 in
theorem indexty_call (g : FuncId) (caps : List V) (q : Ty → Bool) (l : List Ty) (hl : l.length < 2 ^ 60) (hq : ∀ x ∈ l, PCall Tryz.prog g (tyV x :: caps) (bV (q x))) : PCall Tryz.prog 135 [tysV l, .fn (.func g) [] caps] (i64V (idxI q l)) := by
  refine scall_of (live := []) (ords := []) Tryz.func135 rfl (by kernel_rfl) (by kernel_rfl) (Nat.le_of_ble_eq_true rfl) ?_
  (conv=>arg 2;whnf);refine wp_loop (fun m fr R => ∃ n : Nat, m = l.length - n ∧ n ≤ l.length ∧ R = [] ∧ (l.take n).any q = false ∧ fr = frL [(0, tysV l), (1, .fn (.func g) [] caps), (7, i64V l.length), (8, i64V n)])
    l.length _ _ (.cons (.refl _) (.cons (.refl _) (.cons (Vle.eq ?_) (.cons (.refl _) (.nil _))))) (List.Sublist.refl _) ⟨0, rfl, Nat.zero_le _, rfl, rfl, rfl⟩ ?_
  · show V.c (.int .i64 (l.map tyV).length) = _
    rw [List.length_map]; rfl
  rintro m fr R ⟨n, rfl, hn, rfl, ha, rfl⟩
  (conv=>arg 2;whnf);refine wp_ite (fun h => ?_) (fun h => ?_)
  · have h : n < l.length := by have := of_decide_eq_true h; omega
    obtain ⟨y, hy⟩ : ∃ y, l[n]? = some y := ⟨_, List.getElem?_eq_getElem h⟩
    have hc := hq y (List.mem_of_getElem? hy)
    (conv=>arg 2;whnf);refine wp_elem n (tyV y) rfl (by rw [List.getElem?_map, hy]; rfl) (Vle.refl _) ?_
    (conv=>arg 2;whnf);refine wp_pcall hc ?_
    (conv=>arg 2;whnf);refine wp_ite (fun h1 => ?_) (fun h1 => ?_)
    · (conv=>arg 2;whnf)
      refine wp_leaf (loop_ret ?_)
      (conv=>arg 2;whnf);refine w_retp rfl (Vle.eq (cI64 (idx_hit ha hy h1).symm))
    · (conv=>arg 2;whnf)
      refine wp_leaf (loop_next (l.length - (n + 1)) _ _ (by omega) (.cons (.refl _) (.cons (.refl _) (.cons (.refl _) (.cons (Vle.inc n rfl (by omega)) (.nil _))))) (List.Sublist.refl _) ⟨n + 1, rfl, h, rfl, any_next ha hy h1, rfl⟩)
  · have h : n = l.length := by have := of_decide_eq_false h; omega
    subst h
    rw [List.take_length] at ha
    (conv=>arg 2;whnf)
    refine wp_leaf (loop_exit ?_)
    (conv=>arg 2;whnf);refine w_retp rfl (Vle.eq (cI64 (idx_none ha).symm))
set_option maxRecDepth 100000 in
theorem indexfd_call (g : FuncId) (caps : List V) (q : Fd → Bool) (l : List Fd) (hl : l.length < 2 ^ 60) (hq : ∀ x ∈ l, PCall Tryz.prog g (fdV x :: caps) (bV (q x))) : PCall Tryz.prog 137 [fdsV l, .fn (.func g) [] caps] (i64V (idxI q l)) := by
  refine scall_of (live := []) (ords := []) Tryz.func137 rfl (by kernel_rfl) (by kernel_rfl) (Nat.le_of_ble_eq_true rfl) ?_
  (conv=>arg 2;whnf);refine wp_loop (fun m fr R => ∃ n : Nat, m = l.length - n ∧ n ≤ l.length ∧ R = [] ∧ (l.take n).any q = false ∧ fr = frL [(0, fdsV l), (1, .fn (.func g) [] caps), (7, i64V l.length), (8, i64V n)])
    l.length _ _ (.cons (.refl _) (.cons (.refl _) (.cons (Vle.eq ?_) (.cons (.refl _) (.nil _))))) (List.Sublist.refl _) ⟨0, rfl, Nat.zero_le _, rfl, rfl, rfl⟩ ?_
  · show V.c (.int .i64 (l.map fdV).length) = _
    rw [List.length_map]; rfl
  rintro m fr R ⟨n, rfl, hn, rfl, ha, rfl⟩
  (conv=>arg 2;whnf);refine wp_ite (fun h => ?_) (fun h => ?_)
  · have h : n < l.length := by have := of_decide_eq_true h; omega
    obtain ⟨y, hy⟩ : ∃ y, l[n]? = some y := ⟨_, List.getElem?_eq_getElem h⟩
    have hc := hq y (List.mem_of_getElem? hy)
    (conv=>arg 2;whnf);refine wp_elem n (fdV y) rfl (by rw [List.getElem?_map, hy]; rfl) (Vle.refl _) ?_
    (conv=>arg 2;whnf);refine wp_pcall hc ?_
    (conv=>arg 2;whnf);refine wp_ite (fun h1 => ?_) (fun h1 => ?_)
    · (conv=>arg 2;whnf)
      refine wp_leaf (loop_ret ?_)
      (conv=>arg 2;whnf);refine w_retp rfl (Vle.eq (cI64 (idx_hit ha hy h1).symm))
    · (conv=>arg 2;whnf)
      refine wp_leaf (loop_next (l.length - (n + 1)) _ _ (by omega) (.cons (.refl _) (.cons (.refl _) (.cons (.refl _) (.cons (Vle.inc n rfl (by omega)) (.nil _))))) (List.Sublist.refl _) ⟨n + 1, rfl, h, rfl, any_next ha hy h1, rfl⟩)
  · have h : n = l.length := by have := of_decide_eq_false h; omega
    subst h
    rw [List.take_length] at ha
    (conv=>arg 2;whnf)
    refine wp_leaf (loop_exit ?_)
    (conv=>arg 2;whnf);refine w_retp rfl (Vle.eq (cI64 (idx_none ha).symm))
set_option maxRecDepth 100000 in
theorem find1_call (t : Ty) (n : List UInt8) : PCall Tryz.prog 136 [tyV t, .pt none (str n) 0] (bV (decide (t.name = n))) := by
  refine scall_of (live := []) (ords := []) Tryz.func136 rfl (by kernel_rfl) (by kernel_rfl) (Nat.le_of_ble_eq_true rfl) ?_
  (conv=>arg 2;whnf);refine w_retp rfl (Vle.eq (cBool (strEq _ _)))
set_option maxRecDepth 100000 in
theorem field1_call (t : Fd) (n : List UInt8) : PCall Tryz.prog 138 [fdV t, .pt none (str n) 0] (bV (decide (t.name = n))) := by
  refine scall_of (live := []) (ords := []) Tryz.func138 rfl (by kernel_rfl) (by kernel_rfl) (Nat.le_of_ble_eq_true rfl) ?_
  (conv=>arg 2;whnf);refine w_retp rfl (Vle.eq (cBool (strEq _ _)))
def tyZ : List V := [str [], .sl none [] .zero]
theorem tyZ_vle : VleL tyZ (tyC ty0) := .cons (.refl _) (.cons (Vle.nil _ _ _) .nil)
theorem tys_at {s : Sc} {n : Nat} {t : Ty} (h : s[n]? = some t) : (s.map tyV)[n]? = some (.agg (tyC t)) := by rw [List.getElem?_map, h]; rfl
set_option maxRecDepth 100000 in
theorem findT_call (s : Sc) (hs : s.length < 2 ^ 60) (n : List UInt8) : PCall Tryz.prog 129 [scV s, str n] (findR (findT s n)) := by
  have f1 := indexty_call 136 [.pt none (str n) 0] (fun t => decide (t.name = n)) s hs fun x _ => find1_call x n
  refine scall_of (live := []) (ords := []) Tryz.func129 rfl (by kernel_rfl) (by kernel_rfl) (Nat.le_of_ble_eq_true rfl) ?_
  cases ha : s.any (fun t => decide (t.name = n)) with
  | false =>
    rw [idx_none ha] at f1
    have hr : findT s n = none := find_none ha
    (conv=>arg 2;whnf);refine wp_allocE tyZ rfl fun c => ?_
    (conv=>arg 2;whnf);refine wp_pcall f1 ?_
    (repeat ((conv=>arg 2;whnf);first|refine wp_it rfl ?_|refine wp_if rfl ?_))
    (conv=>arg 2;whnf);refine wp_storeE (cs := tyZ) 0 0 (tyC ty0) rfl rfl tyZ_vle (Nat.le_refl _) rfl (R' := [.obj c (tyC ty0)]) rfl ?_
    (conv=>arg 2;whnf);refine w_ret2ck (R' := []) (a := tyV ty0) (u := bV false) c 0 0 rfl rfl rfl rfl rfl (Vle.refl _) (Vle.refl _) (List.nil_sublist _) (by rw [hr]; rfl)
  | true =>
    obtain ⟨t, h1, h2, h3⟩ := idx_get ha
    rw [idxI, if_pos ha] at f1
    obtain ⟨i, hi⟩ : ∃ i, i = s.findIdx fun t => decide (t.name = n) := ⟨_, rfl⟩
    rw [← hi] at f1 h1
    have hr : findT s n = some t := h2
    have h0 : decide ((i : Int) < 0) = false := decide_eq_false (by omega)
    (conv=>arg 2;whnf);refine wp_allocE tyZ rfl fun c => ?_
    (conv=>arg 2;whnf);refine wp_pcall f1 ?_
    (conv=>arg 2;whnf);refine wp_if h0 ?_
    (conv=>arg 2;whnf);refine wp_elem i (tyV t) rfl (tys_at h1) (Vle.refl _) ?_
    (conv=>arg 2;whnf);refine wp_storeE (cs := tyZ) 0 0 (tyC t) rfl rfl (VleL.refl _) (Nat.le_refl _) rfl (R' := [.obj c (tyC t)]) rfl ?_
    (conv=>arg 2;whnf);refine w_ret2ck (R' := []) (a := tyV t) (u := bV true) c 0 0 rfl rfl rfl rfl rfl (Vle.refl _) (Vle.refl _) (List.nil_sublist _) (by rw [hr]; rfl)
set_option maxRecDepth 100000 in
theorem fieldI_call (t : Ty) (ht : t.flds.length < 2 ^ 60) (n : List UInt8) : PCall Tryz.prog 130 [tyV t, str n] (i64V (fieldI t n)) := by
  have f1 := indexfd_call 138 [.pt none (str n) 0] (fun f => decide (f.name = n)) t.flds ht fun x _ => field1_call x n
  refine scall_of (live := []) (ords := []) Tryz.func130 rfl (by kernel_rfl) (by kernel_rfl) (Nat.le_of_ble_eq_true rfl) ?_
  (conv=>arg 2;whnf);refine wp_pcall f1 ?_
  (conv=>arg 2;whnf);refine w_retp rfl (Vle.refl _)
def ScOk (s : Sc) : Prop := s.length < 2 ^ 60 ∧ ∀ t ∈ s, t.flds.length < 2 ^ 60
theorem findT_mem {s : Sc} {n : List UInt8} {t : Ty} (h : findT s n = some t) : t ∈ s := List.mem_of_find?_eq_some h
theorem vals_at {l : List Val} {n : Nat} {v : Val} (h : l[n]? = some v) : (l.map valV)[n]? = some (.agg (valL v)) := by rw [List.getElem?_map, h]; rfl
def valZ : List V := valL val0
set_option maxRecDepth 100000 in
theorem getV_call (s : Sc) (hs : ScOk s) (e : Ev) (f : List UInt8) : PCall Tryz.prog 121 [scV s, evV e, str f] (getR (getV s e f)) := by
  have f1 := findT_call s hs.1 e.ty
  refine scall_of (live := []) (ords := [(3, [])]) Tryz.func121 rfl (by kernel_rfl) (by kernel_rfl) (Nat.le_of_ble_eq_true rfl) ?_
  cases ht : findT s e.ty with
  | none =>
    rw [ht] at f1
    have hr : getV s e f = none := by rw [getV, ht]
    have f2 := fieldI_call ty0 (by decide) f
    (conv=>arg 2;whnf);refine wp_allocE valZ rfl fun c => ?_
    (conv=>arg 2;whnf);refine wp_pcall f1 ?_
    (conv=>arg 2;whnf);refine wp_allocE tyZ rfl fun d => ?_
    (conv=>arg 2;whnf);refine wp_storeE (cs := tyZ) 1 0 (tyC ty0) rfl rfl (VleL.refl _) (Nat.le_refl _) rfl (R' := [.obj c valZ, .obj d (tyC ty0)]) rfl ?_
    (conv=>arg 2;whnf);refine wp_load (cs := tyC ty0) 1 rfl rfl ?_
    (conv=>arg 2;whnf);refine wp_pcall f2 ?_
    refine wp_cutR (frL [(6, .loc c 0), (9, bV false), (10, i64V (fieldI ty0 f))]) [.obj c valZ] (.cons (.refl _) (.cons (.refl _) (.cons (.refl _) (.nil _)))) (by simp) ?_
    (repeat ((conv=>arg 2;whnf);first|refine wp_it rfl ?_|refine wp_if rfl ?_))
    (conv=>arg 2;whnf);refine wp_storeE (cs := valZ) 0 0 (valL val0) rfl rfl (VleL.refl _) (Nat.le_refl _) rfl (R' := [.obj c (valL val0)]) rfl ?_
    (conv=>arg 2;whnf);refine w_ret2ck (R' := []) (a := valV val0) (u := bV false) c 0 0 rfl rfl rfl rfl rfl (Vle.refl _) (Vle.refl _) (List.nil_sublist _) (by rw [hr]; rfl)
  | some t =>
    rw [ht] at f1
    have f2 := fieldI_call t (hs.2 t (findT_mem ht)) f
    have hr : getV s e f = if fieldI t f < 0 then none else e.vals[(fieldI t f).toNat]? := by rw [getV, ht]
    obtain ⟨i, hi⟩ : ∃ i, i = fieldI t f := ⟨_, rfl⟩
    rw [← hi] at f2 hr
    (conv=>arg 2;whnf);refine wp_allocE valZ rfl fun c => ?_
    (conv=>arg 2;whnf);refine wp_pcall f1 ?_
    (conv=>arg 2;whnf);refine wp_allocE tyZ rfl fun d => ?_
    (conv=>arg 2;whnf);refine wp_storeE (cs := tyZ) 1 0 (tyC t) rfl rfl (VleL.refl _) (Nat.le_refl _) rfl (R' := [.obj c valZ, .obj d (tyC t)]) rfl ?_
    (conv=>arg 2;whnf);refine wp_load (cs := tyC t) 1 rfl rfl ?_
    (conv=>arg 2;whnf);refine wp_pcall f2 ?_
    refine wp_cutR (frL [(4, .pt (some 3) (evV e) 0), (6, .loc c 0), (9, bV true), (10, i64V i)]) [.obj c valZ] (.cons (.refl _) (.cons (.refl _) (.cons (.refl _) (.cons (.refl _) (.nil _))))) (by simp) ?_
    (repeat ((conv=>arg 2;whnf);first|refine wp_it rfl ?_|refine wp_if rfl ?_))
    (conv=>arg 2;whnf);refine wp_ite (fun h1 => ?_) (fun h1 => ?_)
    · have h1 : i < 0 := of_decide_eq_true h1
      rw [if_pos h1] at hr
      (repeat ((conv=>arg 2;whnf);first|refine wp_it rfl ?_|refine wp_if rfl ?_))
      (conv=>arg 2;whnf);refine wp_storeE (cs := valZ) 0 0 (valL val0) rfl rfl (VleL.refl _) (Nat.le_refl _) rfl (R' := [.obj c (valL val0)]) rfl ?_
      (conv=>arg 2;whnf);refine w_ret2ck (R' := []) (a := valV val0) (u := bV false) c 0 0 rfl rfl rfl rfl rfl (Vle.refl _) (Vle.refl _) (List.nil_sublist _) (by rw [hr]; rfl)
    · have h1 : ¬ i < 0 := of_decide_eq_false h1
      rw [if_neg h1] at hr
      (conv=>arg 2;whnf);refine wp_ite (fun h2 => ?_) (fun h2 => ?_)
      · have h2 : i ≥ ((e.vals.map valV).length : Int) := of_decide_eq_true h2
        rw [List.length_map] at h2
        have hr2 : getV s e f = none := by rw [hr]; exact List.getElem?_eq_none (by omega)
        (conv=>arg 2;whnf);refine wp_storeE (cs := valZ) 0 0 (valL val0) rfl rfl (VleL.refl _) (Nat.le_refl _) rfl (R' := [.obj c (valL val0)]) rfl ?_
        (conv=>arg 2;whnf);refine w_ret2ck (R' := []) (a := valV val0) (u := bV false) c 0 0 rfl rfl rfl rfl rfl (Vle.refl _) (Vle.refl _) (List.nil_sublist _) (by rw [hr2]; rfl)
      · have h2 : ¬ i ≥ ((e.vals.map valV).length : Int) := of_decide_eq_false h2
        rw [List.length_map] at h2
        obtain ⟨v, hv⟩ : ∃ v, e.vals[i.toNat]? = some v := ⟨_, List.getElem?_eq_getElem (by omega)⟩
        have hr2 : getV s e f = some v := by rw [hr, hv]
        (conv=>arg 2;whnf);refine wp_elem i.toNat (valV v) (by omega) (vals_at hv) (Vle.refl _) ?_
        (conv=>arg 2;whnf);refine wp_storeE (cs := valZ) 0 0 (valL v) rfl rfl (VleL.refl _) (Nat.le_refl _) rfl (R' := [.obj c (valL v)]) rfl ?_
        (conv=>arg 2;whnf);refine w_ret2ck (R' := []) (a := valV v) (u := bV true) c 0 0 rfl rfl rfl rfl rfl (Vle.refl _) (Vle.refl _) (List.nil_sublist _) (by rw [hr2]; rfl)
end Go.Sv
namespace Go.Sv
open Go
def Pinned (L : List Res) (g g' : Gh) (w : World) : Prop := ∀ b cs, Res.obj b cs ∈ L → cs ≠ [] → ∃ vals : List Value, RelL g w cs vals ∧ (∀ o, cell w b o = vals[o]?) ∧ vals.length ≤ g'.cm b
def Pin (L : List Res) (v v' : V) : Prop := ∀ g g' w x, Pre g w g' w → Pinned L g g' w → RelV g w v x → RelV g' w v' x
theorem Pin.vle {L : List Res} {v v' : V} (h : Vle v v') : Pin L v v' := fun _ _ _ _ hp _ hx => RelV.mono hp _ _ (h _ _ _ hx)
theorem Pin.refl {L : List Res} (v : V) : Pin L v v := .vle (Vle.refl v)
theorem Pin.ptP {L : List Res} {sh : Option Nat} {b o off : Nat} {cs : List V} {u v : V} (hb : Res.obj b cs ∈ L) (hn : cs ≠ []) (hu : partOf sh cs o = some u) (hv : Pin L u v) (hle : o + width sh ≤ cs.length) : Pin L (.loc b (o + off)) (.pt sh v off) := by
  intro g g' w x hp hP hx
  simp only [RelV] at hx
  obtain ⟨vals, hl, hc, hm⟩ := hP b cs hb hn
  rw [relV_pt]
  have hlen := relL_length hl
  refine ⟨b, o, hx, by omega, ?_⟩
  have h1 := relE_part (l := vals.toArray) (by simpa using hl) hu
  have h2 : RelE g w sh u (fun i => cell w b (o + i)) := relE_congr h1 fun i _ => by simp [hc]
  cases sh with
  | none =>
    obtain ⟨y, e1, e2⟩ := h2
    exact ⟨y, e1, hv g g' w y hp hP e2⟩
  | some k =>
    obtain ⟨l, e1, e2, e3⟩ := h2
    exact ⟨l, e1, e2, hv g g' w _ hp hP e3⟩
theorem Pin.pt {L : List Res} {sh : Option Nat} {b o off : Nat} {cs : List V} {u v : V} (hb : Res.obj b cs ∈ L) (hn : cs ≠ []) (hu : partOf sh cs o = some u) (hv : Vle u v) (hle : o + width sh ≤ cs.length) : Pin L (.loc b (o + off)) (.pt sh v off) :=
  Pin.ptP hb hn hu (.vle hv) hle
theorem Pin.all {L : List Res} {k b : Nat} {cs cs' : List V} (hb : Res.obj b cs ∈ L) (hk : cs.length = k) (h0 : 0 < k) (hv : VleL cs cs') : Pin L (.loc b 0) (.pt (some k) (.agg cs') 0) := by
  subst hk
  exact Pin.pt (o := 0) (off := 0) (u := .agg cs) hb (by rintro rfl; simp at h0) (by simp [partOf]) (Vle.agg hv) (by simp [width])
theorem Pin.one {L : List Res} {b : Nat} {c c' : V} (hb : Res.obj b [c] ∈ L) (hv : Vle c c') : Pin L (.loc b 0) (.pt none c' 0) :=
  Pin.pt (o := 0) (off := 0) (u := c) hb (by simp) (by simp [partOf]) hv (by simp [width])
theorem Pin.row {L : List Res} {sh : Option Nat} {b o n cap : Nat} {cs xs : List V} (hb : Res.obj b cs ∈ L) (hn : xs.length = n) (hw : 0 < width sh) (hle : o + n * width sh ≤ cs.length) (h : Rows sh cs o xs) : Pin L (.lsl sh b o n cap) (.sl sh xs .no) := by
  intro g g' w x hp hP hx
  simp only [RelV] at hx ⊢
  obtain ⟨a, rfl, hc, ha⟩ := hx
  refine ⟨a, n, cap, rfl, hn.symm, hc, trivial, ?_⟩
  by_cases h0 : n = 0
  · left; exact List.eq_nil_of_length_eq_zero (by omega)
  · right
    have hn1 : 0 < n * width sh := Nat.mul_pos (by omega) hw
    have hne : cs ≠ [] := by rintro rfl; simp at hle; omega
    obtain ⟨vals, hl, hcell, hcm⟩ := hP b cs hb hne
    have hlen := relL_length hl
    have h1 : n ≤ n * width sh := Nat.le_mul_of_pos_right _ hw
    refine ⟨b, o, ha.resolve_left (by omega), by omega, ?_⟩
    exact RelXs.mono hp sh xs _ _ (fun i _ => hcell (o + i)) (rows_rel hl h)
theorem Pin.alls {L : List Res} {k b cap : Nat} {xs sp : List V} (hb : Res.obj b (rowC (some k) xs ++ sp) ∈ L) (hk : 0 < k) (h : ∀ x ∈ xs, ∃ cs, x = .agg cs ∧ cs.length = k) : Pin L (.lsl (some k) b 0 xs.length cap) (.sl (some k) xs .no) :=
  .row hb rfl hk (by
    have : (rowC (some k) xs).length = xs.length * k := by
      clear hk hb
      induction xs with
      | nil => simp [rowC]
      | cons x xs ih =>
        obtain ⟨ds, rfl, hl⟩ := h x (by simp)
        have := ih fun x hx => h x (by simp [hx])
        simp only [rowC] at this
        simp [rowC, aggC, this, hl, Nat.add_mul]; omega
    simp [width, this]) (by have := rows_some (k := k) (sp := sp) (xs := xs) (ys := []) h; simpa using this)
theorem Pin.oneP {L : List Res} {b : Nat} {c c' : V} (hb : Res.obj b [c] ∈ L) (hv : Pin L c c') : Pin L (.loc b 0) (.pt none c' 0) :=
  Pin.ptP (o := 0) (off := 0) (u := c) hb (by simp) (by simp [partOf]) hv (by simp [width])
theorem Pin.gotL {L : List Res} {v a b : V} (h : Pin L a b) (hv : v = a) : Pin L v b := by rw [hv]; exact h
def PinF (L : List Res) (fr fr' : Fr) : Prop := ∀ t, Pin L (fr t) (fr' t)
theorem PinF.nil {L : List Res} (fr : Fr) : PinF L fr (frL []) := fun _ => .vle (Vle.undef _)
theorem PinF.cons {L : List Res} {fr : Fr} {k : Nat} {v : V} {l : List (Nat × V)} (h : Pin L (fr k) v) (hs : PinF L fr (frL l)) : PinF L fr (frL ((k, v) :: l)) := fun t => by
  simp only [frL]
  cases e : Nat.beq t k with
  | true => rw [Nat.eq_of_beq_eq_true e]; exact h
  | false => exact hs t
theorem pins_core {w : World} {A : List Res} : ∀ (B : List Res) (g : Gh), Wf g w → RelR g w (A ++ B) → ∃ g', Pre g w g' w ∧ Pinned B g g' w ∧ After g w (A ++ B) g' w A
  | [], g, hw, hr => ⟨g, Pre.refl g w, fun b cs h => (by cases h), by rw [List.append_nil] at hr ⊢; exact After.refl hw hr⟩
  | x :: B, g, hw, hr => by
    have step : ∃ g1, Pre g w g1 w ∧ Pinned [x] g g1 w ∧ After g w (A ++ x :: B) g1 w (A ++ B) := by
      have he : (A ++ x :: B).eraseIdx A.length = A ++ B := by rw [List.eraseIdx_append_of_length_le (Nat.le_refl _)]; simp
      have hd : After g w (A ++ x :: B) g w (A ++ B) := by
        have hsub : (A ++ B).Sublist (A ++ x :: B) := by rw [← he]; exact List.eraseIdx_sublist _ _
        exact ⟨Ext.refl _ hw, ⟨fun y hy => hr.all y (hsub.subset hy), hr.nodup.sublist (blocks_sub hsub)⟩, fun b hb => .inl ((blocks_sub hsub).subset hb)⟩
      by_cases hx : ∃ b cs, x = .obj b cs ∧ cs ≠ []
      · obtain ⟨b, cs, rfl, hn⟩ := hx
        obtain ⟨g1, T, hA⟩ := frz_core (b := b) (cs := cs) (i := A.length) (R' := A ++ B) hw hr (by simp) (by rw [he]; exact FrzR.refl _)
        refine ⟨g1, T.pre, ?_, hA⟩
        intro b' cs' hm _
        rw [List.mem_singleton] at hm
        cases hm
        rcases T.cells with h | h
        · exact absurd h hn
        · exact h
      · exact ⟨g, Pre.refl g w, fun b cs hm hn => absurd ⟨b, cs, (List.mem_singleton.1 hm).symm, hn⟩ hx, hd⟩
    obtain ⟨g1, p1, q1, a1⟩ := step
    obtain ⟨g2, p2, q2, a2⟩ := pins_core B g1 a1.ext.wf a1.res
    refine ⟨g2, p1.trans p2, ?_, a1.trans a2⟩
    intro b cs hm hn
    rcases List.mem_cons.1 hm with rfl | hm
    · obtain ⟨vals, h1, h2, h3⟩ := q1 b cs (by simp) hn
      exact ⟨vals, h1, h2, Nat.le_trans h3 (p2.cmle b)⟩
    · obtain ⟨vals, e, fz, hh, hz, hl, hcm⟩ := obj_cons hn (hr.all (.obj b cs) (by simp [hm]))
      obtain ⟨vals2, h1, h2, h3⟩ := q2 b cs hm hn
      have hcell : ∀ o, cell w b o = vals.toList[o]? := fun o => by simp [cell, World.cell?, hh]
      refine ⟨vals.toList, hl, hcell, ?_⟩
      have : vals2 = vals.toList := List.ext_getElem? fun o => by rw [← h2, ← hcell]
      rw [← this]; exact h3
theorem UpdF.pins {fr fr' : Fr} (A B : List Res) (hf : PinF B fr fr') : UpdF fr (A ++ B) fr' A := by
  intro g w x hw hx hr
  obtain ⟨g', p, q, hA⟩ := pins_core B g hw hr
  exact ⟨g', hA, fun t => hf t g g' w _ p q (hx t)⟩
theorem UpdV.pins {v v' : V} (A B : List Res) (hf : Pin B v v') : UpdV v (A ++ B) v' A := by
  intro g w x hw hx hr
  obtain ⟨g', p, q, hA⟩ := pins_core B g hw hr
  exact ⟨g', hA, hf g g' w _ p q hx⟩
theorem wp_cutP {P : Program} {fr : Fr} {k : Fr → Tree} {Q : Exit → Fr → List Res → Prop} (fr1 : Fr) (A B : List Res) (h1 : PinF B fr fr1) (h : (k fr1).wp P A Q) : (Tree.cut fr k).wp P (A ++ B) Q := ⟨fr1, A, UpdF.pins A B h1, h⟩
end Go.Sv
namespace Go.Sv
open Go Go.Proofs
theorem find_hit {α : Type} {q : α → Bool} {l : List α} {n : Nat} {y : α} (h : (l.take n).any q = false) (hy : l[n]? = some y) (hq : q y = true) : l.find? q = some y := by
  have hs : l = l.take n ++ y :: l.drop (n + 1) := by rw [← drop_at hy, List.take_append_drop]
  rw [hs, List.find?_append, find_none h]
  simp [hq]
set_option maxRecDepth 100000 in
theorem rfind_call (s : Sc) (hs : s.length < 2 ^ 60) (nm : List UInt8) : PCall Tryz.prog 19 [scV s, str nm] (findR (findT s nm)) := by
  refine scall_of (live := []) (ords := []) Tryz.func19 rfl (by kernel_rfl) (by kernel_rfl) (Nat.le_of_ble_eq_true rfl) ?_
  (conv=>arg 2;whnf);refine wp_allocE tyZ rfl fun c => ?_
  (conv=>arg 2;whnf);refine wp_loop (fun m fr R => ∃ n : Nat, m = s.length - n ∧ n ≤ s.length ∧ R = [.obj c tyZ] ∧ (s.take n).any (fun t => decide (t.name = nm)) = false ∧ fr = frL [(1, str nm), (2, .pt (some 1) (scV s) 0), (4, .loc c 0), (6, i64V n)])
    s.length _ _ (.cons (.refl _) (.cons (.refl _) (.cons (.refl _) (.cons (.refl _) (.nil _))))) (List.Sublist.refl _) ⟨0, rfl, Nat.zero_le _, rfl, rfl, rfl⟩ ?_
  rintro m fr R ⟨n, rfl, hn, rfl, ha, rfl⟩
  (conv=>arg 2;whnf);refine wp_ite (fun h => ?_) (fun h => ?_)
  · have h : n < s.length := by
      have := of_decide_eq_true h
      rw [List.length_map] at this; omega
    obtain ⟨t, ht⟩ : ∃ t, s[n]? = some t := ⟨_, List.getElem?_eq_getElem h⟩
    (conv=>arg 2;whnf);refine wp_elem n (tyV t) rfl (tys_at ht) (Vle.refl _) ?_
    (conv=>arg 2;whnf);refine wp_ite (fun h1 => ?_) (fun h1 => ?_)
    · rw [strEq] at h1
      have hr : findT s nm = some t := find_hit ha ht h1
      (conv=>arg 2;whnf);refine wp_elem n (tyV t) rfl (tys_at ht) (Vle.refl _) ?_
      (conv=>arg 2;whnf);refine wp_storeE (cs := tyZ) 0 0 (tyC t) rfl rfl (VleL.refl _) (Nat.le_refl _) rfl (R' := [.obj c (tyC t)]) rfl ?_
      (conv=>arg 2;whnf)
      refine wp_leaf (loop_ret ?_)
      (conv=>arg 2;whnf);refine w_ret2ck (R' := []) (a := tyV t) (u := bV true) c 0 0 rfl rfl rfl rfl rfl (Vle.refl _) (Vle.refl _) (List.nil_sublist _) (by rw [hr]; rfl)
    · rw [strEq] at h1
      have hn' := any_next ha ht h1
      (conv=>arg 2;whnf)
      exact wp_leaf (loop_next (s.length - (n + 1)) _ [.obj c tyZ] (by omega) (.cons (.refl _) (.cons (.refl _) (.cons (.refl _) (.cons (Vle.inc n rfl (by omega)) (.nil _))))) (List.Sublist.refl _) ⟨n + 1, rfl, h, rfl, hn', rfl⟩)
  · have h : n = s.length := by
      have := of_decide_eq_false h
      rw [List.length_map] at this; omega
    rw [h, List.take_length] at ha
    have hr : findT s nm = none := find_none ha
    (conv=>arg 2;whnf)
    refine wp_leaf (loop_exit ?_)
    (conv=>arg 2;whnf);refine wp_storeE (cs := tyZ) 0 0 (tyC ty0) rfl rfl tyZ_vle (Nat.le_refl _) rfl (R' := [.obj c (tyC ty0)]) rfl ?_
    (conv=>arg 2;whnf);refine w_ret2ck (R' := []) (a := tyV ty0) (u := bV false) c 0 0 rfl rfl rfl rfl rfl (Vle.refl _) (Vle.refl _) (List.nil_sublist _) (by rw [hr]; rfl)
theorem fds_at {s : List Fd} {n : Nat} {t : Fd} (h : s[n]? = some t) : (s.map fdV)[n]? = some (.agg (fdC t)) := by rw [List.getElem?_map, h]; rfl
set_option maxRecDepth 100000 in
theorem rfield_call (t : Ty) (hs : t.flds.length < 2 ^ 60) (nm : List UInt8) : PCall Tryz.prog 21 [tyV t, str nm] (i64V (fieldI t nm)) := by
  refine scall_of (live := []) (ords := []) Tryz.func21 rfl (by kernel_rfl) (by kernel_rfl) (Nat.le_of_ble_eq_true rfl) ?_
  (conv=>arg 2;whnf);refine wp_loop (fun m fr R => ∃ n : Nat, m = t.flds.length - n ∧ n ≤ t.flds.length ∧ R = [] ∧ (t.flds.take n).any (fun f => decide (f.name = nm)) = false ∧ fr = frL [(1, str nm), (2, .pt (some 2) (tyV t) 0), (5, i64V n)])
    t.flds.length _ _ (.cons (.refl _) (.cons (.refl _) (.cons (.refl _) (.nil _)))) (List.Sublist.refl _) ⟨0, rfl, Nat.zero_le _, rfl, rfl, rfl⟩ ?_
  rintro m fr R ⟨n, rfl, hn, rfl, ha, rfl⟩
  (conv=>arg 2;whnf);refine wp_ite (fun h => ?_) (fun h => ?_)
  · have h : n < t.flds.length := by
      have := of_decide_eq_true h
      rw [List.length_map] at this; omega
    obtain ⟨f, hf⟩ : ∃ f, t.flds[n]? = some f := ⟨_, List.getElem?_eq_getElem h⟩
    (conv=>arg 2;whnf);refine wp_elem n (fdV f) rfl (fds_at hf) (Vle.refl _) ?_
    (conv=>arg 2;whnf);refine wp_ite (fun h1 => ?_) (fun h1 => ?_)
    · rw [strEq] at h1
      have hr : fieldI t nm = (n : Int) := idx_hit ha hf h1
      (conv=>arg 2;whnf)
      refine wp_leaf (loop_ret ?_)
      (conv=>arg 2;whnf);refine w_retp rfl (Vle.eq (cI64 hr.symm))
    · rw [strEq] at h1
      have hn' := any_next ha hf h1
      (conv=>arg 2;whnf)
      exact wp_leaf (loop_next (t.flds.length - (n + 1)) _ [] (by omega) (.cons (.refl _) (.cons (.refl _) (.cons (Vle.inc n rfl (by omega)) (.nil _)))) (List.Sublist.refl _) ⟨n + 1, rfl, h, rfl, hn', rfl⟩)
  · have h : n = t.flds.length := by
      have := of_decide_eq_false h
      rw [List.length_map] at this; omega
    rw [h, List.take_length] at ha
    have hr : fieldI t nm = -1 := idx_none ha
    (conv=>arg 2;whnf)
    refine wp_leaf (loop_exit ?_)
    (conv=>arg 2;whnf);refine w_retp rfl (Vle.eq (cI64 hr.symm))
set_option maxRecDepth 100000 in
theorem rget_call (s : Sc) (hs : ScOk s) (e : Ev) (f : List UInt8) : PCall Tryz.prog 113 [scV s, evV e, str f] (getR (getV s e f)) := by
  have f1 := rfind_call s hs.1 e.ty
  refine scall_of (live := []) (ords := [(3, [])]) Tryz.func113 rfl (by kernel_rfl) (by kernel_rfl) (Nat.le_of_ble_eq_true rfl) ?_
  cases ht : findT s e.ty with
  | none =>
    rw [ht] at f1
    have hr : getV s e f = none := by rw [getV, ht]
    have f2 := rfield_call ty0 (by decide) f
    (conv=>arg 2;whnf);refine wp_allocE valZ rfl fun c => ?_
    (conv=>arg 2;whnf);refine wp_pcall f1 ?_
    (conv=>arg 2;whnf);refine wp_allocE tyZ rfl fun d => ?_
    (conv=>arg 2;whnf);refine wp_storeE (cs := tyZ) 1 0 (tyC ty0) rfl rfl (VleL.refl _) (Nat.le_refl _) rfl (R' := [.obj c valZ, .obj d (tyC ty0)]) rfl ?_
    (conv=>arg 2;whnf);refine wp_load (cs := tyC ty0) 1 rfl rfl ?_
    (conv=>arg 2;whnf);refine wp_pcall f2 ?_
    refine wp_cutR (frL [(6, .loc c 0), (9, bV false), (10, i64V (fieldI ty0 f))]) [.obj c valZ] (.cons (.refl _) (.cons (.refl _) (.cons (.refl _) (.nil _)))) (by simp) ?_
    (repeat ((conv=>arg 2;whnf);first|refine wp_it rfl ?_|refine wp_if rfl ?_))
    (conv=>arg 2;whnf);refine wp_storeE (cs := valZ) 0 0 (valL val0) rfl rfl (VleL.refl _) (Nat.le_refl _) rfl (R' := [.obj c (valL val0)]) rfl ?_
    (conv=>arg 2;whnf);refine w_ret2ck (R' := []) (a := valV val0) (u := bV false) c 0 0 rfl rfl rfl rfl rfl (Vle.refl _) (Vle.refl _) (List.nil_sublist _) (by rw [hr]; rfl)
  | some t =>
    rw [ht] at f1
    have f2 := rfield_call t (hs.2 t (findT_mem ht)) f
    have hr : getV s e f = if fieldI t f < 0 then none else e.vals[(fieldI t f).toNat]? := by rw [getV, ht]
    obtain ⟨i, hi⟩ : ∃ i, i = fieldI t f := ⟨_, rfl⟩
    rw [← hi] at f2 hr
    (conv=>arg 2;whnf);refine wp_allocE valZ rfl fun c => ?_
    (conv=>arg 2;whnf);refine wp_pcall f1 ?_
    (conv=>arg 2;whnf);refine wp_allocE tyZ rfl fun d => ?_
    (conv=>arg 2;whnf);refine wp_storeE (cs := tyZ) 1 0 (tyC t) rfl rfl (VleL.refl _) (Nat.le_refl _) rfl (R' := [.obj c valZ, .obj d (tyC t)]) rfl ?_
    (conv=>arg 2;whnf);refine wp_load (cs := tyC t) 1 rfl rfl ?_
    (conv=>arg 2;whnf);refine wp_pcall f2 ?_
    refine wp_cutR (frL [(4, .pt (some 3) (evV e) 0), (6, .loc c 0), (9, bV true), (10, i64V i)]) [.obj c valZ] (.cons (.refl _) (.cons (.refl _) (.cons (.refl _) (.cons (.refl _) (.nil _))))) (by simp) ?_
    (repeat ((conv=>arg 2;whnf);first|refine wp_it rfl ?_|refine wp_if rfl ?_))
    (conv=>arg 2;whnf);refine wp_ite (fun h1 => ?_) (fun h1 => ?_)
    · have h1 : i < 0 := of_decide_eq_true h1
      rw [if_pos h1] at hr
      (repeat ((conv=>arg 2;whnf);first|refine wp_it rfl ?_|refine wp_if rfl ?_))
      (conv=>arg 2;whnf);refine wp_storeE (cs := valZ) 0 0 (valL val0) rfl rfl (VleL.refl _) (Nat.le_refl _) rfl (R' := [.obj c (valL val0)]) rfl ?_
      (conv=>arg 2;whnf);refine w_ret2ck (R' := []) (a := valV val0) (u := bV false) c 0 0 rfl rfl rfl rfl rfl (Vle.refl _) (Vle.refl _) (List.nil_sublist _) (by rw [hr]; rfl)
    · have h1 : ¬ i < 0 := of_decide_eq_false h1
      rw [if_neg h1] at hr
      (conv=>arg 2;whnf);refine wp_ite (fun h2 => ?_) (fun h2 => ?_)
      · have h2 : i ≥ ((e.vals.map valV).length : Int) := of_decide_eq_true h2
        rw [List.length_map] at h2
        have hr2 : getV s e f = none := by rw [hr]; exact List.getElem?_eq_none (by omega)
        (conv=>arg 2;whnf);refine wp_storeE (cs := valZ) 0 0 (valL val0) rfl rfl (VleL.refl _) (Nat.le_refl _) rfl (R' := [.obj c (valL val0)]) rfl ?_
        (conv=>arg 2;whnf);refine w_ret2ck (R' := []) (a := valV val0) (u := bV false) c 0 0 rfl rfl rfl rfl rfl (Vle.refl _) (Vle.refl _) (List.nil_sublist _) (by rw [hr2]; rfl)
      · have h2 : ¬ i ≥ ((e.vals.map valV).length : Int) := of_decide_eq_false h2
        rw [List.length_map] at h2
        obtain ⟨v, hv⟩ : ∃ v, e.vals[i.toNat]? = some v := ⟨_, List.getElem?_eq_getElem (by omega)⟩
        have hr2 : getV s e f = some v := by rw [hr, hv]
        (conv=>arg 2;whnf);refine wp_elem i.toNat (valV v) (by omega) (vals_at hv) (Vle.refl _) ?_
        (conv=>arg 2;whnf);refine wp_storeE (cs := valZ) 0 0 (valL v) rfl rfl (VleL.refl _) (Nat.le_refl _) rfl (R' := [.obj c (valL v)]) rfl ?_
        (conv=>arg 2;whnf);refine w_ret2ck (R' := []) (a := valV v) (u := bV true) c 0 0 rfl rfl rfl rfl rfl (Vle.refl _) (Vle.refl _) (List.nil_sublist _) (by rw [hr2]; rfl)
def fd0 : Fd := ⟨[], 0⟩
def kindsB (l : List Val) (f : List Fd) : Bool := (List.range l.length).all fun i => decide ((l.getD i val0).kind = (f.getD i fd0).kind)
def isEvI (s : Sc) (e : Ev) : Int :=
  match findT s e.ty with
  | none => 13
  | some t => if e.ts < 0 ∨ 1073741824 < e.ts ∨ e.vals.length ≠ t.flds.length then 10
    else if e.vals.all valIs then (if kindsB e.vals t.flds then 0 else 14) else 10
theorem all_next {α : Type} {q : α → Bool} {l : List α} {n : Nat} {y : α} (h : (l.take n).all q = true) (hy : l[n]? = some y) (hq : q y = true) : (l.take (n + 1)).all q = true := by
  rw [List.take_add_one, hy, List.all_append, h]
  simp [hq]
theorem all_miss {α : Type} {q : α → Bool} {l : List α} {n : Nat} {y : α} (hy : l[n]? = some y) (hq : q y = false) : l.all q = false := by
  rw [List.all_eq_false]
  exact ⟨y, List.mem_of_getElem? hy, by simp [hq]⟩
theorem rng_next {q : Nat → Bool} {n : Nat} (h : (List.range n).all q = true) (hq : q n = true) : (List.range (n + 1)).all q = true := by
  rw [List.range_succ, List.all_append, h]; simp [hq]
theorem rng_miss {q : Nat → Bool} {n m : Nat} (hm : n < m) (hq : q n = false) : (List.range m).all q = false := by
  rw [List.all_eq_false]
  exact ⟨n, List.mem_range.2 hm, by simp [hq]⟩
theorem getD_at {α : Type} {l : List α} {n : Nat} {y d : α} (h : l[n]? = some y) : l.getD n d = y := by rw [List.getD_eq_getElem?_getD, h]; rfl
set_option maxRecDepth 100000 in
set_option maxHeartbeats 1000000 in
theorem isevent_call (s : Sc) (hs : ScOk s) (e : Ev) (hv : e.vals.length < 2 ^ 60) (hval : ∀ v ∈ e.vals, v.s.length < 2 ^ 60) : PCall Tryz.prog 17 [scV s, evV e] (i64V (isEvI s e)) := by
  have f1 := rfind_call s hs.1 e.ty
  refine scall_of (live := []) (ords := [(2, [])]) Tryz.func17 rfl (by kernel_rfl) (by kernel_rfl) (Nat.le_of_ble_eq_true rfl) ?_
  cases ht : findT s e.ty with
  | none =>
    rw [ht] at f1
    have hr : isEvI s e = 13 := by rw [isEvI, ht]
    (conv=>arg 2;whnf);refine wp_pcall f1 ?_
    (conv=>arg 2;whnf);refine wp_allocE tyZ rfl fun d => ?_
    (conv=>arg 2;whnf);refine wp_storeE (cs := tyZ) 0 0 (tyC ty0) rfl rfl (VleL.refl _) (Nat.le_refl _) rfl (R' := [.obj d (tyC ty0)]) rfl ?_
    (conv=>arg 2;whnf)
    refine wp_cutP (frL [(6, bV false)]) [] [.obj d (tyC ty0)] (.cons (.refl _) (.nil _)) ?_
    (repeat ((conv=>arg 2;whnf);first|refine wp_it rfl ?_|refine wp_if rfl ?_))
    (conv=>arg 2;whnf);refine w_retp rfl (Vle.eq (cI64 hr.symm))
  | some t =>
    rw [ht] at f1
    have htl := hs.2 t (findT_mem ht)
    have hr : isEvI s e = if e.ts < 0 ∨ 1073741824 < e.ts ∨ e.vals.length ≠ t.flds.length then 10
      else if e.vals.all valIs then (if kindsB e.vals t.flds then 0 else 14) else 10 := by rw [isEvI, ht]
    (conv=>arg 2;whnf);refine wp_pcall f1 ?_
    (conv=>arg 2;whnf);refine wp_allocE tyZ rfl fun d => ?_
    (conv=>arg 2;whnf);refine wp_storeE (cs := tyZ) 0 0 (tyC t) rfl rfl (VleL.refl _) (Nat.le_refl _) rfl (R' := [.obj d (tyC t)]) rfl ?_
    (conv=>arg 2;whnf)
    refine wp_cutP (frL [(3, .pt (some 3) (evV e) 0), (5, .pt (some 2) (tyV t) 0), (6, bV true)]) [] [.obj d (tyC t)] (.cons (.refl _) (.cons (.all (List.Mem.head _) rfl (by decide) (VleL.refl _)) (.cons (.refl _) (.nil _)))) ?_
    (repeat ((conv=>arg 2;whnf);first|refine wp_it rfl ?_|refine wp_if rfl ?_))
    (conv=>arg 2;whnf);refine wp_ite (fun h1 => ?_) (fun h1 => ?_)
    · have h1 : e.ts < 0 := of_decide_eq_true h1
      rw [if_pos (.inl h1)] at hr
      (repeat ((conv=>arg 2;whnf);first|refine wp_it rfl ?_|refine wp_if rfl ?_))
      (conv=>arg 2;whnf);refine w_retp rfl (Vle.eq (cI64 hr.symm))
    · have h1 : ¬ e.ts < 0 := of_decide_eq_false h1
      (conv=>arg 2;whnf);refine wp_ite (fun h2 => ?_) (fun h2 => ?_)
      · have h2 : 1073741824 < e.ts := by have := of_decide_eq_true h2; omega
        rw [if_pos (.inr (.inl h2))] at hr
        (repeat ((conv=>arg 2;whnf);first|refine wp_it rfl ?_|refine wp_if rfl ?_))
        (conv=>arg 2;whnf);refine w_retp rfl (Vle.eq (cI64 hr.symm))
      · have h2 : ¬ 1073741824 < e.ts := by have := of_decide_eq_false h2; omega
        (conv=>arg 2;whnf);refine wp_ite (fun h3 => ?_) (fun h3 => ?_)
        · have h3 : e.vals.length ≠ t.flds.length := fun hc => by
            have := bne_iff_ne.1 h3
            rw [List.length_map, List.length_map, hc] at this
            exact this rfl
          rw [if_pos (.inr (.inr h3))] at hr
          (conv=>arg 2;whnf);refine w_retp rfl (Vle.eq (cI64 hr.symm))
        · have h3 : e.vals.length = t.flds.length := by
            have := bne_eq_false_iff_eq.1 h3
            rw [List.length_map, List.length_map] at this
            omega
          have hno : ¬ (e.ts < 0 ∨ 1073741824 < e.ts ∨ e.vals.length ≠ t.flds.length) := fun h => h.elim h1 fun h => h.elim h2 fun h => h h3
          rw [if_neg hno] at hr
          (conv=>arg 2;whnf);refine wp_loop (fun m fr R => ∃ n : Nat, m = e.vals.length - n ∧ n ≤ e.vals.length ∧ R = [] ∧ (e.vals.take n).all valIs = true ∧ fr = frL [(3, .pt (some 3) (evV e) 0), (5, .pt (some 2) (tyV t) 0), (7, i64V n)])
            e.vals.length _ _ (.cons (.refl _) (.cons (.refl _) (.cons (.refl _) (.nil _)))) (List.Sublist.refl _) ⟨0, rfl, Nat.zero_le _, rfl, rfl, rfl⟩ ?_
          rintro m fr R ⟨n, rfl, hn, rfl, ha, rfl⟩
          (conv=>arg 2;whnf);refine wp_ite (fun h => ?_) (fun h => ?_)
          · have h : n < e.vals.length := by
              have := of_decide_eq_true h
              rw [List.length_map] at this; omega
            obtain ⟨v, hvn⟩ : ∃ v, e.vals[n]? = some v := ⟨_, List.getElem?_eq_getElem h⟩
            have f3 := refvalue_call v (hval v (List.mem_of_getElem? hvn))
            (conv=>arg 2;whnf);refine wp_elem n (valV v) rfl (vals_at hvn) (Vle.refl _) ?_
            (conv=>arg 2;whnf);refine wp_pcall f3 ?_
            cases hi : valIs v with
            | false =>
              rw [all_miss hvn hi] at hr
              (repeat ((conv=>arg 2;whnf);first|refine wp_it rfl ?_|refine wp_if rfl ?_))
              (conv=>arg 2;whnf)
              refine wp_leaf (loop_ret ?_)
              (conv=>arg 2;whnf);refine w_retp rfl (Vle.eq (cI64 hr.symm))
            | true =>
              have hn' := all_next ha hvn hi
              (repeat ((conv=>arg 2;whnf);first|refine wp_it rfl ?_|refine wp_if rfl ?_))
              (conv=>arg 2;whnf)
              exact wp_leaf (loop_next (e.vals.length - (n + 1)) _ [] (by omega) (.cons (.refl _) (.cons (.refl _) (.cons (Vle.inc n rfl (by omega)) (.nil _)))) (List.Sublist.refl _) ⟨n + 1, rfl, h, rfl, hn', rfl⟩)
          · have h : n = e.vals.length := by
              have := of_decide_eq_false h
              rw [List.length_map] at this; omega
            rw [h, List.take_length] at ha
            rw [if_pos ha] at hr
            clear h ha hn
            (conv=>arg 2;whnf)
            refine wp_leaf (loop_exit ?_)
            (conv=>arg 2;whnf);refine wp_loop (fun m fr R => ∃ n : Nat, m = e.vals.length - n ∧ n ≤ e.vals.length ∧ R = [] ∧ (List.range n).all (fun i => decide ((e.vals.getD i val0).kind = (t.flds.getD i fd0).kind)) = true ∧ fr = frL [(3, .pt (some 3) (evV e) 0), (5, .pt (some 2) (tyV t) 0), (8, i64V n)])
              e.vals.length _ _ (.cons (.refl _) (.cons (.refl _) (.cons (.refl _) (.nil _)))) (List.Sublist.refl _) ⟨0, rfl, Nat.zero_le _, rfl, rfl, rfl⟩ ?_
            rintro m fr R ⟨n, rfl, hn, rfl, ha, rfl⟩
            (conv=>arg 2;whnf);refine wp_ite (fun h => ?_) (fun h => ?_)
            · have h : n < e.vals.length := by
                have := of_decide_eq_true h
                rw [List.length_map] at this; omega
              obtain ⟨v, hvn⟩ : ∃ v, e.vals[n]? = some v := ⟨_, List.getElem?_eq_getElem h⟩
              obtain ⟨f, hfn⟩ : ∃ f, t.flds[n]? = some f := ⟨_, List.getElem?_eq_getElem (by omega)⟩
              have hq : decide ((e.vals.getD n val0).kind = (t.flds.getD n fd0).kind) = decide (v.kind = f.kind) := by rw [getD_at hvn, getD_at hfn]
              (conv=>arg 2;whnf);refine wp_elem n (valV v) rfl (vals_at hvn) (Vle.refl _) ?_
              (conv=>arg 2;whnf);refine wp_elem n (fdV f) rfl (fds_at hfn) (Vle.refl _) ?_
              (conv=>arg 2;whnf);refine wp_ite (fun h5 => ?_) (fun h5 => ?_)
              · have h5 : decide (v.kind = f.kind) = false := decide_eq_false (bne_iff_ne.1 h5)
                have hk : kindsB e.vals t.flds = false := rng_miss h (hq.trans h5)
                rw [hk] at hr
                (conv=>arg 2;whnf)
                refine wp_leaf (loop_ret ?_)
                (conv=>arg 2;whnf);refine w_retp rfl (Vle.eq (cI64 hr.symm))
              · have h5 : decide (v.kind = f.kind) = true := decide_eq_true (bne_eq_false_iff_eq.1 h5)
                have hn' := rng_next ha (hq.trans h5)
                (conv=>arg 2;whnf)
                exact wp_leaf (loop_next (e.vals.length - (n + 1)) _ [] (by omega) (.cons (.refl _) (.cons (.refl _) (.cons (Vle.inc n rfl (by omega)) (.nil _)))) (List.Sublist.refl _) ⟨n + 1, rfl, h, rfl, hn', rfl⟩)
            · have h : n = e.vals.length := by
                have := of_decide_eq_false h
                rw [List.length_map] at this; omega
              rw [h] at ha
              have hk : kindsB e.vals t.flds = true := ha
              rw [hk, if_pos rfl] at hr
              (conv=>arg 2;whnf)
              refine wp_leaf (loop_exit ?_)
              (conv=>arg 2;whnf);refine w_retp rfl (Vle.eq (cI64 hr.symm))
end Go.Sv
namespace Go.Sv
open Go
def kp0 : Kp := ⟨0, ev0⟩
def bd0 : Bd := ⟨0, 0⟩
def RiseK (l : List Kp) : Prop := l.Pairwise fun a b => a.at_ < b.at_
def atE (l : List Kp) (i : Int) : Option Ev := (l.find? fun k => decide (k.at_ = i)).map (·.e)
def atR : Option Ev → V
  | some e => .tup [evV e, bV true]
  | none => .tup [evV ev0, bV false]
def nextE (p : Pa) (k : Nat) : Option Nat := (List.range p.els.length).find? fun i => decide (k < i) && !ntAt p.els i
def nextI (p : Pa) (k : Nat) : Int := match nextE p k with
  | some i => i
  | none => -1
def elAt (p : Pa) (k : Nat) : El := p.els.getD k el0
def boundE (p : Pa) (l : List Kp) (b : List Bd) (k : Nat) : List Bn :=
  b.filterMap fun x => if x.elem < k then (atE l x.at_).map fun e => ⟨(elAt p x.elem).al, e⟩ else none
def takesE (s : Sc) (p : Pa) (l : List Kp) (b : List Bd) (k : Nat) (e : Ev) : Bool :=
  (elAt p k).ty.contains e.ty && holdsE s (elAt p k).cond (boundE p l b k ++ [⟨(elAt p k).al, e⟩])
def alikeE (s : Sc) (p : Pa) (a b : Ev) : Bool :=
  decide (p.by_ = []) || (match getV s a p.by_, getV s b p.by_ with
    | some x, some y => decide (x = y)
    | _, _ => false)
def lastBd (b : List Bd) : Bd := b.getLastD bd0
def firstEv (l : List Kp) (b : List Bd) : Ev := (atE l (b.headD bd0).at_).getD ev0
def betw (l : List Kp) (i j : Int) : List Kp := l.filter fun k => decide (i < k.at_) && decide (k.at_ < j)
def guardE (s : Sc) (p : Pa) (l : List Kp) (b : List Bd) (x : Bd) : Bool :=
  (List.range x.elem).all fun k => decide (k ≤ (lastBd b).elem) || (betw l (lastBd b).at_ x.at_).all fun y => !(takesE s p l b k y.e && alikeE s p (firstEv l b) y.e)
def sameE (p : Pa) (b : List Bd) (x : Bd) : Bool := decide (x.elem = (lastBd b).elem) && (elAt p (lastBd b).elem).plus
def goesE (s : Sc) (p : Pa) (l : List Kp) (b : List Bd) (x : Bd) : Bool :=
  match atE l x.at_ with
  | none => false
  | some e =>
    if p.els.length ≤ x.elem then false
    else if b = [] then decide (x.elem = 0) && takesE s p l [] 0 e
    else if x.at_ ≤ (lastBd b).at_ then false
    else if sameE p b x = false ∧ nextI p (lastBd b).elem ≠ x.elem then false
    else if e.ts - (firstEv l b).ts > p.within then false
    else alikeE s p (firstEv l b) e && (takesE s p l b x.elem e && (sameE p b x || guardE s p l b x))
def prefE (s : Sc) (p : Pa) (l : List Kp) (b : List Bd) : Bool :=
  (List.range b.length).all (fun i => goesE s p l (b.take i) (b.getD i bd0)) && decide (0 < b.length)
end Go.Sv
namespace Go.Sv
open Go Go.Proofs
def InR (n : Int) : Prop := -9223372036854775808 ≤ n ∧ n < 9223372036854775808
theorem inI_t {n : Int} (h : InR n) : inI n = true := by rw [inI, decide_eq_true h.1, decide_eq_true h.2]; rfl
theorem inI_f {n : Int} (h : ¬ InR n) : inI n = false := by
  cases hn : inI n with
  | false => rfl
  | true =>
    rw [inI, Bool.and_eq_true] at hn
    exact absurd ⟨of_decide_eq_true hn.1, of_decide_eq_true hn.2⟩ h
def calcR (n : Int) : V := if inI n then .tup [i64V n, bV true] else .tup [i64V 0, bV false]
theorem calc_t {n : Int} (h : InR n) : V.tup [i64V n, bV true] = calcR n := by rw [calcR, inI_t h]; rfl
theorem calc_f {n : Int} (h : ¬ InR n) : V.tup [i64V 0, bV false] = calcR n := by rw [calcR, inI_f h]; rfl
theorem w_in {n : Int} (h : InR n) : IntKind.i64.wrap n = n := w_i64_small h.1 h.2
set_option maxRecDepth 100000 in
theorem sum_call (a b : Int) (ha : InR a) (hb : InR b) : PCall Tryz.prog 159 [i64V a, i64V b] (calcR (a + b)) := by
  unfold InR at ha hb
  refine scall_of (live := []) (ords := []) Tryz.func159 rfl (by kernel_rfl) (by kernel_rfl) (Nat.le_of_ble_eq_true rfl) ?_
  (conv=>arg 2;whnf);refine wp_ite (fun h1 => ?_) (fun h1 => ?_)
  · have h1 : b > 0 := of_decide_eq_true h1
    have w1 : IntKind.i64.wrap (9223372036854775807 - b) = 9223372036854775807 - b := w_in ⟨by omega, by omega⟩
    (conv=>arg 2;whnf);refine wp_ite (fun h2 => ?_) (fun h2 => ?_)
    · have h2 : a > IntKind.i64.wrap (9223372036854775807 - b) := of_decide_eq_true h2
      rw [w1] at h2
      (repeat ((conv=>arg 2;whnf);first|refine wp_it rfl ?_|refine wp_if rfl ?_))
      (conv=>arg 2;whnf);refine w_ret2 rfl (Vle.refl _) (Vle.refl _) (List.nil_sublist _) (calc_f fun h => by unfold InR at h; omega)
    · have h2 : ¬ a > IntKind.i64.wrap (9223372036854775807 - b) := of_decide_eq_false h2
      rw [w1] at h2
      (conv=>arg 2;whnf);refine wp_ite (fun h => absurd (of_decide_eq_true h) (show ¬ b < 0 by omega)) (fun _ => ?_)
      (repeat ((conv=>arg 2;whnf);first|refine wp_it rfl ?_|refine wp_if rfl ?_))
      (conv=>arg 2;whnf);refine w_ret2 rfl (Vle.eq (cI64 (w_in ⟨by omega, by omega⟩))) (Vle.refl _) (List.nil_sublist _) (calc_t ⟨by omega, by omega⟩)
  · have h1 : ¬ b > 0 := of_decide_eq_false h1
    (repeat ((conv=>arg 2;whnf);first|refine wp_it rfl ?_|refine wp_if rfl ?_))
    (conv=>arg 2;whnf);refine wp_ite (fun h2 => ?_) (fun h2 => ?_)
    · have h2 : b < 0 := of_decide_eq_true h2
      have w1 : IntKind.i64.wrap (-9223372036854775808 - b) = -9223372036854775808 - b := w_in ⟨by omega, by omega⟩
      (conv=>arg 2;whnf);refine wp_ite (fun h3 => ?_) (fun h3 => ?_)
      · have h3 : a < IntKind.i64.wrap (-9223372036854775808 - b) := of_decide_eq_true h3
        rw [w1] at h3
        (conv=>arg 2;whnf);refine w_ret2 rfl (Vle.refl _) (Vle.refl _) (List.nil_sublist _) (calc_f fun h => by unfold InR at h; omega)
      · have h3 : ¬ a < IntKind.i64.wrap (-9223372036854775808 - b) := of_decide_eq_false h3
        rw [w1] at h3
        (conv=>arg 2;whnf);refine w_ret2 rfl (Vle.eq (cI64 (w_in ⟨by omega, by omega⟩))) (Vle.refl _) (List.nil_sublist _) (calc_t ⟨by omega, by omega⟩)
    · have h2 : ¬ b < 0 := of_decide_eq_false h2
      (repeat ((conv=>arg 2;whnf);first|refine wp_it rfl ?_|refine wp_if rfl ?_))
      (conv=>arg 2;whnf);refine w_ret2 rfl (Vle.eq (cI64 (w_in ⟨by omega, by omega⟩))) (Vle.refl _) (List.nil_sublist _) (calc_t ⟨by omega, by omega⟩)
set_option maxRecDepth 100000 in
theorem diff_call (a b : Int) (ha : InR a) (hb : InR b) : PCall Tryz.prog 160 [i64V a, i64V b] (calcR (a - b)) := by
  unfold InR at ha hb
  refine scall_of (live := []) (ords := []) Tryz.func160 rfl (by kernel_rfl) (by kernel_rfl) (Nat.le_of_ble_eq_true rfl) ?_
  (conv=>arg 2;whnf);refine wp_ite (fun h1 => ?_) (fun h1 => ?_)
  · have h1 : b < 0 := of_decide_eq_true h1
    have w1 : IntKind.i64.wrap (9223372036854775807 + b) = 9223372036854775807 + b := w_in ⟨by omega, by omega⟩
    (conv=>arg 2;whnf);refine wp_ite (fun h2 => ?_) (fun h2 => ?_)
    · have h2 : a > IntKind.i64.wrap (9223372036854775807 + b) := of_decide_eq_true h2
      rw [w1] at h2
      (repeat ((conv=>arg 2;whnf);first|refine wp_it rfl ?_|refine wp_if rfl ?_))
      (conv=>arg 2;whnf);refine w_ret2 rfl (Vle.refl _) (Vle.refl _) (List.nil_sublist _) (calc_f fun h => by unfold InR at h; omega)
    · have h2 : ¬ a > IntKind.i64.wrap (9223372036854775807 + b) := of_decide_eq_false h2
      rw [w1] at h2
      (conv=>arg 2;whnf);refine wp_ite (fun h => absurd (of_decide_eq_true h) (show ¬ b > 0 by omega)) (fun _ => ?_)
      (repeat ((conv=>arg 2;whnf);first|refine wp_it rfl ?_|refine wp_if rfl ?_))
      (conv=>arg 2;whnf);refine w_ret2 rfl (Vle.eq (cI64 (w_in ⟨by omega, by omega⟩))) (Vle.refl _) (List.nil_sublist _) (calc_t ⟨by omega, by omega⟩)
  · have h1 : ¬ b < 0 := of_decide_eq_false h1
    (repeat ((conv=>arg 2;whnf);first|refine wp_it rfl ?_|refine wp_if rfl ?_))
    (conv=>arg 2;whnf);refine wp_ite (fun h2 => ?_) (fun h2 => ?_)
    · have h2 : b > 0 := of_decide_eq_true h2
      have w1 : IntKind.i64.wrap (-9223372036854775808 + b) = -9223372036854775808 + b := w_in ⟨by omega, by omega⟩
      (conv=>arg 2;whnf);refine wp_ite (fun h3 => ?_) (fun h3 => ?_)
      · have h3 : a < IntKind.i64.wrap (-9223372036854775808 + b) := of_decide_eq_true h3
        rw [w1] at h3
        (conv=>arg 2;whnf);refine w_ret2 rfl (Vle.refl _) (Vle.refl _) (List.nil_sublist _) (calc_f fun h => by unfold InR at h; omega)
      · have h3 : ¬ a < IntKind.i64.wrap (-9223372036854775808 + b) := of_decide_eq_false h3
        rw [w1] at h3
        (conv=>arg 2;whnf);refine w_ret2 rfl (Vle.eq (cI64 (w_in ⟨by omega, by omega⟩))) (Vle.refl _) (List.nil_sublist _) (calc_t ⟨by omega, by omega⟩)
    · have h2 : ¬ b > 0 := of_decide_eq_false h2
      (repeat ((conv=>arg 2;whnf);first|refine wp_it rfl ?_|refine wp_if rfl ?_))
      (conv=>arg 2;whnf);refine w_ret2 rfl (Vle.eq (cI64 (w_in ⟨by omega, by omega⟩))) (Vle.refl _) (List.nil_sublist _) (calc_t ⟨by omega, by omega⟩)
theorem mul_back {a b : Int} (ha : InR a) (hb : InR b) (h0 : b ≠ 0) : InR (a * b) ↔ (IntKind.i64.wrap ((IntKind.i64.wrap (a * b)).tdiv b) = a ∧ ¬ (a = -1 ∧ b = -9223372036854775808) ∧ ¬ (b = -1 ∧ a = -9223372036854775808)) := by
  unfold InR at ha hb
  constructor
  · intro h
    have hw : IntKind.i64.wrap (a * b) = a * b := w_in h
    have hd : (a * b).tdiv b = a := Int.mul_tdiv_cancel a h0
    refine ⟨?_, ?_, ?_⟩
    · rw [hw, hd]; exact w_in ha
    · rintro ⟨rfl, rfl⟩
      unfold InR at h
      omega
    · rintro ⟨rfl, rfl⟩
      unfold InR at h
      omega
  · rintro ⟨h1, h2, h3⟩
    obtain ⟨c, hc⟩ : ∃ c, c = IntKind.i64.wrap (a * b) := ⟨_, rfl⟩
    have hcr : InR c := by rw [hc, w_i64]; unfold InR; omega
    have hcm : ∃ k : Int, c = a * b + k * 18446744073709551616 := by
      refine ⟨-((a * b + 9223372036854775808) / 18446744073709551616), ?_⟩
      rw [hc, w_i64]
      have := Int.emod_add_mul_ediv (a * b + 9223372036854775808) 18446744073709551616
      omega
    rw [← hc] at h1
    unfold InR at hcr
    have hb1 : b.natAbs ≠ 0 := by omega
    -- the quotient itself
    have hq : (c.tdiv b) = a := by
      by_cases hm : c = -9223372036854775808 ∧ b = -1
      · obtain ⟨rfl, rfl⟩ := hm
        exfalso
        apply h3
        refine ⟨rfl, ?_⟩
        rw [← h1]
        decide
      · have hr : InR (c.tdiv b) := by
          unfold InR
          have h4 : (c.tdiv b).natAbs = c.natAbs / b.natAbs := Int.natAbs_tdiv c b
          by_cases hb2 : b.natAbs = 1
          · have hb3 : b = 1 ∨ b = -1 := by omega
            rcases hb3 with rfl | rfl
            · rw [Int.tdiv_one]; omega
            · rw [Int.tdiv_neg, Int.tdiv_one]
              have : c ≠ -9223372036854775808 := fun h => hm ⟨h, rfl⟩
              omega
          · have : c.natAbs / b.natAbs ≤ c.natAbs / 2 := Nat.div_le_div_left (by omega) (by omega)
            omega
        rw [← w_in hr]; exact h1
    obtain ⟨k, hk⟩ := hcm
    have hmod := Int.mul_tdiv_add_tmod c b
    rw [hq] at hmod
    have hlt : (c.tmod b).natAbs < b.natAbs := by
      rw [Int.natAbs_tmod]
      exact Nat.mod_lt _ (by omega)
    have hcomm : b * a = a * b := Int.mul_comm b a
    rw [hcomm] at hmod
    have hk0 : k = 0 := by omega
    rw [hk0] at hk
    unfold InR
    omega
set_option maxRecDepth 100000 in
theorem prod_call (a b : Int) (ha : InR a) (hb : InR b) : PCall Tryz.prog 161 [i64V a, i64V b] (calcR (a * b)) := by
  have hmb := @mul_back a b ha hb
  refine scall_of (live := []) (ords := [(3, [])]) Tryz.func161 rfl (by kernel_rfl) (by kernel_rfl) (Nat.le_of_ble_eq_true rfl) ?_
  have hz : a = 0 ∨ b = 0 → V.tup [i64V 0, bV true] = calcR (a * b) := fun h => by
    have : a * b = 0 := by rcases h with rfl | rfl <;> simp
    rw [this]; exact calc_t (by unfold InR; omega)
  (conv=>arg 2;whnf);refine wp_ite (fun h1 => ?_) (fun h1 => ?_)
  · have h1 : a = 0 := by simpa using h1
    (repeat ((conv=>arg 2;whnf);first|refine wp_it rfl ?_|refine wp_if rfl ?_))
    (conv=>arg 2;whnf);refine w_ret2 rfl (Vle.refl _) (Vle.refl _) (List.nil_sublist _) (hz (.inl h1))
  have h1 : a ≠ 0 := by simpa using h1
  (conv=>arg 2;whnf);refine wp_ite (fun h2 => ?_) (fun h2 => ?_)
  · have h2 : b = 0 := by simpa using h2
    (conv=>arg 2;whnf);refine w_ret2 rfl (Vle.refl _) (Vle.refl _) (List.nil_sublist _) (hz (.inr h2))
  have h2 : b ≠ 0 := by simpa using h2
  have hmb := hmb h2
  have hno : ¬ InR (a * b) → V.tup [i64V 0, bV false] = calcR (a * b) := calc_f
  (conv=>arg 2;whnf);refine wp_cutR (frL [(0, i64V a), (1, i64V b)]) [] (.cons (.refl _) (.cons (.refl _) (.nil _))) (List.nil_sublist _) ?_
  (conv=>arg 2;whnf);refine wp_need h2 ?_
  (conv=>arg 2;whnf);refine wp_ite (fun h3 => ?_) (fun h3 => ?_)
  · have h3 : ¬ IntKind.i64.wrap ((IntKind.i64.wrap (a * b)).tdiv b) = a := by simpa using h3
    (repeat ((conv=>arg 2;whnf);first|refine wp_it rfl ?_|refine wp_if rfl ?_))
    (conv=>arg 2;whnf);refine w_ret2 rfl (Vle.refl _) (Vle.refl _) (List.nil_sublist _) (hno fun h => h3 (hmb.1 h).1)
  have h3 : IntKind.i64.wrap ((IntKind.i64.wrap (a * b)).tdiv b) = a := by simpa using h3
  (conv=>arg 2;whnf);refine wp_ite (fun h4 => ?_) (fun h4 => ?_)
  · have h4 : a = -1 := by simpa using h4
    (conv=>arg 2;whnf);refine wp_ite (fun h5 => ?_) (fun h5 => ?_)
    · have h5 : b = -9223372036854775808 := by simpa using h5
      (repeat ((conv=>arg 2;whnf);first|refine wp_it rfl ?_|refine wp_if rfl ?_))
      (conv=>arg 2;whnf);refine w_ret2 rfl (Vle.refl _) (Vle.refl _) (List.nil_sublist _) (hno fun h => (hmb.1 h).2.1 ⟨h4, h5⟩)
    have h5 : b ≠ -9223372036854775808 := by simpa using h5
    (conv=>arg 2;whnf);refine wp_ite (fun h6 => ?_) (fun h6 => ?_)
    · have h6 : b = -1 := by simpa using h6
      (conv=>arg 2;whnf);refine wp_ite (fun h => absurd (show a = -9223372036854775808 by simpa using h) (by omega)) (fun _ => ?_)
      have hin := hmb.2 ⟨h3, fun h => h5 h.2, fun h => by omega⟩
      (conv=>arg 2;whnf);refine w_ret2 rfl (Vle.eq (cI64 (w_in hin))) (Vle.refl _) (List.nil_sublist _) (calc_t hin)
    have h6 : b ≠ -1 := by simpa using h6
    have hin := hmb.2 ⟨h3, fun h => h5 h.2, fun h => h6 h.1⟩
    (repeat ((conv=>arg 2;whnf);first|refine wp_it rfl ?_|refine wp_if rfl ?_))
    (conv=>arg 2;whnf);refine w_ret2 rfl (Vle.eq (cI64 (w_in hin))) (Vle.refl _) (List.nil_sublist _) (calc_t hin)
  have h4 : a ≠ -1 := by simpa using h4
  (repeat ((conv=>arg 2;whnf);first|refine wp_it rfl ?_|refine wp_if rfl ?_))
  (conv=>arg 2;whnf);refine wp_ite (fun h6 => ?_) (fun h6 => ?_)
  · have h6 : b = -1 := by simpa using h6
    (conv=>arg 2;whnf);refine wp_ite (fun h7 => ?_) (fun h7 => ?_)
    · have h7 : a = -9223372036854775808 := by simpa using h7
      (conv=>arg 2;whnf);refine w_ret2 rfl (Vle.refl _) (Vle.refl _) (List.nil_sublist _) (hno fun h => (hmb.1 h).2.2 ⟨h6, h7⟩)
    have h7 : a ≠ -9223372036854775808 := by simpa using h7
    have hin := hmb.2 ⟨h3, fun h => h4 h.1, fun h => h7 h.2⟩
    (conv=>arg 2;whnf);refine w_ret2 rfl (Vle.eq (cI64 (w_in hin))) (Vle.refl _) (List.nil_sublist _) (calc_t hin)
  have h6 : b ≠ -1 := by simpa using h6
  have hin := hmb.2 ⟨h3, fun h => h4 h.1, fun h => h6 h.1⟩
  (repeat ((conv=>arg 2;whnf);first|refine wp_it rfl ?_|refine wp_if rfl ?_))
  (conv=>arg 2;whnf);refine w_ret2 rfl (Vle.eq (cI64 (w_in hin))) (Vle.refl _) (List.nil_sublist _) (calc_t hin)
end Go.Sv
namespace Go.Sv
open Go Go.Proofs
def errV : Option Nat → Value
  | none => .nilIface
  | some n => .iface 94 (.int .i64 n)
end Go.Sv
