/- Parts of the proof, one behind the other. -/
import Derived.Test.YtonnbjcbjjigiaaGreatMgRowStepQuota4
import Derived.Test.YtonnbjcbjjigiaaGreatProg
import Derived.LaidEql
import Derived.Stop.Asserts
import Derived.RowKitTokens
namespace Go.Sv
open Go Go.Proofs
theorem idx_hit {α : Type} {q : α → Bool} {l : List α} {n : Nat} {y : α} (h : (l.take n).any q = false) (hy : l[n]? = some y) (hq : q y = true) : idxI q l = n := by
  have hs : l = l.take n ++ y :: l.drop (n + 1) := by rw [← drop_at hy, List.take_append_drop]
  have hn := (List.getElem?_eq_some_iff.1 hy).1
  have ha : l.any q = true := by rw [hs]; simp [hq]
  have hf : l.findIdx q = n := by
    rw [hs, List.findIdx_append]
    have h1 : List.findIdx q (l.take n) = (l.take n).length := List.findIdx_eq_length.2 fun x hx => by
      have := List.any_eq_false.1 h x hx
      simpa using this
    rw [h1, List.length_take, Nat.min_eq_left (Nat.le_of_lt hn), if_neg (by omega), List.findIdx_cons, hq]
    simp
  rw [idxI, if_pos ha, hf]
theorem idx_none {α : Type} {q : α → Bool} {l : List α} (h : l.any q = false) : idxI q l = -1 := by rw [idxI, h]; rfl
theorem any_next {α : Type} {q : α → Bool} {l : List α} {n : Nat} {y : α} (h : (l.take n).any q = false) (hy : l[n]? = some y) (hq : q y = false) : (l.take (n + 1)).any q = false := by
  rw [List.take_add_one, hy, List.any_append, h]
  simp [hq]
theorem find_idx {α : Type} {q : α → Bool} : ∀ {l : List α}, l.any q = true → l.find? q = l[l.findIdx q]?
  | [], h => by cases h
  | x :: l, h => by
    cases hq : q x with
    | true => simp [hq, List.findIdx_cons]
    | false =>
      have := find_idx (l := l) (by simpa [hq] using h)
      simp [hq, List.findIdx_cons, this]
theorem idx_get {α : Type} {q : α → Bool} {l : List α} (h : l.any q = true) : ∃ y, l[l.findIdx q]? = some y ∧ l.find? q = some y ∧ l.findIdx q < l.length := by
  have hlt : l.findIdx q < l.length := List.findIdx_lt_length.2 (by obtain ⟨x, hx, hq⟩ := List.any_eq_true.1 h; exact ⟨x, hx, hq⟩)
  exact ⟨l[l.findIdx q], List.getElem?_eq_getElem hlt, by rw [find_idx h, List.getElem?_eq_getElem hlt], hlt⟩
theorem find_none {α : Type} {q : α → Bool} {l : List α} (h : l.any q = false) : l.find? q = none := by
  rw [List.find?_eq_none]
  exact fun x hx => List.any_eq_false.1 h x hx
set_option maxRecDepth 100000 in
theorem indexty_call (g : FuncId) (caps : List V) (q : Ty → Bool) (l : List Ty) (hl : l.length < 2 ^ 60) (hq : ∀ x ∈ l, PCall Tryz.prog g (tyV x :: caps) (bV (q x))) : PCall Tryz.prog 128 [tysV l, .fn (.func g) [] caps] (i64V (idxI q l)) := by
  refine scall_of (live := []) (ords := []) Tryz.func128 rfl (by kernel_rfl) (by kernel_rfl) (Nat.le_of_ble_eq_true rfl) ?_
  (conv=>arg 2;whnf);refine wp_loop (fun m fr R => ∃ n : Nat, m = l.length - n ∧ n ≤ l.length ∧ R = [] ∧ (l.take n).any q = false ∧ fr = frL [(0, tysV l), (1, .fn (.func g) [] caps), (7, i64V l.length), (8, i64V n)])
    l.length _ _ (.cons (.refl _) (.cons (.refl _) (.cons (Vle.eq ?_) (.cons (.refl _) (.nil _))))) (List.Sublist.refl _) ⟨0, rfl, Nat.zero_le _, rfl, rfl, rfl⟩ ?_
  · show V.c (.int .i64 (l.map tyV).length) = _
    rw [List.length_map]; rfl
  rintro m fr R ⟨n, rfl, hn, rfl, ha, rfl⟩
  (conv=>arg 2;whnf);refine wp_ite (fun h => ?_) (fun h => ?_)
  · have h : n < l.length := by have := of_decide_eq_true h; omega
    obtain ⟨y, hy⟩ : ∃ y, l[n]? = some y := ⟨_, List.getElem?_eq_getElem h⟩
    have hc := hq y (List.mem_of_getElem? hy)
    (conv=>arg 2;whnf);refine wp_elem n (tyV y) rfl (by rw [List.getElem?_map, hy]; rfl) (Vle.refl _) ?_
    (conv=>arg 2;whnf);refine wp_pcall hc ?_
    (conv=>arg 2;whnf);refine wp_ite (fun h1 => ?_) (fun h1 => ?_)
    · (conv=>arg 2;whnf)
      refine wp_leaf (loop_ret ?_)
      (conv=>arg 2;whnf);refine w_retp rfl (Vle.eq (cI64 (idx_hit ha hy h1).symm))
    · (conv=>arg 2;whnf)
      refine wp_leaf (loop_next (l.length - (n + 1)) _ _ (by omega) (.cons (.refl _) (.cons (.refl _) (.cons (.refl _) (.cons (Vle.inc n rfl (by omega)) (.nil _))))) (List.Sublist.refl _) ⟨n + 1, rfl, h, rfl, any_next ha hy h1, rfl⟩)
  · have h : n = l.length := by have := of_decide_eq_false h; omega
    subst h
    rw [List.take_length] at ha
    (conv=>arg 2;whnf)
    refine wp_leaf (loop_exit ?_)
    (conv=>arg 2;whnf);refine w_retp rfl (Vle.eq (cI64 (idx_none ha).symm))
set_option maxRecDepth 100000 in
theorem indexfd_call (g : FuncId) (caps : List V) (q : Fd → Bool) (l : List Fd) (hl : l.length < 2 ^ 60) (hq : ∀ x ∈ l, PCall Tryz.prog g (fdV x :: caps) (bV (q x))) : PCall Tryz.prog 130 [fdsV l, .fn (.func g) [] caps] (i64V (idxI q l)) := by
  refine scall_of (live := []) (ords := []) Tryz.func130 rfl (by kernel_rfl) (by kernel_rfl) (Nat.le_of_ble_eq_true rfl) ?_
  (conv=>arg 2;whnf);refine wp_loop (fun m fr R => ∃ n : Nat, m = l.length - n ∧ n ≤ l.length ∧ R = [] ∧ (l.take n).any q = false ∧ fr = frL [(0, fdsV l), (1, .fn (.func g) [] caps), (7, i64V l.length), (8, i64V n)])
    l.length _ _ (.cons (.refl _) (.cons (.refl _) (.cons (Vle.eq ?_) (.cons (.refl _) (.nil _))))) (List.Sublist.refl _) ⟨0, rfl, Nat.zero_le _, rfl, rfl, rfl⟩ ?_
  · show V.c (.int .i64 (l.map fdV).length) = _
    rw [List.length_map]; rfl
  rintro m fr R ⟨n, rfl, hn, rfl, ha, rfl⟩
  (conv=>arg 2;whnf);refine wp_ite (fun h => ?_) (fun h => ?_)
  · have h : n < l.length := by have := of_decide_eq_true h; omega
    obtain ⟨y, hy⟩ : ∃ y, l[n]? = some y := ⟨_, List.getElem?_eq_getElem h⟩
    have hc := hq y (List.mem_of_getElem? hy)
    (conv=>arg 2;whnf);refine wp_elem n (fdV y) rfl (by rw [List.getElem?_map, hy]; rfl) (Vle.refl _) ?_
    (conv=>arg 2;whnf);refine wp_pcall hc ?_
    (conv=>arg 2;whnf);refine wp_ite (fun h1 => ?_) (fun h1 => ?_)
    · (conv=>arg 2;whnf)
      refine wp_leaf (loop_ret ?_)
      (conv=>arg 2;whnf);refine w_retp rfl (Vle.eq (cI64 (idx_hit ha hy h1).symm))
    · (conv=>arg 2;whnf)
      refine wp_leaf (loop_next (l.length - (n + 1)) _ _ (by omega) (.cons (.refl _) (.cons (.refl _) (.cons (.refl _) (.cons (Vle.inc n rfl (by omega)) (.nil _))))) (List.Sublist.refl _) ⟨n + 1, rfl, h, rfl, any_next ha hy h1, rfl⟩)
  · have h : n = l.length := by have := of_decide_eq_false h; omega
    subst h
    rw [List.take_length] at ha
    (conv=>arg 2;whnf)
    refine wp_leaf (loop_exit ?_)
    (conv=>arg 2;whnf);refine w_retp rfl (Vle.eq (cI64 (idx_none ha).symm))
set_option maxRecDepth 100000 in
theorem find1_call (t : Ty) (n : List UInt8) : PCall Tryz.prog 129 [tyV t, .pt none (str n) 0] (bV (decide (t.name = n))) := by
  refine scall_of (live := []) (ords := []) Tryz.func129 rfl (by kernel_rfl) (by kernel_rfl) (Nat.le_of_ble_eq_true rfl) ?_
  (conv=>arg 2;whnf);refine w_retp rfl (Vle.eq (cBool (strEq _ _)))
set_option maxRecDepth 100000 in
theorem field1_call (t : Fd) (n : List UInt8) : PCall Tryz.prog 131 [fdV t, .pt none (str n) 0] (bV (decide (t.name = n))) := by
  refine scall_of (live := []) (ords := []) Tryz.func131 rfl (by kernel_rfl) (by kernel_rfl) (Nat.le_of_ble_eq_true rfl) ?_
  (conv=>arg 2;whnf);refine w_retp rfl (Vle.eq (cBool (strEq _ _)))
def tyZ : List V := [str [], .sl none [] .zero]
theorem tyZ_vle : VleL tyZ (tyC ty0) := .cons (.refl _) (.cons (Vle.nil _ _ _) .nil)
theorem tys_at {s : Sc} {n : Nat} {t : Ty} (h : s[n]? = some t) : (s.map tyV)[n]? = some (.agg (tyC t)) := by rw [List.getElem?_map, h]; rfl
set_option maxRecDepth 100000 in
theorem findT_call (s : Sc) (hs : s.length < 2 ^ 60) (n : List UInt8) : PCall Tryz.prog 122 [scV s, str n] (findR (findT s n)) := by
  have f1 := indexty_call 129 [.pt none (str n) 0] (fun t => decide (t.name = n)) s hs fun x _ => find1_call x n
  refine scall_of (live := []) (ords := []) Tryz.func122 rfl (by kernel_rfl) (by kernel_rfl) (Nat.le_of_ble_eq_true rfl) ?_
  cases ha : s.any (fun t => decide (t.name = n)) with
  | false =>
    rw [idx_none ha] at f1
    have hr : findT s n = none := find_none ha
    (conv=>arg 2;whnf);refine wp_allocE tyZ rfl fun c => ?_
    (conv=>arg 2;whnf);refine wp_pcall f1 ?_
    (repeat ((conv=>arg 2;whnf);first|refine wp_it rfl ?_|refine wp_if rfl ?_))
    (conv=>arg 2;whnf);refine wp_storeE (cs := tyZ) 0 0 (tyC ty0) rfl rfl tyZ_vle (Nat.le_refl _) rfl (R' := [.obj c (tyC ty0)]) rfl ?_
    (conv=>arg 2;whnf);refine w_ret2ck (R' := []) (a := tyV ty0) (u := bV false) c 0 0 rfl rfl rfl rfl rfl (Vle.refl _) (Vle.refl _) (List.nil_sublist _) (by rw [hr]; rfl)
  | true =>
    obtain ⟨t, h1, h2, h3⟩ := idx_get ha
    rw [idxI, if_pos ha] at f1
    obtain ⟨i, hi⟩ : ∃ i, i = s.findIdx fun t => decide (t.name = n) := ⟨_, rfl⟩
    rw [← hi] at f1 h1
    have hr : findT s n = some t := h2
    have h0 : decide ((i : Int) < 0) = false := decide_eq_false (by omega)
    (conv=>arg 2;whnf);refine wp_allocE tyZ rfl fun c => ?_
    (conv=>arg 2;whnf);refine wp_pcall f1 ?_
    (conv=>arg 2;whnf);refine wp_if h0 ?_
    (conv=>arg 2;whnf);refine wp_elem i (tyV t) rfl (tys_at h1) (Vle.refl _) ?_
    (conv=>arg 2;whnf);refine wp_storeE (cs := tyZ) 0 0 (tyC t) rfl rfl (VleL.refl _) (Nat.le_refl _) rfl (R' := [.obj c (tyC t)]) rfl ?_
    (conv=>arg 2;whnf);refine w_ret2ck (R' := []) (a := tyV t) (u := bV true) c 0 0 rfl rfl rfl rfl rfl (Vle.refl _) (Vle.refl _) (List.nil_sublist _) (by rw [hr]; rfl)
set_option maxRecDepth 100000 in
theorem fieldI_call (t : Ty) (ht : t.flds.length < 2 ^ 60) (n : List UInt8) : PCall Tryz.prog 123 [tyV t, str n] (i64V (fieldI t n)) := by
  have f1 := indexfd_call 131 [.pt none (str n) 0] (fun f => decide (f.name = n)) t.flds ht fun x _ => field1_call x n
  refine scall_of (live := []) (ords := []) Tryz.func123 rfl (by kernel_rfl) (by kernel_rfl) (Nat.le_of_ble_eq_true rfl) ?_
  (conv=>arg 2;whnf);refine wp_pcall f1 ?_
  (conv=>arg 2;whnf);refine w_retp rfl (Vle.refl _)
def ScOk (s : Sc) : Prop := s.length < 2 ^ 60 ∧ ∀ t ∈ s, t.flds.length < 2 ^ 60
theorem findT_mem {s : Sc} {n : List UInt8} {t : Ty} (h : findT s n = some t) : t ∈ s := List.mem_of_find?_eq_some h
theorem vals_at {l : List Val} {n : Nat} {v : Val} (h : l[n]? = some v) : (l.map valV)[n]? = some (.agg (valL v)) := by rw [List.getElem?_map, h]; rfl
def valZ : List V := valL val0
set_option maxRecDepth 100000 in
theorem getV_call (s : Sc) (hs : ScOk s) (e : Ev) (f : List UInt8) : PCall Tryz.prog 114 [scV s, evV e, str f] (getR (getV s e f)) := by
  have f1 := findT_call s hs.1 e.ty
  refine scall_of (live := []) (ords := [(3, [])]) Tryz.func114 rfl (by kernel_rfl) (by kernel_rfl) (Nat.le_of_ble_eq_true rfl) ?_
  cases ht : findT s e.ty with
  | none =>
    rw [ht] at f1
    have hr : getV s e f = none := by rw [getV, ht]
    have f2 := fieldI_call ty0 (by decide) f
    (conv=>arg 2;whnf);refine wp_allocE valZ rfl fun c => ?_
    (conv=>arg 2;whnf);refine wp_pcall f1 ?_
    (conv=>arg 2;whnf);refine wp_allocE tyZ rfl fun d => ?_
    (conv=>arg 2;whnf);refine wp_storeE (cs := tyZ) 1 0 (tyC ty0) rfl rfl (VleL.refl _) (Nat.le_refl _) rfl (R' := [.obj c valZ, .obj d (tyC ty0)]) rfl ?_
    (conv=>arg 2;whnf);refine wp_load (cs := tyC ty0) 1 rfl rfl ?_
    (conv=>arg 2;whnf);refine wp_pcall f2 ?_
    refine wp_cutR (frL [(6, .loc c 0), (9, bV false), (10, i64V (fieldI ty0 f))]) [.obj c valZ] (.cons (.refl _) (.cons (.refl _) (.cons (.refl _) (.nil _)))) (by simp) ?_
    (repeat ((conv=>arg 2;whnf);first|refine wp_it rfl ?_|refine wp_if rfl ?_))
    (conv=>arg 2;whnf);refine wp_storeE (cs := valZ) 0 0 (valL val0) rfl rfl (VleL.refl _) (Nat.le_refl _) rfl (R' := [.obj c (valL val0)]) rfl ?_
    (conv=>arg 2;whnf);refine w_ret2ck (R' := []) (a := valV val0) (u := bV false) c 0 0 rfl rfl rfl rfl rfl (Vle.refl _) (Vle.refl _) (List.nil_sublist _) (by rw [hr]; rfl)
  | some t =>
    rw [ht] at f1
    have f2 := fieldI_call t (hs.2 t (findT_mem ht)) f
    have hr : getV s e f = if fieldI t f < 0 then none else e.vals[(fieldI t f).toNat]? := by rw [getV, ht]
    obtain ⟨i, hi⟩ : ∃ i, i = fieldI t f := ⟨_, rfl⟩
    rw [← hi] at f2 hr
    (conv=>arg 2;whnf);refine wp_allocE valZ rfl fun c => ?_
    (conv=>arg 2;whnf);refine wp_pcall f1 ?_
    (conv=>arg 2;whnf);refine wp_allocE tyZ rfl fun d => ?_
    (conv=>arg 2;whnf);refine wp_storeE (cs := tyZ) 1 0 (tyC t) rfl rfl (VleL.refl _) (Nat.le_refl _) rfl (R' := [.obj c valZ, .obj d (tyC t)]) rfl ?_
    (conv=>arg 2;whnf);refine wp_load (cs := tyC t) 1 rfl rfl ?_
    (conv=>arg 2;whnf);refine wp_pcall f2 ?_
    refine wp_cutR (frL [(4, .pt (some 3) (evV e) 0), (6, .loc c 0), (9, bV true), (10, i64V i)]) [.obj c valZ] (.cons (.refl _) (.cons (.refl _) (.cons (.refl _) (.cons (.refl _) (.nil _))))) (by simp) ?_
    (repeat ((conv=>arg 2;whnf);first|refine wp_it rfl ?_|refine wp_if rfl ?_))
    (conv=>arg 2;whnf);refine wp_ite (fun h1 => ?_) (fun h1 => ?_)
    · have h1 : i < 0 := of_decide_eq_true h1
      rw [if_pos h1] at hr
      (repeat ((conv=>arg 2;whnf);first|refine wp_it rfl ?_|refine wp_if rfl ?_))
      (conv=>arg 2;whnf);refine wp_storeE (cs := valZ) 0 0 (valL val0) rfl rfl (VleL.refl _) (Nat.le_refl _) rfl (R' := [.obj c (valL val0)]) rfl ?_
      (conv=>arg 2;whnf);refine w_ret2ck (R' := []) (a := valV val0) (u := bV false) c 0 0 rfl rfl rfl rfl rfl (Vle.refl _) (Vle.refl _) (List.nil_sublist _) (by rw [hr]; rfl)
    · have h1 : ¬ i < 0 := of_decide_eq_false h1
      rw [if_neg h1] at hr
      (conv=>arg 2;whnf);refine wp_ite (fun h2 => ?_) (fun h2 => ?_)
      · have h2 : i ≥ ((e.vals.map valV).length : Int) := of_decide_eq_true h2
        rw [List.length_map] at h2
        have hr2 : getV s e f = none := by rw [hr]; exact List.getElem?_eq_none (by omega)
        (conv=>arg 2;whnf);refine wp_storeE (cs := valZ) 0 0 (valL val0) rfl rfl (VleL.refl _) (Nat.le_refl _) rfl (R' := [.obj c (valL val0)]) rfl ?_
        (conv=>arg 2;whnf);refine w_ret2ck (R' := []) (a := valV val0) (u := bV false) c 0 0 rfl rfl rfl rfl rfl (Vle.refl _) (Vle.refl _) (List.nil_sublist _) (by rw [hr2]; rfl)
      · have h2 : ¬ i ≥ ((e.vals.map valV).length : Int) := of_decide_eq_false h2
        rw [List.length_map] at h2
        obtain ⟨v, hv⟩ : ∃ v, e.vals[i.toNat]? = some v := ⟨_, List.getElem?_eq_getElem (by omega)⟩
        have hr2 : getV s e f = some v := by rw [hr, hv]
        (conv=>arg 2;whnf);refine wp_elem i.toNat (valV v) (by omega) (vals_at hv) (Vle.refl _) ?_
        (conv=>arg 2;whnf);refine wp_storeE (cs := valZ) 0 0 (valL v) rfl rfl (VleL.refl _) (Nat.le_refl _) rfl (R' := [.obj c (valL v)]) rfl ?_
        (conv=>arg 2;whnf);refine w_ret2ck (R' := []) (a := valV v) (u := bV true) c 0 0 rfl rfl rfl rfl rfl (Vle.refl _) (Vle.refl _) (List.nil_sublist _) (by rw [hr2]; rfl)
end Go.Sv
namespace Go.Sv
open Go
def Pinned (L : List Res) (g g' : Gh) (w : World) : Prop := ∀ b cs, Res.obj b cs ∈ L → cs ≠ [] → ∃ vals : List Value, RelL g w cs vals ∧ (∀ o, cell w b o = vals[o]?) ∧ vals.length ≤ g'.cm b
def Pin (L : List Res) (v v' : V) : Prop := ∀ g g' w x, Pre g w g' w → Pinned L g g' w → RelV g w v x → RelV g' w v' x
theorem Pin.vle {L : List Res} {v v' : V} (h : Vle v v') : Pin L v v' := fun _ _ _ _ hp _ hx => RelV.mono hp _ _ (h _ _ _ hx)
theorem Pin.refl {L : List Res} (v : V) : Pin L v v := .vle (Vle.refl v)
theorem Pin.ptP {L : List Res} {sh : Option Nat} {b o off : Nat} {cs : List V} {u v : V} (hb : Res.obj b cs ∈ L) (hn : cs ≠ []) (hu : partOf sh cs o = some u) (hv : Pin L u v) (hle : o + width sh ≤ cs.length) : Pin L (.loc b (o + off)) (.pt sh v off) := by
  intro g g' w x hp hP hx
  simp only [RelV] at hx
  obtain ⟨vals, hl, hc, hm⟩ := hP b cs hb hn
  rw [relV_pt]
  have hlen := relL_length hl
  refine ⟨b, o, hx, by omega, ?_⟩
  have h1 := relE_part (l := vals.toArray) (by simpa using hl) hu
  have h2 : RelE g w sh u (fun i => cell w b (o + i)) := relE_congr h1 fun i _ => by simp [hc]
  cases sh with
  | none =>
    obtain ⟨y, e1, e2⟩ := h2
    exact ⟨y, e1, hv g g' w y hp hP e2⟩
  | some k =>
    obtain ⟨l, e1, e2, e3⟩ := h2
    exact ⟨l, e1, e2, hv g g' w _ hp hP e3⟩
theorem Pin.pt {L : List Res} {sh : Option Nat} {b o off : Nat} {cs : List V} {u v : V} (hb : Res.obj b cs ∈ L) (hn : cs ≠ []) (hu : partOf sh cs o = some u) (hv : Vle u v) (hle : o + width sh ≤ cs.length) : Pin L (.loc b (o + off)) (.pt sh v off) :=
  Pin.ptP hb hn hu (.vle hv) hle
theorem Pin.all {L : List Res} {k b : Nat} {cs cs' : List V} (hb : Res.obj b cs ∈ L) (hk : cs.length = k) (h0 : 0 < k) (hv : VleL cs cs') : Pin L (.loc b 0) (.pt (some k) (.agg cs') 0) := by
  subst hk
  exact Pin.pt (o := 0) (off := 0) (u := .agg cs) hb (by rintro rfl; simp at h0) (by simp [partOf]) (Vle.agg hv) (by simp [width])
theorem Pin.one {L : List Res} {b : Nat} {c c' : V} (hb : Res.obj b [c] ∈ L) (hv : Vle c c') : Pin L (.loc b 0) (.pt none c' 0) :=
  Pin.pt (o := 0) (off := 0) (u := c) hb (by simp) (by simp [partOf]) hv (by simp [width])
theorem Pin.row {L : List Res} {sh : Option Nat} {b o n cap : Nat} {cs xs : List V} (hb : Res.obj b cs ∈ L) (hn : xs.length = n) (hw : 0 < width sh) (hle : o + n * width sh ≤ cs.length) (h : Rows sh cs o xs) : Pin L (.lsl sh b o n cap) (.sl sh xs .no) := by
  intro g g' w x hp hP hx
  simp only [RelV] at hx ⊢
  obtain ⟨a, rfl, hc, ha⟩ := hx
  refine ⟨a, n, cap, rfl, hn.symm, hc, trivial, ?_⟩
  by_cases h0 : n = 0
  · left; exact List.eq_nil_of_length_eq_zero (by omega)
  · right
    have hn1 : 0 < n * width sh := Nat.mul_pos (by omega) hw
    have hne : cs ≠ [] := by rintro rfl; simp at hle; omega
    obtain ⟨vals, hl, hcell, hcm⟩ := hP b cs hb hne
    have hlen := relL_length hl
    have h1 : n ≤ n * width sh := Nat.le_mul_of_pos_right _ hw
    refine ⟨b, o, ha.resolve_left (by omega), by omega, ?_⟩
    exact RelXs.mono hp sh xs _ _ (fun i _ => hcell (o + i)) (rows_rel hl h)
theorem Pin.alls {L : List Res} {k b cap : Nat} {xs sp : List V} (hb : Res.obj b (rowC (some k) xs ++ sp) ∈ L) (hk : 0 < k) (h : ∀ x ∈ xs, ∃ cs, x = .agg cs ∧ cs.length = k) : Pin L (.lsl (some k) b 0 xs.length cap) (.sl (some k) xs .no) :=
  .row hb rfl hk (by
    have : (rowC (some k) xs).length = xs.length * k := by
      clear hk hb
      induction xs with
      | nil => simp [rowC]
      | cons x xs ih =>
        obtain ⟨ds, rfl, hl⟩ := h x (by simp)
        have := ih fun x hx => h x (by simp [hx])
        simp only [rowC] at this
        simp [rowC, aggC, this, hl, Nat.add_mul]; omega
    simp [width, this]) (by have := rows_some (k := k) (sp := sp) (xs := xs) (ys := []) h; simpa using this)
theorem Pin.oneP {L : List Res} {b : Nat} {c c' : V} (hb : Res.obj b [c] ∈ L) (hv : Pin L c c') : Pin L (.loc b 0) (.pt none c' 0) :=
  Pin.ptP (o := 0) (off := 0) (u := c) hb (by simp) (by simp [partOf]) hv (by simp [width])
theorem Pin.gotL {L : List Res} {v a b : V} (h : Pin L a b) (hv : v = a) : Pin L v b := by rw [hv]; exact h
def PinF (L : List Res) (fr fr' : Fr) : Prop := ∀ t, Pin L (fr t) (fr' t)
theorem PinF.nil {L : List Res} (fr : Fr) : PinF L fr (frL []) := fun _ => .vle (Vle.undef _)
theorem PinF.cons {L : List Res} {fr : Fr} {k : Nat} {v : V} {l : List (Nat × V)} (h : Pin L (fr k) v) (hs : PinF L fr (frL l)) : PinF L fr (frL ((k, v) :: l)) := fun t => by
  simp only [frL]
  cases e : Nat.beq t k with
  | true => rw [Nat.eq_of_beq_eq_true e]; exact h
  | false => exact hs t
theorem pins_core {w : World} {A : List Res} : ∀ (B : List Res) (g : Gh), Wf g w → RelR g w (A ++ B) → ∃ g', Pre g w g' w ∧ Pinned B g g' w ∧ After g w (A ++ B) g' w A
  | [], g, hw, hr => ⟨g, Pre.refl g w, fun b cs h => (by cases h), by rw [List.append_nil] at hr ⊢; exact After.refl hw hr⟩
  | x :: B, g, hw, hr => by
    have step : ∃ g1, Pre g w g1 w ∧ Pinned [x] g g1 w ∧ After g w (A ++ x :: B) g1 w (A ++ B) := by
      have he : (A ++ x :: B).eraseIdx A.length = A ++ B := by rw [List.eraseIdx_append_of_length_le (Nat.le_refl _)]; simp
      have hd : After g w (A ++ x :: B) g w (A ++ B) := by
        have hsub : (A ++ B).Sublist (A ++ x :: B) := by rw [← he]; exact List.eraseIdx_sublist _ _
        exact ⟨Ext.refl _ hw, ⟨fun y hy => hr.all y (hsub.subset hy), hr.nodup.sublist (blocks_sub hsub)⟩, fun b hb => .inl ((blocks_sub hsub).subset hb)⟩
      by_cases hx : ∃ b cs, x = .obj b cs ∧ cs ≠ []
      · obtain ⟨b, cs, rfl, hn⟩ := hx
        obtain ⟨g1, T, hA⟩ := frz_core (b := b) (cs := cs) (i := A.length) (R' := A ++ B) hw hr (by simp) (by rw [he]; exact FrzR.refl _)
        refine ⟨g1, T.pre, ?_, hA⟩
        intro b' cs' hm _
        rw [List.mem_singleton] at hm
        cases hm
        rcases T.cells with h | h
        · exact absurd h hn
        · exact h
      · exact ⟨g, Pre.refl g w, fun b cs hm hn => absurd ⟨b, cs, (List.mem_singleton.1 hm).symm, hn⟩ hx, hd⟩
    obtain ⟨g1, p1, q1, a1⟩ := step
    obtain ⟨g2, p2, q2, a2⟩ := pins_core B g1 a1.ext.wf a1.res
    refine ⟨g2, p1.trans p2, ?_, a1.trans a2⟩
    intro b cs hm hn
    rcases List.mem_cons.1 hm with rfl | hm
    · obtain ⟨vals, h1, h2, h3⟩ := q1 b cs (by simp) hn
      exact ⟨vals, h1, h2, Nat.le_trans h3 (p2.cmle b)⟩
    · obtain ⟨vals, e, fz, hh, hz, hl, hcm⟩ := obj_cons hn (hr.all (.obj b cs) (by simp [hm]))
      obtain ⟨vals2, h1, h2, h3⟩ := q2 b cs hm hn
      have hcell : ∀ o, cell w b o = vals.toList[o]? := fun o => by simp [cell, World.cell?, hh]
      refine ⟨vals.toList, hl, hcell, ?_⟩
      have : vals2 = vals.toList := List.ext_getElem? fun o => by rw [← h2, ← hcell]
      rw [← this]; exact h3
theorem UpdF.pins {fr fr' : Fr} (A B : List Res) (hf : PinF B fr fr') : UpdF fr (A ++ B) fr' A := by
  intro g w x hw hx hr
  obtain ⟨g', p, q, hA⟩ := pins_core B g hw hr
  exact ⟨g', hA, fun t => hf t g g' w _ p q (hx t)⟩
theorem UpdV.pins {v v' : V} (A B : List Res) (hf : Pin B v v') : UpdV v (A ++ B) v' A := by
  intro g w x hw hx hr
  obtain ⟨g', p, q, hA⟩ := pins_core B g hw hr
  exact ⟨g', hA, hf g g' w _ p q hx⟩
theorem wp_cutP {P : Program} {fr : Fr} {k : Fr → Tree} {Q : Exit → Fr → List Res → Prop} (fr1 : Fr) (A B : List Res) (h1 : PinF B fr fr1) (h : (k fr1).wp P A Q) : (Tree.cut fr k).wp P (A ++ B) Q := ⟨fr1, A, UpdF.pins A B h1, h⟩
end Go.Sv
namespace Go.Sv
open Go Go.Proofs
theorem find_hit {α : Type} {q : α → Bool} {l : List α} {n : Nat} {y : α} (h : (l.take n).any q = false) (hy : l[n]? = some y) (hq : q y = true) : l.find? q = some y := by
  have hs : l = l.take n ++ y :: l.drop (n + 1) := by rw [← drop_at hy, List.take_append_drop]
  rw [hs, List.find?_append, find_none h]
  simp [hq]
set_option maxRecDepth 100000 in
theorem rfind_call (s : Sc) (hs : s.length < 2 ^ 60) (nm : List UInt8) : PCall Tryz.prog 22 [scV s, str nm] (findR (findT s nm)) := by
  refine scall_of (live := []) (ords := []) Tryz.func22 rfl (by kernel_rfl) (by kernel_rfl) (Nat.le_of_ble_eq_true rfl) ?_
  (conv=>arg 2;whnf);refine wp_allocE tyZ rfl fun c => ?_
  (conv=>arg 2;whnf);refine wp_loop (fun m fr R => ∃ n : Nat, m = s.length - n ∧ n ≤ s.length ∧ R = [.obj c tyZ] ∧ (s.take n).any (fun t => decide (t.name = nm)) = false ∧ fr = frL [(1, str nm), (2, .pt (some 1) (scV s) 0), (4, .loc c 0), (6, i64V n)])
    s.length _ _ (.cons (.refl _) (.cons (.refl _) (.cons (.refl _) (.cons (.refl _) (.nil _))))) (List.Sublist.refl _) ⟨0, rfl, Nat.zero_le _, rfl, rfl, rfl⟩ ?_
  rintro m fr R ⟨n, rfl, hn, rfl, ha, rfl⟩
  (conv=>arg 2;whnf);refine wp_ite (fun h => ?_) (fun h => ?_)
  · have h : n < s.length := by
      have := of_decide_eq_true h
      rw [List.length_map] at this; omega
    obtain ⟨t, ht⟩ : ∃ t, s[n]? = some t := ⟨_, List.getElem?_eq_getElem h⟩
    (conv=>arg 2;whnf);refine wp_elem n (tyV t) rfl (tys_at ht) (Vle.refl _) ?_
    (conv=>arg 2;whnf);refine wp_ite (fun h1 => ?_) (fun h1 => ?_)
    · rw [strEq] at h1
      have hr : findT s nm = some t := find_hit ha ht h1
      (conv=>arg 2;whnf);refine wp_elem n (tyV t) rfl (tys_at ht) (Vle.refl _) ?_
      (conv=>arg 2;whnf);refine wp_storeE (cs := tyZ) 0 0 (tyC t) rfl rfl (VleL.refl _) (Nat.le_refl _) rfl (R' := [.obj c (tyC t)]) rfl ?_
      (conv=>arg 2;whnf)
      refine wp_leaf (loop_ret ?_)
      (conv=>arg 2;whnf);refine w_ret2ck (R' := []) (a := tyV t) (u := bV true) c 0 0 rfl rfl rfl rfl rfl (Vle.refl _) (Vle.refl _) (List.nil_sublist _) (by rw [hr]; rfl)
    · rw [strEq] at h1
      have hn' := any_next ha ht h1
      (conv=>arg 2;whnf)
      exact wp_leaf (loop_next (s.length - (n + 1)) _ [.obj c tyZ] (by omega) (.cons (.refl _) (.cons (.refl _) (.cons (.refl _) (.cons (Vle.inc n rfl (by omega)) (.nil _))))) (List.Sublist.refl _) ⟨n + 1, rfl, h, rfl, hn', rfl⟩)
  · have h : n = s.length := by
      have := of_decide_eq_false h
      rw [List.length_map] at this; omega
    rw [h, List.take_length] at ha
    have hr : findT s nm = none := find_none ha
    (conv=>arg 2;whnf)
    refine wp_leaf (loop_exit ?_)
    (conv=>arg 2;whnf);refine wp_storeE (cs := tyZ) 0 0 (tyC ty0) rfl rfl tyZ_vle (Nat.le_refl _) rfl (R' := [.obj c (tyC ty0)]) rfl ?_
    (conv=>arg 2;whnf);refine w_ret2ck (R' := []) (a := tyV ty0) (u := bV false) c 0 0 rfl rfl rfl rfl rfl (Vle.refl _) (Vle.refl _) (List.nil_sublist _) (by rw [hr]; rfl)
theorem fds_at {s : List Fd} {n : Nat} {t : Fd} (h : s[n]? = some t) : (s.map fdV)[n]? = some (.agg (fdC t)) := by rw [List.getElem?_map, h]; rfl
def fd0 : Fd := ⟨[], 0⟩
def kindsB (l : List Val) (f : List Fd) : Bool := (List.range l.length).all fun i => decide ((l.getD i val0).kind = (f.getD i fd0).kind)
def isEvI (s : Sc) (e : Ev) : Int :=
  match findT s e.ty with
  | none => 13
  | some t => if e.ts < 0 ∨ 1073741824 < e.ts ∨ e.vals.length ≠ t.flds.length then 10
    else if e.vals.all valIs then (if kindsB e.vals t.flds then 0 else 14) else 10
theorem all_next {α : Type} {q : α → Bool} {l : List α} {n : Nat} {y : α} (h : (l.take n).all q = true) (hy : l[n]? = some y) (hq : q y = true) : (l.take (n + 1)).all q = true := by
  rw [List.take_add_one, hy, List.all_append, h]
  simp [hq]
theorem all_miss {α : Type} {q : α → Bool} {l : List α} {n : Nat} {y : α} (hy : l[n]? = some y) (hq : q y = false) : l.all q = false := by
  rw [List.all_eq_false]
  exact ⟨y, List.mem_of_getElem? hy, by simp [hq]⟩
theorem rng_next {q : Nat → Bool} {n : Nat} (h : (List.range n).all q = true) (hq : q n = true) : (List.range (n + 1)).all q = true := by
  rw [List.range_succ, List.all_append, h]; simp [hq]
theorem rng_miss {q : Nat → Bool} {n m : Nat} (hm : n < m) (hq : q n = false) : (List.range m).all q = false := by
  rw [List.all_eq_false]
  exact ⟨n, List.mem_range.2 hm, by simp [hq]⟩
theorem getD_at {α : Type} {l : List α} {n : Nat} {y d : α} (h : l[n]? = some y) : l.getD n d = y := by rw [List.getD_eq_getElem?_getD, h]; rfl
set_option maxRecDepth 100000 in
set_option maxHeartbeats 1000000 in
theorem isevent_call (s : Sc) (hs : ScOk s) (e : Ev) (hv : e.vals.length < 2 ^ 60) (hval : ∀ v ∈ e.vals, v.s.length < 2 ^ 60) : PCall Tryz.prog 20 [scV s, evV e] (i64V (isEvI s e)) := by
  have f1 := rfind_call s hs.1 e.ty
  refine scall_of (live := []) (ords := [(2, [])]) Tryz.func20 rfl (by kernel_rfl) (by kernel_rfl) (Nat.le_of_ble_eq_true rfl) ?_
  cases ht : findT s e.ty with
  | none =>
    rw [ht] at f1
    have hr : isEvI s e = 13 := by rw [isEvI, ht]
    (conv=>arg 2;whnf);refine wp_pcall f1 ?_
    (conv=>arg 2;whnf);refine wp_allocE tyZ rfl fun d => ?_
    (conv=>arg 2;whnf);refine wp_storeE (cs := tyZ) 0 0 (tyC ty0) rfl rfl (VleL.refl _) (Nat.le_refl _) rfl (R' := [.obj d (tyC ty0)]) rfl ?_
    (conv=>arg 2;whnf)
    refine wp_cutP (frL [(6, bV false)]) [] [.obj d (tyC ty0)] (.cons (.refl _) (.nil _)) ?_
    (repeat ((conv=>arg 2;whnf);first|refine wp_it rfl ?_|refine wp_if rfl ?_))
    (conv=>arg 2;whnf);refine w_retp rfl (Vle.eq (cI64 hr.symm))
  | some t =>
    rw [ht] at f1
    have htl := hs.2 t (findT_mem ht)
    have hr : isEvI s e = if e.ts < 0 ∨ 1073741824 < e.ts ∨ e.vals.length ≠ t.flds.length then 10
      else if e.vals.all valIs then (if kindsB e.vals t.flds then 0 else 14) else 10 := by rw [isEvI, ht]
    (conv=>arg 2;whnf);refine wp_pcall f1 ?_
    (conv=>arg 2;whnf);refine wp_allocE tyZ rfl fun d => ?_
    (conv=>arg 2;whnf);refine wp_storeE (cs := tyZ) 0 0 (tyC t) rfl rfl (VleL.refl _) (Nat.le_refl _) rfl (R' := [.obj d (tyC t)]) rfl ?_
    (conv=>arg 2;whnf)
    refine wp_cutP (frL [(3, .pt (some 3) (evV e) 0), (5, .pt (some 2) (tyV t) 0), (6, bV true)]) [] [.obj d (tyC t)] (.cons (.refl _) (.cons (.all (List.Mem.head _) rfl (by decide) (VleL.refl _)) (.cons (.refl _) (.nil _)))) ?_
    (repeat ((conv=>arg 2;whnf);first|refine wp_it rfl ?_|refine wp_if rfl ?_))
    (conv=>arg 2;whnf);refine wp_ite (fun h1 => ?_) (fun h1 => ?_)
    · have h1 : e.ts < 0 := of_decide_eq_true h1
      rw [if_pos (.inl h1)] at hr
      (repeat ((conv=>arg 2;whnf);first|refine wp_it rfl ?_|refine wp_if rfl ?_))
      (conv=>arg 2;whnf);refine w_retp rfl (Vle.eq (cI64 hr.symm))
    · have h1 : ¬ e.ts < 0 := of_decide_eq_false h1
      (conv=>arg 2;whnf);refine wp_ite (fun h2 => ?_) (fun h2 => ?_)
      · have h2 : 1073741824 < e.ts := by have := of_decide_eq_true h2; omega
        rw [if_pos (.inr (.inl h2))] at hr
        (repeat ((conv=>arg 2;whnf);first|refine wp_it rfl ?_|refine wp_if rfl ?_))
        (conv=>arg 2;whnf);refine w_retp rfl (Vle.eq (cI64 hr.symm))
      · have h2 : ¬ 1073741824 < e.ts := by have := of_decide_eq_false h2; omega
        (conv=>arg 2;whnf);refine wp_ite (fun h3 => ?_) (fun h3 => ?_)
        · have h3 : e.vals.length ≠ t.flds.length := fun hc => by
            have := bne_iff_ne.1 h3
            rw [List.length_map, List.length_map, hc] at this
            exact this rfl
          rw [if_pos (.inr (.inr h3))] at hr
          (conv=>arg 2;whnf);refine w_retp rfl (Vle.eq (cI64 hr.symm))
        · have h3 : e.vals.length = t.flds.length := by
            have := bne_eq_false_iff_eq.1 h3
            rw [List.length_map, List.length_map] at this
            omega
          have hno : ¬ (e.ts < 0 ∨ 1073741824 < e.ts ∨ e.vals.length ≠ t.flds.length) := fun h => h.elim h1 fun h => h.elim h2 fun h => h h3
          rw [if_neg hno] at hr
          (conv=>arg 2;whnf);refine wp_loop (fun m fr R => ∃ n : Nat, m = e.vals.length - n ∧ n ≤ e.vals.length ∧ R = [] ∧ (e.vals.take n).all valIs = true ∧ fr = frL [(3, .pt (some 3) (evV e) 0), (5, .pt (some 2) (tyV t) 0), (7, i64V n)])
            e.vals.length _ _ (.cons (.refl _) (.cons (.refl _) (.cons (.refl _) (.nil _)))) (List.Sublist.refl _) ⟨0, rfl, Nat.zero_le _, rfl, rfl, rfl⟩ ?_
          rintro m fr R ⟨n, rfl, hn, rfl, ha, rfl⟩
          (conv=>arg 2;whnf);refine wp_ite (fun h => ?_) (fun h => ?_)
          · have h : n < e.vals.length := by
              have := of_decide_eq_true h
              rw [List.length_map] at this; omega
            obtain ⟨v, hvn⟩ : ∃ v, e.vals[n]? = some v := ⟨_, List.getElem?_eq_getElem h⟩
            have f3 := refvalue_call v (hval v (List.mem_of_getElem? hvn))
            (conv=>arg 2;whnf);refine wp_elem n (valV v) rfl (vals_at hvn) (Vle.refl _) ?_
            (conv=>arg 2;whnf);refine wp_pcall f3 ?_
            cases hi : valIs v with
            | false =>
              rw [all_miss hvn hi] at hr
              (repeat ((conv=>arg 2;whnf);first|refine wp_it rfl ?_|refine wp_if rfl ?_))
              (conv=>arg 2;whnf)
              refine wp_leaf (loop_ret ?_)
              (conv=>arg 2;whnf);refine w_retp rfl (Vle.eq (cI64 hr.symm))
            | true =>
              have hn' := all_next ha hvn hi
              (repeat ((conv=>arg 2;whnf);first|refine wp_it rfl ?_|refine wp_if rfl ?_))
              (conv=>arg 2;whnf)
              exact wp_leaf (loop_next (e.vals.length - (n + 1)) _ [] (by omega) (.cons (.refl _) (.cons (.refl _) (.cons (Vle.inc n rfl (by omega)) (.nil _)))) (List.Sublist.refl _) ⟨n + 1, rfl, h, rfl, hn', rfl⟩)
          · have h : n = e.vals.length := by
              have := of_decide_eq_false h
              rw [List.length_map] at this; omega
            rw [h, List.take_length] at ha
            rw [if_pos ha] at hr
            clear h ha hn
            (conv=>arg 2;whnf)
            refine wp_leaf (loop_exit ?_)
            (conv=>arg 2;whnf);refine wp_loop (fun m fr R => ∃ n : Nat, m = e.vals.length - n ∧ n ≤ e.vals.length ∧ R = [] ∧ (List.range n).all (fun i => decide ((e.vals.getD i val0).kind = (t.flds.getD i fd0).kind)) = true ∧ fr = frL [(3, .pt (some 3) (evV e) 0), (5, .pt (some 2) (tyV t) 0), (8, i64V n)])
              e.vals.length _ _ (.cons (.refl _) (.cons (.refl _) (.cons (.refl _) (.nil _)))) (List.Sublist.refl _) ⟨0, rfl, Nat.zero_le _, rfl, rfl, rfl⟩ ?_
            rintro m fr R ⟨n, rfl, hn, rfl, ha, rfl⟩
            (conv=>arg 2;whnf);refine wp_ite (fun h => ?_) (fun h => ?_)
            · have h : n < e.vals.length := by
                have := of_decide_eq_true h
                rw [List.length_map] at this; omega
              obtain ⟨v, hvn⟩ : ∃ v, e.vals[n]? = some v := ⟨_, List.getElem?_eq_getElem h⟩
              obtain ⟨f, hfn⟩ : ∃ f, t.flds[n]? = some f := ⟨_, List.getElem?_eq_getElem (by omega)⟩
              have hq : decide ((e.vals.getD n val0).kind = (t.flds.getD n fd0).kind) = decide (v.kind = f.kind) := by rw [getD_at hvn, getD_at hfn]
              (conv=>arg 2;whnf);refine wp_elem n (valV v) rfl (vals_at hvn) (Vle.refl _) ?_
              (conv=>arg 2;whnf);refine wp_elem n (fdV f) rfl (fds_at hfn) (Vle.refl _) ?_
              (conv=>arg 2;whnf);refine wp_ite (fun h5 => ?_) (fun h5 => ?_)
              · have h5 : decide (v.kind = f.kind) = false := decide_eq_false (bne_iff_ne.1 h5)
                have hk : kindsB e.vals t.flds = false := rng_miss h (hq.trans h5)
                rw [hk] at hr
                (conv=>arg 2;whnf)
                refine wp_leaf (loop_ret ?_)
                (conv=>arg 2;whnf);refine w_retp rfl (Vle.eq (cI64 hr.symm))
              · have h5 : decide (v.kind = f.kind) = true := decide_eq_true (bne_eq_false_iff_eq.1 h5)
                have hn' := rng_next ha (hq.trans h5)
                (conv=>arg 2;whnf)
                exact wp_leaf (loop_next (e.vals.length - (n + 1)) _ [] (by omega) (.cons (.refl _) (.cons (.refl _) (.cons (Vle.inc n rfl (by omega)) (.nil _)))) (List.Sublist.refl _) ⟨n + 1, rfl, h, rfl, hn', rfl⟩)
            · have h : n = e.vals.length := by
                have := of_decide_eq_false h
                rw [List.length_map] at this; omega
              rw [h] at ha
              have hk : kindsB e.vals t.flds = true := ha
              rw [hk, if_pos rfl] at hr
              (conv=>arg 2;whnf)
              refine wp_leaf (loop_exit ?_)
              (conv=>arg 2;whnf);refine w_retp rfl (Vle.eq (cI64 hr.symm))
end Go.Sv
namespace Go.Sv
open Go
def kp0 : Kp := ⟨0, ev0⟩
def bd0 : Bd := ⟨0, 0⟩
def RiseK (l : List Kp) : Prop := l.Pairwise fun a b => a.at_ < b.at_
def atE (l : List Kp) (i : Int) : Option Ev := (l.find? fun k => decide (k.at_ = i)).map (·.e)
def atR : Option Ev → V
  | some e => .tup [evV e, bV true]
  | none => .tup [evV ev0, bV false]
def nextE (p : Pa) (k : Nat) : Option Nat := (List.range p.els.length).find? fun i => decide (k < i) && !ntAt p.els i
def nextI (p : Pa) (k : Nat) : Int := match nextE p k with
  | some i => i
  | none => -1
def elAt (p : Pa) (k : Nat) : El := p.els.getD k el0
def boundE (p : Pa) (l : List Kp) (b : List Bd) (k : Nat) : List Bn :=
  b.filterMap fun x => if x.elem < k then (atE l x.at_).map fun e => ⟨(elAt p x.elem).al, e⟩ else none
def takesE (s : Sc) (p : Pa) (l : List Kp) (b : List Bd) (k : Nat) (e : Ev) : Bool :=
  (elAt p k).ty.contains e.ty && holdsE s (elAt p k).cond (boundE p l b k ++ [⟨(elAt p k).al, e⟩])
def alikeE (s : Sc) (p : Pa) (a b : Ev) : Bool :=
  decide (p.by_ = []) || (match getV s a p.by_, getV s b p.by_ with
    | some x, some y => decide (x = y)
    | _, _ => false)
def lastBd (b : List Bd) : Bd := b.getLastD bd0
def firstEv (l : List Kp) (b : List Bd) : Ev := (atE l (b.headD bd0).at_).getD ev0
def betw (l : List Kp) (i j : Int) : List Kp := l.filter fun k => decide (i < k.at_) && decide (k.at_ < j)
def guardE (s : Sc) (p : Pa) (l : List Kp) (b : List Bd) (x : Bd) : Bool :=
  (List.range x.elem).all fun k => decide (k ≤ (lastBd b).elem) || (betw l (lastBd b).at_ x.at_).all fun y => !(takesE s p l b k y.e && alikeE s p (firstEv l b) y.e)
def sameE (p : Pa) (b : List Bd) (x : Bd) : Bool := decide (x.elem = (lastBd b).elem) && (elAt p (lastBd b).elem).plus
def goesE (s : Sc) (p : Pa) (l : List Kp) (b : List Bd) (x : Bd) : Bool :=
  match atE l x.at_ with
  | none => false
  | some e =>
    if p.els.length ≤ x.elem then false
    else if b = [] then decide (x.elem = 0) && takesE s p l [] 0 e
    else if x.at_ ≤ (lastBd b).at_ then false
    else if sameE p b x = false ∧ nextI p (lastBd b).elem ≠ x.elem then false
    else if e.ts - (firstEv l b).ts > p.within then false
    else alikeE s p (firstEv l b) e && (takesE s p l b x.elem e && (sameE p b x || guardE s p l b x))
def prefE (s : Sc) (p : Pa) (l : List Kp) (b : List Bd) : Bool :=
  (List.range b.length).all (fun i => goesE s p l (b.take i) (b.getD i bd0)) && decide (0 < b.length)
end Go.Sv
namespace Go.Sv
open Go Go.Proofs
def InR (n : Int) : Prop := -9223372036854775808 ≤ n ∧ n < 9223372036854775808
theorem inI_t {n : Int} (h : InR n) : inI n = true := by rw [inI, decide_eq_true h.1, decide_eq_true h.2]; rfl
theorem inI_f {n : Int} (h : ¬ InR n) : inI n = false := by
  cases hn : inI n with
  | false => rfl
  | true =>
    rw [inI, Bool.and_eq_true] at hn
    exact absurd ⟨of_decide_eq_true hn.1, of_decide_eq_true hn.2⟩ h
def calcR (n : Int) : V := if inI n then .tup [i64V n, bV true] else .tup [i64V 0, bV false]
theorem calc_t {n : Int} (h : InR n) : V.tup [i64V n, bV true] = calcR n := by rw [calcR, inI_t h]; rfl
theorem calc_f {n : Int} (h : ¬ InR n) : V.tup [i64V 0, bV false] = calcR n := by rw [calcR, inI_f h]; rfl
theorem w_in {n : Int} (h : InR n) : IntKind.i64.wrap n = n := w_i64_small h.1 h.2
set_option maxRecDepth 100000 in
theorem sum_call (a b : Int) (ha : InR a) (hb : InR b) : PCall Tryz.prog 151 [i64V a, i64V b] (calcR (a + b)) := by
  unfold InR at ha hb
  refine scall_of (live := []) (ords := []) Tryz.func151 rfl (by kernel_rfl) (by kernel_rfl) (Nat.le_of_ble_eq_true rfl) ?_
  (conv=>arg 2;whnf);refine wp_ite (fun h1 => ?_) (fun h1 => ?_)
  · have h1 : b > 0 := of_decide_eq_true h1
    have w1 : IntKind.i64.wrap (9223372036854775807 - b) = 9223372036854775807 - b := w_in ⟨by omega, by omega⟩
    (conv=>arg 2;whnf);refine wp_ite (fun h2 => ?_) (fun h2 => ?_)
    · have h2 : a > IntKind.i64.wrap (9223372036854775807 - b) := of_decide_eq_true h2
      rw [w1] at h2
      (repeat ((conv=>arg 2;whnf);first|refine wp_it rfl ?_|refine wp_if rfl ?_))
      (conv=>arg 2;whnf);refine w_ret2 rfl (Vle.refl _) (Vle.refl _) (List.nil_sublist _) (calc_f fun h => by unfold InR at h; omega)
    · have h2 : ¬ a > IntKind.i64.wrap (9223372036854775807 - b) := of_decide_eq_false h2
      rw [w1] at h2
      (conv=>arg 2;whnf);refine wp_ite (fun h => absurd (of_decide_eq_true h) (show ¬ b < 0 by omega)) (fun _ => ?_)
      (repeat ((conv=>arg 2;whnf);first|refine wp_it rfl ?_|refine wp_if rfl ?_))
      (conv=>arg 2;whnf);refine w_ret2 rfl (Vle.eq (cI64 (w_in ⟨by omega, by omega⟩))) (Vle.refl _) (List.nil_sublist _) (calc_t ⟨by omega, by omega⟩)
  · have h1 : ¬ b > 0 := of_decide_eq_false h1
    (repeat ((conv=>arg 2;whnf);first|refine wp_it rfl ?_|refine wp_if rfl ?_))
    (conv=>arg 2;whnf);refine wp_ite (fun h2 => ?_) (fun h2 => ?_)
    · have h2 : b < 0 := of_decide_eq_true h2
      have w1 : IntKind.i64.wrap (-9223372036854775808 - b) = -9223372036854775808 - b := w_in ⟨by omega, by omega⟩
      (conv=>arg 2;whnf);refine wp_ite (fun h3 => ?_) (fun h3 => ?_)
      · have h3 : a < IntKind.i64.wrap (-9223372036854775808 - b) := of_decide_eq_true h3
        rw [w1] at h3
        (conv=>arg 2;whnf);refine w_ret2 rfl (Vle.refl _) (Vle.refl _) (List.nil_sublist _) (calc_f fun h => by unfold InR at h; omega)
      · have h3 : ¬ a < IntKind.i64.wrap (-9223372036854775808 - b) := of_decide_eq_false h3
        rw [w1] at h3
        (conv=>arg 2;whnf);refine w_ret2 rfl (Vle.eq (cI64 (w_in ⟨by omega, by omega⟩))) (Vle.refl _) (List.nil_sublist _) (calc_t ⟨by omega, by omega⟩)
    · have h2 : ¬ b < 0 := of_decide_eq_false h2
      (repeat ((conv=>arg 2;whnf);first|refine wp_it rfl ?_|refine wp_if rfl ?_))
      (conv=>arg 2;whnf);refine w_ret2 rfl (Vle.eq (cI64 (w_in ⟨by omega, by omega⟩))) (Vle.refl _) (List.nil_sublist _) (calc_t ⟨by omega, by omega⟩)
set_option maxRecDepth 100000 in
theorem diff_call (a b : Int) (ha : InR a) (hb : InR b) : PCall Tryz.prog 152 [i64V a, i64V b] (calcR (a - b)) := by
  unfold InR at ha hb
  refine scall_of (live := []) (ords := []) Tryz.func152 rfl (by kernel_rfl) (by kernel_rfl) (Nat.le_of_ble_eq_true rfl) ?_
  (conv=>arg 2;whnf);refine wp_ite (fun h1 => ?_) (fun h1 => ?_)
  · have h1 : b < 0 := of_decide_eq_true h1
    have w1 : IntKind.i64.wrap (9223372036854775807 + b) = 9223372036854775807 + b := w_in ⟨by omega, by omega⟩
    (conv=>arg 2;whnf);refine wp_ite (fun h2 => ?_) (fun h2 => ?_)
    · have h2 : a > IntKind.i64.wrap (9223372036854775807 + b) := of_decide_eq_true h2
      rw [w1] at h2
      (repeat ((conv=>arg 2;whnf);first|refine wp_it rfl ?_|refine wp_if rfl ?_))
      (conv=>arg 2;whnf);refine w_ret2 rfl (Vle.refl _) (Vle.refl _) (List.nil_sublist _) (calc_f fun h => by unfold InR at h; omega)
    · have h2 : ¬ a > IntKind.i64.wrap (9223372036854775807 + b) := of_decide_eq_false h2
      rw [w1] at h2
      (conv=>arg 2;whnf);refine wp_ite (fun h => absurd (of_decide_eq_true h) (show ¬ b > 0 by omega)) (fun _ => ?_)
      (repeat ((conv=>arg 2;whnf);first|refine wp_it rfl ?_|refine wp_if rfl ?_))
      (conv=>arg 2;whnf);refine w_ret2 rfl (Vle.eq (cI64 (w_in ⟨by omega, by omega⟩))) (Vle.refl _) (List.nil_sublist _) (calc_t ⟨by omega, by omega⟩)
  · have h1 : ¬ b < 0 := of_decide_eq_false h1
    (repeat ((conv=>arg 2;whnf);first|refine wp_it rfl ?_|refine wp_if rfl ?_))
    (conv=>arg 2;whnf);refine wp_ite (fun h2 => ?_) (fun h2 => ?_)
    · have h2 : b > 0 := of_decide_eq_true h2
      have w1 : IntKind.i64.wrap (-9223372036854775808 + b) = -9223372036854775808 + b := w_in ⟨by omega, by omega⟩
      (conv=>arg 2;whnf);refine wp_ite (fun h3 => ?_) (fun h3 => ?_)
      · have h3 : a < IntKind.i64.wrap (-9223372036854775808 + b) := of_decide_eq_true h3
        rw [w1] at h3
        (conv=>arg 2;whnf);refine w_ret2 rfl (Vle.refl _) (Vle.refl _) (List.nil_sublist _) (calc_f fun h => by unfold InR at h; omega)
      · have h3 : ¬ a < IntKind.i64.wrap (-9223372036854775808 + b) := of_decide_eq_false h3
        rw [w1] at h3
        (conv=>arg 2;whnf);refine w_ret2 rfl (Vle.eq (cI64 (w_in ⟨by omega, by omega⟩))) (Vle.refl _) (List.nil_sublist _) (calc_t ⟨by omega, by omega⟩)
    · have h2 : ¬ b > 0 := of_decide_eq_false h2
      (repeat ((conv=>arg 2;whnf);first|refine wp_it rfl ?_|refine wp_if rfl ?_))
      (conv=>arg 2;whnf);refine w_ret2 rfl (Vle.eq (cI64 (w_in ⟨by omega, by omega⟩))) (Vle.refl _) (List.nil_sublist _) (calc_t ⟨by omega, by omega⟩)
theorem mul_back {a b : Int} (ha : InR a) (hb : InR b) (h0 : b ≠ 0) : InR (a * b) ↔ (IntKind.i64.wrap ((IntKind.i64.wrap (a * b)).tdiv b) = a ∧ ¬ (a = -1 ∧ b = -9223372036854775808) ∧ ¬ (b = -1 ∧ a = -9223372036854775808)) := by
  unfold InR at ha hb
  constructor
  · intro h
    have hw : IntKind.i64.wrap (a * b) = a * b := w_in h
    have hd : (a * b).tdiv b = a := Int.mul_tdiv_cancel a h0
    refine ⟨?_, ?_, ?_⟩
    · rw [hw, hd]; exact w_in ha
    · rintro ⟨rfl, rfl⟩
      unfold InR at h
      omega
    · rintro ⟨rfl, rfl⟩
      unfold InR at h
      omega
  · rintro ⟨h1, h2, h3⟩
    obtain ⟨c, hc⟩ : ∃ c, c = IntKind.i64.wrap (a * b) := ⟨_, rfl⟩
    have hcr : InR c := by rw [hc, w_i64]; unfold InR; omega
    have hcm : ∃ k : Int, c = a * b + k * 18446744073709551616 := by
      refine ⟨-((a * b + 9223372036854775808) / 18446744073709551616), ?_⟩
      rw [hc, w_i64]
      have := Int.emod_add_mul_ediv (a * b + 9223372036854775808) 18446744073709551616
      omega
    rw [← hc] at h1
    unfold InR at hcr
    have hb1 : b.natAbs ≠ 0 := by omega
    -- the quotient itself
    have hq : (c.tdiv b) = a := by
      by_cases hm : c = -9223372036854775808 ∧ b = -1
      · obtain ⟨rfl, rfl⟩ := hm
        exfalso
        apply h3
        refine ⟨rfl, ?_⟩
        rw [← h1]
        decide
      · have hr : InR (c.tdiv b) := by
          unfold InR
          have h4 : (c.tdiv b).natAbs = c.natAbs / b.natAbs := Int.natAbs_tdiv c b
          by_cases hb2 : b.natAbs = 1
          · have hb3 : b = 1 ∨ b = -1 := by omega
            rcases hb3 with rfl | rfl
            · rw [Int.tdiv_one]; omega
            · rw [Int.tdiv_neg, Int.tdiv_one]
              have : c ≠ -9223372036854775808 := fun h => hm ⟨h, rfl⟩
              omega
          · have : c.natAbs / b.natAbs ≤ c.natAbs / 2 := Nat.div_le_div_left (by omega) (by omega)
            omega
        rw [← w_in hr]; exact h1
    obtain ⟨k, hk⟩ := hcm
    have hmod := Int.mul_tdiv_add_tmod c b
    rw [hq] at hmod
    have hlt : (c.tmod b).natAbs < b.natAbs := by
      rw [Int.natAbs_tmod]
      exact Nat.mod_lt _ (by omega)
    have hcomm : b * a = a * b := Int.mul_comm b a
    rw [hcomm] at hmod
    have hk0 : k = 0 := by omega
    rw [hk0] at hk
    unfold InR
    omega
set_option maxRecDepth 100000 in
theorem prod_call (a b : Int) (ha : InR a) (hb : InR b) : PCall Tryz.prog 153 [i64V a, i64V b] (calcR (a * b)) := by
  have hmb := @mul_back a b ha hb
  refine scall_of (live := []) (ords := [(3, [])]) Tryz.func153 rfl (by kernel_rfl) (by kernel_rfl) (Nat.le_of_ble_eq_true rfl) ?_
  have hz : a = 0 ∨ b = 0 → V.tup [i64V 0, bV true] = calcR (a * b) := fun h => by
    have : a * b = 0 := by rcases h with rfl | rfl <;> simp
    rw [this]; exact calc_t (by unfold InR; omega)
  (conv=>arg 2;whnf);refine wp_ite (fun h1 => ?_) (fun h1 => ?_)
  · have h1 : a = 0 := by simpa using h1
    (repeat ((conv=>arg 2;whnf);first|refine wp_it rfl ?_|refine wp_if rfl ?_))
    (conv=>arg 2;whnf);refine w_ret2 rfl (Vle.refl _) (Vle.refl _) (List.nil_sublist _) (hz (.inl h1))
  have h1 : a ≠ 0 := by simpa using h1
  (conv=>arg 2;whnf);refine wp_ite (fun h2 => ?_) (fun h2 => ?_)
  · have h2 : b = 0 := by simpa using h2
    (conv=>arg 2;whnf);refine w_ret2 rfl (Vle.refl _) (Vle.refl _) (List.nil_sublist _) (hz (.inr h2))
  have h2 : b ≠ 0 := by simpa using h2
  have hmb := hmb h2
  have hno : ¬ InR (a * b) → V.tup [i64V 0, bV false] = calcR (a * b) := calc_f
  (conv=>arg 2;whnf);refine wp_cutR (frL [(0, i64V a), (1, i64V b)]) [] (.cons (.refl _) (.cons (.refl _) (.nil _))) (List.nil_sublist _) ?_
  (conv=>arg 2;whnf);refine wp_need h2 ?_
  (conv=>arg 2;whnf);refine wp_ite (fun h3 => ?_) (fun h3 => ?_)
  · have h3 : ¬ IntKind.i64.wrap ((IntKind.i64.wrap (a * b)).tdiv b) = a := by simpa using h3
    (repeat ((conv=>arg 2;whnf);first|refine wp_it rfl ?_|refine wp_if rfl ?_))
    (conv=>arg 2;whnf);refine w_ret2 rfl (Vle.refl _) (Vle.refl _) (List.nil_sublist _) (hno fun h => h3 (hmb.1 h).1)
  have h3 : IntKind.i64.wrap ((IntKind.i64.wrap (a * b)).tdiv b) = a := by simpa using h3
  (conv=>arg 2;whnf);refine wp_ite (fun h4 => ?_) (fun h4 => ?_)
  · have h4 : a = -1 := by simpa using h4
    (conv=>arg 2;whnf);refine wp_ite (fun h5 => ?_) (fun h5 => ?_)
    · have h5 : b = -9223372036854775808 := by simpa using h5
      (repeat ((conv=>arg 2;whnf);first|refine wp_it rfl ?_|refine wp_if rfl ?_))
      (conv=>arg 2;whnf);refine w_ret2 rfl (Vle.refl _) (Vle.refl _) (List.nil_sublist _) (hno fun h => (hmb.1 h).2.1 ⟨h4, h5⟩)
    have h5 : b ≠ -9223372036854775808 := by simpa using h5
    (conv=>arg 2;whnf);refine wp_ite (fun h6 => ?_) (fun h6 => ?_)
    · have h6 : b = -1 := by simpa using h6
      (conv=>arg 2;whnf);refine wp_ite (fun h => absurd (show a = -9223372036854775808 by simpa using h) (by omega)) (fun _ => ?_)
      have hin := hmb.2 ⟨h3, fun h => h5 h.2, fun h => by omega⟩
      (conv=>arg 2;whnf);refine w_ret2 rfl (Vle.eq (cI64 (w_in hin))) (Vle.refl _) (List.nil_sublist _) (calc_t hin)
    have h6 : b ≠ -1 := by simpa using h6
    have hin := hmb.2 ⟨h3, fun h => h5 h.2, fun h => h6 h.1⟩
    (repeat ((conv=>arg 2;whnf);first|refine wp_it rfl ?_|refine wp_if rfl ?_))
    (conv=>arg 2;whnf);refine w_ret2 rfl (Vle.eq (cI64 (w_in hin))) (Vle.refl _) (List.nil_sublist _) (calc_t hin)
  have h4 : a ≠ -1 := by simpa using h4
  (repeat ((conv=>arg 2;whnf);first|refine wp_it rfl ?_|refine wp_if rfl ?_))
  (conv=>arg 2;whnf);refine wp_ite (fun h6 => ?_) (fun h6 => ?_)
  · have h6 : b = -1 := by simpa using h6
    (conv=>arg 2;whnf);refine wp_ite (fun h7 => ?_) (fun h7 => ?_)
    · have h7 : a = -9223372036854775808 := by simpa using h7
      (conv=>arg 2;whnf);refine w_ret2 rfl (Vle.refl _) (Vle.refl _) (List.nil_sublist _) (hno fun h => (hmb.1 h).2.2 ⟨h6, h7⟩)
    have h7 : a ≠ -9223372036854775808 := by simpa using h7
    have hin := hmb.2 ⟨h3, fun h => h4 h.1, fun h => h7 h.2⟩
    (conv=>arg 2;whnf);refine w_ret2 rfl (Vle.eq (cI64 (w_in hin))) (Vle.refl _) (List.nil_sublist _) (calc_t hin)
  have h6 : b ≠ -1 := by simpa using h6
  have hin := hmb.2 ⟨h3, fun h => h4 h.1, fun h => h6 h.1⟩
  (repeat ((conv=>arg 2;whnf);first|refine wp_it rfl ?_|refine wp_if rfl ?_))
  (conv=>arg 2;whnf);refine w_ret2 rfl (Vle.eq (cI64 (w_in hin))) (Vle.refl _) (List.nil_sublist _) (calc_t hin)
end Go.Sv
namespace Go.Proofs.TryzIs
open Go Go.RowKit Go.Extern.Stop Go.Stop Go.Extern Go.Proofs
theorem isTypeOf (v : Value) (w : World) : (Extern.ReflectliteType.typeOf #[.iface 41 v]).run Tryz.prog w = .ok (.iface 113 (.agg #[.pointer (some ⟨0, 41, none⟩)])) w := by kernel_rfl
def cmpM : Array Value → Sem Value := Extern.ReflectliteType.method fun t => do Extern.Rtype.noPackHeld "Comparable" t; pure (.bool (← typeInfo t).comparable)
theorem isComparable (w : World) : (cmpM #[.agg #[.pointer (some ⟨0, 41, none⟩)]]).run Tryz.prog w = .ok (.bool true) w := by kernel_rfl
theorem isMethodComparable (v : Value) (w : World) : (Go.method 355 113 v "Comparable").run Tryz.prog w = .ok (173, v) w := by kernel_rfl
theorem isComp : (Tryz.prog.info? 41).map (·.comparable) = some true := by kernel_rfl
theorem noIsE (v : Value) (xT : TypeId) (w : World) : (Instr.typeAssert (.iface 41 v) xT 115 true).run Tryz.prog w = .ok (.tuple #[.nilIface, .bool false]) w := run_typeAssert_lacksB Tryz.underlying115 (by kernel_rfl) (by kernel_rfl) v xT w
theorem noUnwrapE (v : Value) (xT : TypeId) (w : World) : (Instr.typeAssert (.iface 41 v) xT 118 true).run Tryz.prog w = .ok (.tuple #[.nilIface, .bool false]) w := run_typeAssert_lacksB Tryz.underlying118 (by kernel_rfl) (by kernel_rfl) v xT w
theorem noUnwrapsE (v : Value) (xT : TypeId) (w : World) : (Instr.typeAssert (.iface 41 v) xT 120 true).run Tryz.prog w = .ok (.tuple #[.nilIface, .bool false]) w := run_typeAssert_lacksB Tryz.underlying120 (by kernel_rfl) (by kernel_rfl) v xT w
section
variable {P : Program} (w : World)
theorem run_equalIn_iface_int (d : Nat) {ti tn : TypeId} {ms : Array (String × TypeId)} {i : TypeInfo} {k : IntKind} (a b : Int)
    (hi : P.underlying ti = some (.interface ms)) (hn : P.underlying tn = some (.int k)) (hinfo : P.info? tn = some i) (hcomp : i.comparable = true) :
    (Op.equalIn (d + 2) ti (.iface tn (.int k a)) (.iface tn (.int k b))).run P w = .ok (a == b) w := by
  simp [Op.equalIn, run_underlying hi, run_underlying hn, typeInfo, hinfo, hcomp]
theorem run_eql_iface_int {ti tn : TypeId} {ms : Array (String × TypeId)} {i : TypeInfo} {k : IntKind} (a b : Int)
    (hi : P.underlying ti = some (.interface ms)) (hn : P.underlying tn = some (.int k)) (hinfo : P.info? tn = some i) (hcomp : i.comparable = true) :
    (binOp .eql ti (.iface tn (.int k a)) (.iface tn (.int k b))).run P w = .ok (.bool (a == b)) w := by
  simp only [binOp]
  simp [Op.equal, Op.maxDepth, run_equalIn_iface_int w 9998 a b hi hn hinfo hcomp]
end
set_option maxRecDepth 100000 in
theorem is_calls (a b : Int) (w : World) :
    Calls Tryz.prog 11 #[.iface 41 (.int .i64 a), .iface 41 (.int .i64 b)] w fun e w' => e = .returned (.bool (a == b)) ∧ w' = w := by
  obtain ⟨i, hi, hcmp⟩ := Option.map_eq_some_iff.1 isComp
  have h8 := @run_callFunc_extern Tryz.prog 26 _ Extern.ReflectliteType.typeOf Tryz.func26 (by kernel_rfl) (by kernel_rfl) (by kernel_rfl) (by kernel_rfl)
  have h32 := @run_callFunc_extern Tryz.prog 173 _ cmpM Tryz.func173 (by kernel_rfl) (by kernel_rfl) (by kernel_rfl) (by kernel_rfl)
  have tT := isTypeOf
  have cT := isComparable
  have mR := isMethodComparable
  have nE := noIsE
  have uE := noUnwrapE
  have vE := noUnwrapsE
  have heq := run_eql_iface_int (P := Tryz.prog) w a b Tryz.underlying37 Tryz.underlying41 hi hcmp
  rcases hb : (a == b) with _ | _ <;> rw [hb] at heq
  all_goals
    go_enter Tryz.func11, Tryz.ntmps11
    go_wp2
    refine wp_loop_rounds 1 ?_
    rw [rounds_succ]
    go_wp2
    go_ret
    exact ⟨rfl, rfl⟩
theorem is_nil (b : Int) (w : World) :
    Calls Tryz.prog 11 #[.nilIface, .iface 41 (.int .i64 b)] w fun e w' => e = .returned (.bool false) ∧ w' = w := by
  have hn := run_eql_iface_nil_left (P := Tryz.prog) w 41 (.int .i64 b) Tryz.underlying37
  go_enter Tryz.func11, Tryz.ntmps11
  go_wp2
  go_ret
  exact ⟨rfl, rfl⟩
end Go.Proofs.TryzIs
namespace Go.Sv
open Go Go.Proofs
def errV : Option Nat → Value
  | none => .nilIface
  | some n => .iface 41 (.int .i64 n)
theorem is_fn : isFn Tryz.prog 11 := ⟨_, _, Tryz.func11, rfl, by kernel_rfl⟩
theorem is_call (e : Option Nat) (n : Nat) : PCall Tryz.prog 11 [.c (errV e), .c (errV (some n))] (bV (e == some n)) := by
  refine pcall_of_calls is_fn fun g w xs hw hx => ?_
  simp only [RelL, RelV] at hx
  obtain ⟨x, ys, rfl, rfl, y, zs, rfl, rfl, rfl⟩ := hx
  cases e with
  | none =>
    refine Calls.mono (TryzIs.is_nil n w) ?_
    rintro e w' ⟨rfl, rfl⟩
    exact ⟨_, rfl, rfl, by simp only [bV, RelV]; rfl⟩
  | some m =>
    refine Calls.mono (TryzIs.is_calls m n w) ?_
    rintro e w' ⟨rfl, rfl⟩
    refine ⟨_, rfl, rfl, ?_⟩
    simp only [bV, RelV, Value.bool.injEq]
    rw [Bool.eq_iff_iff]
    simp
    omega
end Go.Sv
namespace Go.Sv
open Go Go.Proofs
def resV : Except Nat Val → V
  | .ok v => .tup [valV v, .c (errV none)]
  | .error e => .tup [valV val0, .c (errV (some e))]
theorem val_eq (a b : Val) : (a.kind == b.kind && (a.n == b.n && ((S a.s).toList == (S b.s).toList && true))) = decide (a = b) := by
  rw [strEq]
  cases a with
  | mk k n s => cases b with
    | mk k' n' s' => rw [Bool.eq_iff_iff]; simp
theorem boolZ_vle (b : Bool) : VleL [i64V 3, i64V (if b then 1 else 0), str []] (valL (boolV b)) := VleL.refl _
set_option maxRecDepth 100000 in
theorem truth_call (b : Bool) : PCall Tryz.prog 121 [bV b] (valV (boolV b)) := by
  refine scall_of (live := []) (ords := []) Tryz.func121 rfl (by kernel_rfl) (by kernel_rfl) (Nat.le_of_ble_eq_true rfl) ?_
  (conv=>arg 2;whnf);refine wp_allocE valZ rfl fun c => ?_
  cases b with
  | true =>
    (repeat ((conv=>arg 2;whnf);first|refine wp_it rfl ?_|refine wp_if rfl ?_))
    (conv=>arg 2;whnf);refine wp_storeE (cs := valZ) 0 0 (valL (boolV true)) rfl rfl (boolZ_vle true) (Nat.le_refl _) rfl (R' := [.obj c (valL (boolV true))]) rfl ?_
    (conv=>arg 2;whnf);refine w_ret1k (R' := []) c 0 0 rfl rfl rfl rfl rfl (Vle.refl _) (List.nil_sublist _) rfl
  | false =>
    (repeat ((conv=>arg 2;whnf);first|refine wp_it rfl ?_|refine wp_if rfl ?_))
    (conv=>arg 2;whnf);refine wp_storeE (cs := valZ) 0 0 (valL (boolV false)) rfl rfl (boolZ_vle false) (Nat.le_refl _) rfl (R' := [.obj c (valL (boolV false))]) rfl ?_
    (conv=>arg 2;whnf);refine w_ret1k (R' := []) c 0 0 rfl rfl rfl rfl rfl (Vle.refl _) (List.nil_sublist _) rfl
theorem arith_t {op x y : Int} (h : inI (opI op x y) = true) : arithE op x y = .ok ⟨1, opI op x y, []⟩ := by rw [arithE, if_pos h]
theorem arith_f {op x y : Int} (h : inI (opI op x y) = false) : arithE op x y = .error 16 := by rw [arithE, h]; rfl
theorem calc_cases (n : Int) : (inI n = true ∧ calcR n = .tup [i64V n, bV true]) ∨ (inI n = false ∧ calcR n = .tup [i64V 0, bV false]) := by
  cases h : inI n with
  | true => exact .inl ⟨rfl, by rw [calcR, h]; rfl⟩
  | false => exact .inr ⟨rfl, by rw [calcR, h]; rfl⟩
set_option maxRecDepth 100000 in
theorem counts_call (op x y : Int) (h3 : 3 ≤ op) (h5 : op ≤ 5) (hx : InR x) (hy : InR y) : PCall Tryz.prog 146 [i64V op, i64V x, i64V y] (resV (arithE op x y)) := by
  have fin : ∀ o : Int, o = op → PCall Tryz.prog 146 [i64V o, i64V x, i64V y] (resV (arithE o x y)) := by
    intro o ho
    have ho3 : o = 3 ∨ o = 4 ∨ o = 5 := by omega
    rcases ho3 with rfl | rfl | rfl
    · have f1 := sum_call x y hx hy
      refine scall_of (live := []) (ords := []) Tryz.func146 rfl (by kernel_rfl) (by kernel_rfl) (Nat.le_of_ble_eq_true rfl) ?_
      (conv=>arg 2;whnf);refine wp_allocE valZ rfl fun c => ?_
      (repeat ((conv=>arg 2;whnf);first|refine wp_it rfl ?_|refine wp_if rfl ?_))
      (conv=>arg 2;whnf);refine wp_pcall f1 ?_
      rcases calc_cases (x + y) with ⟨hi, hc⟩ | ⟨hi, hc⟩
      · rw [hc]
        (repeat ((conv=>arg 2;whnf);first|refine wp_it rfl ?_|refine wp_if rfl ?_))
        (conv=>arg 2;whnf);refine wp_storeE (cs := valZ) 0 0 (valL ⟨1, x + y, []⟩) rfl rfl (VleL.refl _) (Nat.le_refl _) rfl (R' := [.obj c (valL ⟨1, x + y, []⟩)]) rfl ?_
        (conv=>arg 2;whnf);refine w_ret2ck (R' := []) (a := valV ⟨1, x + y, []⟩) (u := .c (errV none)) c 0 0 rfl rfl rfl rfl rfl (Vle.refl _) (Vle.refl _) (List.nil_sublist _) (by rw [show arithE 3 x y = .ok ⟨1, x + y, []⟩ from arith_t (op := 3) (x := x) (y := y) hi]; rfl)
      · rw [hc]
        (repeat ((conv=>arg 2;whnf);first|refine wp_it rfl ?_|refine wp_if rfl ?_))
        (conv=>arg 2;whnf);refine wp_storeE (cs := valZ) 0 0 (valL val0) rfl rfl (VleL.refl _) (Nat.le_refl _) rfl (R' := [.obj c (valL val0)]) rfl ?_
        (conv=>arg 2;whnf);refine w_ret2ck (R' := []) (a := valV val0) (u := .c (errV (some 16))) c 0 0 rfl rfl rfl rfl rfl (Vle.refl _) (Vle.refl _) (List.nil_sublist _) (by rw [show arithE 3 x y = .error 16 from arith_f (op := 3) (x := x) (y := y) hi]; rfl)
    · have f1 := diff_call x y hx hy
      refine scall_of (live := []) (ords := []) Tryz.func146 rfl (by kernel_rfl) (by kernel_rfl) (Nat.le_of_ble_eq_true rfl) ?_
      (conv=>arg 2;whnf);refine wp_allocE valZ rfl fun c => ?_
      (repeat ((conv=>arg 2;whnf);first|refine wp_it rfl ?_|refine wp_if rfl ?_))
      (conv=>arg 2;whnf);refine wp_pcall f1 ?_
      rcases calc_cases (x - y) with ⟨hi, hc⟩ | ⟨hi, hc⟩
      · rw [hc]
        (repeat ((conv=>arg 2;whnf);first|refine wp_it rfl ?_|refine wp_if rfl ?_))
        (conv=>arg 2;whnf);refine wp_storeE (cs := valZ) 0 0 (valL ⟨1, x - y, []⟩) rfl rfl (VleL.refl _) (Nat.le_refl _) rfl (R' := [.obj c (valL ⟨1, x - y, []⟩)]) rfl ?_
        (conv=>arg 2;whnf);refine w_ret2ck (R' := []) (a := valV ⟨1, x - y, []⟩) (u := .c (errV none)) c 0 0 rfl rfl rfl rfl rfl (Vle.refl _) (Vle.refl _) (List.nil_sublist _) (by rw [show arithE 4 x y = .ok ⟨1, x - y, []⟩ from arith_t (op := 4) (x := x) (y := y) hi]; rfl)
      · rw [hc]
        (repeat ((conv=>arg 2;whnf);first|refine wp_it rfl ?_|refine wp_if rfl ?_))
        (conv=>arg 2;whnf);refine wp_storeE (cs := valZ) 0 0 (valL val0) rfl rfl (VleL.refl _) (Nat.le_refl _) rfl (R' := [.obj c (valL val0)]) rfl ?_
        (conv=>arg 2;whnf);refine w_ret2ck (R' := []) (a := valV val0) (u := .c (errV (some 16))) c 0 0 rfl rfl rfl rfl rfl (Vle.refl _) (Vle.refl _) (List.nil_sublist _) (by rw [show arithE 4 x y = .error 16 from arith_f (op := 4) (x := x) (y := y) hi]; rfl)
    · have f1 := prod_call x y hx hy
      refine scall_of (live := []) (ords := []) Tryz.func146 rfl (by kernel_rfl) (by kernel_rfl) (Nat.le_of_ble_eq_true rfl) ?_
      (conv=>arg 2;whnf);refine wp_allocE valZ rfl fun c => ?_
      (repeat ((conv=>arg 2;whnf);first|refine wp_it rfl ?_|refine wp_if rfl ?_))
      (conv=>arg 2;whnf);refine wp_pcall f1 ?_
      rcases calc_cases (x * y) with ⟨hi, hc⟩ | ⟨hi, hc⟩
      · rw [hc]
        (repeat ((conv=>arg 2;whnf);first|refine wp_it rfl ?_|refine wp_if rfl ?_))
        (conv=>arg 2;whnf);refine wp_storeE (cs := valZ) 0 0 (valL ⟨1, x * y, []⟩) rfl rfl (VleL.refl _) (Nat.le_refl _) rfl (R' := [.obj c (valL ⟨1, x * y, []⟩)]) rfl ?_
        (conv=>arg 2;whnf);refine w_ret2ck (R' := []) (a := valV ⟨1, x * y, []⟩) (u := .c (errV none)) c 0 0 rfl rfl rfl rfl rfl (Vle.refl _) (Vle.refl _) (List.nil_sublist _) (by rw [show arithE 5 x y = .ok ⟨1, x * y, []⟩ from arith_t (op := 5) (x := x) (y := y) hi]; rfl)
      · rw [hc]
        (repeat ((conv=>arg 2;whnf);first|refine wp_it rfl ?_|refine wp_if rfl ?_))
        (conv=>arg 2;whnf);refine wp_storeE (cs := valZ) 0 0 (valL val0) rfl rfl (VleL.refl _) (Nat.le_refl _) rfl (R' := [.obj c (valL val0)]) rfl ?_
        (conv=>arg 2;whnf);refine w_ret2ck (R' := []) (a := valV val0) (u := .c (errV (some 16))) c 0 0 rfl rfl rfl rfl rfl (Vle.refl _) (Vle.refl _) (List.nil_sublist _) (by rw [show arithE 5 x y = .error 16 from arith_f (op := 5) (x := x) (y := y) hi]; rfl)
  exact fin op rfl
set_option maxRecDepth 100000 in
theorem less_call (a b : Val) : PCall Tryz.prog 147 [valV a, valV b] (bV (lessV a b)) := by
  refine scall_of (live := []) (ords := []) Tryz.func147 rfl (by kernel_rfl) (by kernel_rfl) (Nat.le_of_ble_eq_true rfl) ?_
  (conv=>arg 2;whnf);refine wp_ite (fun h1 => ?_) (fun h1 => ?_)
  · have h1 : a.kind = 1 := by simpa using h1
    (conv=>arg 2;whnf);refine w_retp rfl (Vle.eq (cBool (by rw [lessV, if_pos h1])))
  · have h1 : a.kind ≠ 1 := by simpa using h1
    (conv=>arg 2;whnf);refine w_retp rfl (Vle.eq (cBool (by rw [lessV, if_neg h1]; rfl)))
set_option maxRecDepth 100000 in
theorem pair3_call (a b : Val) (ha : InR a.n) (hb : InR b.n) : PCall Tryz.prog 137 [i64V 3, valV a, valV b] (resV (pairE 3 a b)) := by
  refine scall_of (live := []) (ords := [(2, []), (4, []), (6, []), (8, []), (10, []), (12, [])]) Tryz.func137 rfl (by kernel_rfl) (by kernel_rfl) (Nat.le_of_ble_eq_true rfl) ?_
  (conv=>arg 2;whnf);refine wp_allocE valZ rfl fun c => ?_
  (conv=>arg 2;whnf)
  by_cases hs : a.kind = b.kind
  · have hk : (a.kind == b.kind) = true := beq_iff_eq.2 hs
    refine wp_cutR (frL [(0, i64V 3), (4, .pt (some 3) (valV a) 0), (5, .pt (some 3) (valV b) 0), (6, .loc c 0), (8, bV true)]) [.obj c valZ] (.cons (.refl _) (.cons (.refl _) (.cons (.refl _) (.cons (.refl _) (.cons (Vle.eq (cBool hk)) (.nil _)))))) (List.Sublist.refl _) ?_
    have f1 := counts_call 3 a.n b.n (by decide) (by decide) ha hb
    (repeat ((conv=>arg 2;whnf);first|refine wp_it rfl ?_|refine wp_if rfl ?_))
    (conv=>arg 2;whnf);refine wp_ite (fun h1 => ?_) (fun h1 => ?_)
    · have h1 : a.kind = 1 := by simpa using h1
      have hp : pairE 3 a b = arithE 3 a.n b.n := by rw [pairE, if_pos hs, if_pos ⟨by decide, h1⟩]
      (repeat ((conv=>arg 2;whnf);first|refine wp_it rfl ?_|refine wp_if rfl ?_))
      cases hr : arithE 3 a.n b.n with
      | ok v =>
        rw [hr] at f1
        (conv=>arg 2;whnf);refine wp_pcall f1 ?_
        (conv=>arg 2;whnf);refine wp_storeE (cs := valZ) 0 0 (valL v) rfl rfl (VleL.refl _) (Nat.le_refl _) rfl (R' := [.obj c (valL v)]) rfl ?_
        (conv=>arg 2;whnf);refine w_ret2ck (R' := []) (a := valV v) (u := .c (errV none)) c 0 0 rfl rfl rfl rfl rfl (Vle.refl _) (Vle.refl _) (List.nil_sublist _) (by rw [hp, hr]; rfl)
      | error e =>
        rw [hr] at f1
        (conv=>arg 2;whnf);refine wp_pcall f1 ?_
        (conv=>arg 2;whnf);refine wp_storeE (cs := valZ) 0 0 (valL val0) rfl rfl (VleL.refl _) (Nat.le_refl _) rfl (R' := [.obj c (valL val0)]) rfl ?_
        (conv=>arg 2;whnf);refine w_ret2ck (R' := []) (a := valV val0) (u := .c (errV (some e))) c 0 0 rfl rfl rfl rfl rfl (Vle.refl _) (Vle.refl _) (List.nil_sublist _) (by rw [hp, hr]; rfl)
    · have h1 : a.kind ≠ 1 := by simpa using h1
      have hp : pairE 3 a b = .error 14 := by rw [pairE, if_pos hs, if_neg (fun h => h1 h.2)]; rfl
      (repeat ((conv=>arg 2;whnf);first|refine wp_it rfl ?_|refine wp_if rfl ?_))
      (conv=>arg 2;whnf)
      refine wp_cutR (frL [(0, i64V 3), (4, .pt (some 3) (valV a) 0), (5, .pt (some 3) (valV b) 0), (6, .loc c 0), (8, bV true)]) [.obj c valZ] (.cons (.refl _) (.cons (.refl _) (.cons (.refl _) (.cons (.refl _) (.cons (.refl _) (.nil _)))))) (List.Sublist.refl _) ?_
      (repeat ((conv=>arg 2;whnf);first|refine wp_it rfl ?_|refine wp_if rfl ?_))
      (conv=>arg 2;whnf)
      refine wp_cutR (frL [(0, i64V 3), (4, .pt (some 3) (valV a) 0), (5, .pt (some 3) (valV b) 0), (6, .loc c 0), (8, bV true)]) [.obj c valZ] (.cons (.refl _) (.cons (.refl _) (.cons (.refl _) (.cons (.refl _) (.cons (.refl _) (.nil _)))))) (List.Sublist.refl _) ?_
      (repeat ((conv=>arg 2;whnf);first|refine wp_it rfl ?_|refine wp_if rfl ?_))
      (conv=>arg 2;whnf)
      refine wp_cutR (frL [(0, i64V 3), (4, .pt (some 3) (valV a) 0), (5, .pt (some 3) (valV b) 0), (6, .loc c 0), (8, bV true)]) [.obj c valZ] (.cons (.refl _) (.cons (.refl _) (.cons (.refl _) (.cons (.refl _) (.cons (.refl _) (.nil _)))))) (List.Sublist.refl _) ?_
      (repeat ((conv=>arg 2;whnf);first|refine wp_it rfl ?_|refine wp_if rfl ?_))
      (conv=>arg 2;whnf)
      refine wp_cutR (frL [(0, i64V 3), (4, .pt (some 3) (valV a) 0), (5, .pt (some 3) (valV b) 0), (6, .loc c 0), (8, bV true)]) [.obj c valZ] (.cons (.refl _) (.cons (.refl _) (.cons (.refl _) (.cons (.refl _) (.cons (.refl _) (.nil _)))))) (List.Sublist.refl _) ?_
      (repeat ((conv=>arg 2;whnf);first|refine wp_it rfl ?_|refine wp_if rfl ?_))
      (conv=>arg 2;whnf)
      refine wp_cutR (frL [(0, i64V 3), (4, .pt (some 3) (valV a) 0), (5, .pt (some 3) (valV b) 0), (6, .loc c 0), (8, bV true)]) [.obj c valZ] (.cons (.refl _) (.cons (.refl _) (.cons (.refl _) (.cons (.refl _) (.cons (.refl _) (.nil _)))))) (List.Sublist.refl _) ?_
      (conv=>arg 2;whnf);refine wp_storeE (cs := valZ) 0 0 (valL val0) rfl rfl (VleL.refl _) (Nat.le_refl _) rfl (R' := [.obj c (valL val0)]) rfl ?_
      (conv=>arg 2;whnf);refine w_ret2ck (R' := []) (a := valV val0) (u := .c (errV (some 14))) c 0 0 rfl rfl rfl rfl rfl (Vle.refl _) (Vle.refl _) (List.nil_sublist _) (by rw [hp]; rfl)
  · have hk : (a.kind == b.kind) = false := beq_eq_false_iff_ne.2 hs
    have hp : pairE 3 a b = .error 14 := by rw [pairE, if_neg hs]
    refine wp_cutR (frL [(0, i64V 3), (4, .pt (some 3) (valV a) 0), (5, .pt (some 3) (valV b) 0), (6, .loc c 0), (8, bV false)]) [.obj c valZ] (.cons (.refl _) (.cons (.refl _) (.cons (.refl _) (.cons (.refl _) (.cons (Vle.eq (cBool hk)) (.nil _)))))) (List.Sublist.refl _) ?_
    (repeat ((conv=>arg 2;whnf);first|refine wp_it rfl ?_|refine wp_if rfl ?_))
    (conv=>arg 2;whnf)
    refine wp_cutR (frL [(0, i64V 3), (4, .pt (some 3) (valV a) 0), (5, .pt (some 3) (valV b) 0), (6, .loc c 0), (8, bV false)]) [.obj c valZ] (.cons (.refl _) (.cons (.refl _) (.cons (.refl _) (.cons (.refl _) (.cons (.refl _) (.nil _)))))) (List.Sublist.refl _) ?_
    (repeat ((conv=>arg 2;whnf);first|refine wp_it rfl ?_|refine wp_if rfl ?_))
    (conv=>arg 2;whnf)
    refine wp_cutR (frL [(0, i64V 3), (4, .pt (some 3) (valV a) 0), (5, .pt (some 3) (valV b) 0), (6, .loc c 0), (8, bV false)]) [.obj c valZ] (.cons (.refl _) (.cons (.refl _) (.cons (.refl _) (.cons (.refl _) (.cons (.refl _) (.nil _)))))) (List.Sublist.refl _) ?_
    (repeat ((conv=>arg 2;whnf);first|refine wp_it rfl ?_|refine wp_if rfl ?_))
    (conv=>arg 2;whnf)
    refine wp_cutR (frL [(0, i64V 3), (4, .pt (some 3) (valV a) 0), (5, .pt (some 3) (valV b) 0), (6, .loc c 0), (8, bV false)]) [.obj c valZ] (.cons (.refl _) (.cons (.refl _) (.cons (.refl _) (.cons (.refl _) (.cons (.refl _) (.nil _)))))) (List.Sublist.refl _) ?_
    (repeat ((conv=>arg 2;whnf);first|refine wp_it rfl ?_|refine wp_if rfl ?_))
    (conv=>arg 2;whnf)
    refine wp_cutR (frL [(0, i64V 3), (4, .pt (some 3) (valV a) 0), (5, .pt (some 3) (valV b) 0), (6, .loc c 0), (8, bV false)]) [.obj c valZ] (.cons (.refl _) (.cons (.refl _) (.cons (.refl _) (.cons (.refl _) (.cons (.refl _) (.nil _)))))) (List.Sublist.refl _) ?_
    (repeat ((conv=>arg 2;whnf);first|refine wp_it rfl ?_|refine wp_if rfl ?_))
    (conv=>arg 2;whnf)
    refine wp_cutR (frL [(0, i64V 3), (4, .pt (some 3) (valV a) 0), (5, .pt (some 3) (valV b) 0), (6, .loc c 0), (8, bV false)]) [.obj c valZ] (.cons (.refl _) (.cons (.refl _) (.cons (.refl _) (.cons (.refl _) (.cons (.refl _) (.nil _)))))) (List.Sublist.refl _) ?_
    (conv=>arg 2;whnf);refine wp_storeE (cs := valZ) 0 0 (valL val0) rfl rfl (VleL.refl _) (Nat.le_refl _) rfl (R' := [.obj c (valL val0)]) rfl ?_
    (conv=>arg 2;whnf);refine w_ret2ck (R' := []) (a := valV val0) (u := .c (errV (some 14))) c 0 0 rfl rfl rfl rfl rfl (Vle.refl _) (Vle.refl _) (List.nil_sublist _) (by rw [hp]; rfl)
set_option maxRecDepth 100000 in
theorem pair4_call (a b : Val) (ha : InR a.n) (hb : InR b.n) : PCall Tryz.prog 137 [i64V 4, valV a, valV b] (resV (pairE 4 a b)) := by
  refine scall_of (live := []) (ords := [(2, []), (4, []), (6, []), (8, []), (10, []), (12, [])]) Tryz.func137 rfl (by kernel_rfl) (by kernel_rfl) (Nat.le_of_ble_eq_true rfl) ?_
  (conv=>arg 2;whnf);refine wp_allocE valZ rfl fun c => ?_
  (conv=>arg 2;whnf)
  by_cases hs : a.kind = b.kind
  · have hk : (a.kind == b.kind) = true := beq_iff_eq.2 hs
    refine wp_cutR (frL [(0, i64V 4), (4, .pt (some 3) (valV a) 0), (5, .pt (some 3) (valV b) 0), (6, .loc c 0), (8, bV true)]) [.obj c valZ] (.cons (.refl _) (.cons (.refl _) (.cons (.refl _) (.cons (.refl _) (.cons (Vle.eq (cBool hk)) (.nil _)))))) (List.Sublist.refl _) ?_
    have f1 := counts_call 4 a.n b.n (by decide) (by decide) ha hb
    (repeat ((conv=>arg 2;whnf);first|refine wp_it rfl ?_|refine wp_if rfl ?_))
    (conv=>arg 2;whnf);refine wp_ite (fun h1 => ?_) (fun h1 => ?_)
    · have h1 : a.kind = 1 := by simpa using h1
      have hp : pairE 4 a b = arithE 4 a.n b.n := by rw [pairE, if_pos hs, if_pos ⟨by decide, h1⟩]
      (repeat ((conv=>arg 2;whnf);first|refine wp_it rfl ?_|refine wp_if rfl ?_))
      cases hr : arithE 4 a.n b.n with
      | ok v =>
        rw [hr] at f1
        (conv=>arg 2;whnf);refine wp_pcall f1 ?_
        (conv=>arg 2;whnf);refine wp_storeE (cs := valZ) 0 0 (valL v) rfl rfl (VleL.refl _) (Nat.le_refl _) rfl (R' := [.obj c (valL v)]) rfl ?_
        (conv=>arg 2;whnf);refine w_ret2ck (R' := []) (a := valV v) (u := .c (errV none)) c 0 0 rfl rfl rfl rfl rfl (Vle.refl _) (Vle.refl _) (List.nil_sublist _) (by rw [hp, hr]; rfl)
      | error e =>
        rw [hr] at f1
        (conv=>arg 2;whnf);refine wp_pcall f1 ?_
        (conv=>arg 2;whnf);refine wp_storeE (cs := valZ) 0 0 (valL val0) rfl rfl (VleL.refl _) (Nat.le_refl _) rfl (R' := [.obj c (valL val0)]) rfl ?_
        (conv=>arg 2;whnf);refine w_ret2ck (R' := []) (a := valV val0) (u := .c (errV (some e))) c 0 0 rfl rfl rfl rfl rfl (Vle.refl _) (Vle.refl _) (List.nil_sublist _) (by rw [hp, hr]; rfl)
    · have h1 : a.kind ≠ 1 := by simpa using h1
      have hp : pairE 4 a b = .error 14 := by rw [pairE, if_pos hs, if_neg (fun h => h1 h.2)]; rfl
      (repeat ((conv=>arg 2;whnf);first|refine wp_it rfl ?_|refine wp_if rfl ?_))
      (conv=>arg 2;whnf)
      refine wp_cutR (frL [(0, i64V 4), (4, .pt (some 3) (valV a) 0), (5, .pt (some 3) (valV b) 0), (6, .loc c 0), (8, bV true)]) [.obj c valZ] (.cons (.refl _) (.cons (.refl _) (.cons (.refl _) (.cons (.refl _) (.cons (.refl _) (.nil _)))))) (List.Sublist.refl _) ?_
      (repeat ((conv=>arg 2;whnf);first|refine wp_it rfl ?_|refine wp_if rfl ?_))
      (conv=>arg 2;whnf)
      refine wp_cutR (frL [(0, i64V 4), (4, .pt (some 3) (valV a) 0), (5, .pt (some 3) (valV b) 0), (6, .loc c 0), (8, bV true)]) [.obj c valZ] (.cons (.refl _) (.cons (.refl _) (.cons (.refl _) (.cons (.refl _) (.cons (.refl _) (.nil _)))))) (List.Sublist.refl _) ?_
      (repeat ((conv=>arg 2;whnf);first|refine wp_it rfl ?_|refine wp_if rfl ?_))
      (conv=>arg 2;whnf)
      refine wp_cutR (frL [(0, i64V 4), (4, .pt (some 3) (valV a) 0), (5, .pt (some 3) (valV b) 0), (6, .loc c 0), (8, bV true)]) [.obj c valZ] (.cons (.refl _) (.cons (.refl _) (.cons (.refl _) (.cons (.refl _) (.cons (.refl _) (.nil _)))))) (List.Sublist.refl _) ?_
      (repeat ((conv=>arg 2;whnf);first|refine wp_it rfl ?_|refine wp_if rfl ?_))
      (conv=>arg 2;whnf)
      refine wp_cutR (frL [(0, i64V 4), (4, .pt (some 3) (valV a) 0), (5, .pt (some 3) (valV b) 0), (6, .loc c 0), (8, bV true)]) [.obj c valZ] (.cons (.refl _) (.cons (.refl _) (.cons (.refl _) (.cons (.refl _) (.cons (.refl _) (.nil _)))))) (List.Sublist.refl _) ?_
      (repeat ((conv=>arg 2;whnf);first|refine wp_it rfl ?_|refine wp_if rfl ?_))
      (conv=>arg 2;whnf)
      refine wp_cutR (frL [(0, i64V 4), (4, .pt (some 3) (valV a) 0), (5, .pt (some 3) (valV b) 0), (6, .loc c 0), (8, bV true)]) [.obj c valZ] (.cons (.refl _) (.cons (.refl _) (.cons (.refl _) (.cons (.refl _) (.cons (.refl _) (.nil _)))))) (List.Sublist.refl _) ?_
      (conv=>arg 2;whnf);refine wp_storeE (cs := valZ) 0 0 (valL val0) rfl rfl (VleL.refl _) (Nat.le_refl _) rfl (R' := [.obj c (valL val0)]) rfl ?_
      (conv=>arg 2;whnf);refine w_ret2ck (R' := []) (a := valV val0) (u := .c (errV (some 14))) c 0 0 rfl rfl rfl rfl rfl (Vle.refl _) (Vle.refl _) (List.nil_sublist _) (by rw [hp]; rfl)
  · have hk : (a.kind == b.kind) = false := beq_eq_false_iff_ne.2 hs
    have hp : pairE 4 a b = .error 14 := by rw [pairE, if_neg hs]
    refine wp_cutR (frL [(0, i64V 4), (4, .pt (some 3) (valV a) 0), (5, .pt (some 3) (valV b) 0), (6, .loc c 0), (8, bV false)]) [.obj c valZ] (.cons (.refl _) (.cons (.refl _) (.cons (.refl _) (.cons (.refl _) (.cons (Vle.eq (cBool hk)) (.nil _)))))) (List.Sublist.refl _) ?_
    (repeat ((conv=>arg 2;whnf);first|refine wp_it rfl ?_|refine wp_if rfl ?_))
    (conv=>arg 2;whnf)
    refine wp_cutR (frL [(0, i64V 4), (4, .pt (some 3) (valV a) 0), (5, .pt (some 3) (valV b) 0), (6, .loc c 0), (8, bV false)]) [.obj c valZ] (.cons (.refl _) (.cons (.refl _) (.cons (.refl _) (.cons (.refl _) (.cons (.refl _) (.nil _)))))) (List.Sublist.refl _) ?_
    (repeat ((conv=>arg 2;whnf);first|refine wp_it rfl ?_|refine wp_if rfl ?_))
    (conv=>arg 2;whnf)
    refine wp_cutR (frL [(0, i64V 4), (4, .pt (some 3) (valV a) 0), (5, .pt (some 3) (valV b) 0), (6, .loc c 0), (8, bV false)]) [.obj c valZ] (.cons (.refl _) (.cons (.refl _) (.cons (.refl _) (.cons (.refl _) (.cons (.refl _) (.nil _)))))) (List.Sublist.refl _) ?_
    (repeat ((conv=>arg 2;whnf);first|refine wp_it rfl ?_|refine wp_if rfl ?_))
    (conv=>arg 2;whnf)
    refine wp_cutR (frL [(0, i64V 4), (4, .pt (some 3) (valV a) 0), (5, .pt (some 3) (valV b) 0), (6, .loc c 0), (8, bV false)]) [.obj c valZ] (.cons (.refl _) (.cons (.refl _) (.cons (.refl _) (.cons (.refl _) (.cons (.refl _) (.nil _)))))) (List.Sublist.refl _) ?_
    (repeat ((conv=>arg 2;whnf);first|refine wp_it rfl ?_|refine wp_if rfl ?_))
    (conv=>arg 2;whnf)
    refine wp_cutR (frL [(0, i64V 4), (4, .pt (some 3) (valV a) 0), (5, .pt (some 3) (valV b) 0), (6, .loc c 0), (8, bV false)]) [.obj c valZ] (.cons (.refl _) (.cons (.refl _) (.cons (.refl _) (.cons (.refl _) (.cons (.refl _) (.nil _)))))) (List.Sublist.refl _) ?_
    (repeat ((conv=>arg 2;whnf);first|refine wp_it rfl ?_|refine wp_if rfl ?_))
    (conv=>arg 2;whnf)
    refine wp_cutR (frL [(0, i64V 4), (4, .pt (some 3) (valV a) 0), (5, .pt (some 3) (valV b) 0), (6, .loc c 0), (8, bV false)]) [.obj c valZ] (.cons (.refl _) (.cons (.refl _) (.cons (.refl _) (.cons (.refl _) (.cons (.refl _) (.nil _)))))) (List.Sublist.refl _) ?_
    (conv=>arg 2;whnf);refine wp_storeE (cs := valZ) 0 0 (valL val0) rfl rfl (VleL.refl _) (Nat.le_refl _) rfl (R' := [.obj c (valL val0)]) rfl ?_
    (conv=>arg 2;whnf);refine w_ret2ck (R' := []) (a := valV val0) (u := .c (errV (some 14))) c 0 0 rfl rfl rfl rfl rfl (Vle.refl _) (Vle.refl _) (List.nil_sublist _) (by rw [hp]; rfl)
set_option maxRecDepth 100000 in
theorem pair5_call (a b : Val) (ha : InR a.n) (hb : InR b.n) : PCall Tryz.prog 137 [i64V 5, valV a, valV b] (resV (pairE 5 a b)) := by
  refine scall_of (live := []) (ords := [(2, []), (4, []), (6, []), (8, []), (10, []), (12, [])]) Tryz.func137 rfl (by kernel_rfl) (by kernel_rfl) (Nat.le_of_ble_eq_true rfl) ?_
  (conv=>arg 2;whnf);refine wp_allocE valZ rfl fun c => ?_
  (conv=>arg 2;whnf)
  by_cases hs : a.kind = b.kind
  · have hk : (a.kind == b.kind) = true := beq_iff_eq.2 hs
    refine wp_cutR (frL [(0, i64V 5), (4, .pt (some 3) (valV a) 0), (5, .pt (some 3) (valV b) 0), (6, .loc c 0), (8, bV true)]) [.obj c valZ] (.cons (.refl _) (.cons (.refl _) (.cons (.refl _) (.cons (.refl _) (.cons (Vle.eq (cBool hk)) (.nil _)))))) (List.Sublist.refl _) ?_
    have f1 := counts_call 5 a.n b.n (by decide) (by decide) ha hb
    (repeat ((conv=>arg 2;whnf);first|refine wp_it rfl ?_|refine wp_if rfl ?_))
    (conv=>arg 2;whnf);refine wp_ite (fun h1 => ?_) (fun h1 => ?_)
    · have h1 : a.kind = 1 := by simpa using h1
      have hp : pairE 5 a b = arithE 5 a.n b.n := by rw [pairE, if_pos hs, if_pos ⟨by decide, h1⟩]
      (repeat ((conv=>arg 2;whnf);first|refine wp_it rfl ?_|refine wp_if rfl ?_))
      cases hr : arithE 5 a.n b.n with
      | ok v =>
        rw [hr] at f1
        (conv=>arg 2;whnf);refine wp_pcall f1 ?_
        (conv=>arg 2;whnf);refine wp_storeE (cs := valZ) 0 0 (valL v) rfl rfl (VleL.refl _) (Nat.le_refl _) rfl (R' := [.obj c (valL v)]) rfl ?_
        (conv=>arg 2;whnf);refine w_ret2ck (R' := []) (a := valV v) (u := .c (errV none)) c 0 0 rfl rfl rfl rfl rfl (Vle.refl _) (Vle.refl _) (List.nil_sublist _) (by rw [hp, hr]; rfl)
      | error e =>
        rw [hr] at f1
        (conv=>arg 2;whnf);refine wp_pcall f1 ?_
        (conv=>arg 2;whnf);refine wp_storeE (cs := valZ) 0 0 (valL val0) rfl rfl (VleL.refl _) (Nat.le_refl _) rfl (R' := [.obj c (valL val0)]) rfl ?_
        (conv=>arg 2;whnf);refine w_ret2ck (R' := []) (a := valV val0) (u := .c (errV (some e))) c 0 0 rfl rfl rfl rfl rfl (Vle.refl _) (Vle.refl _) (List.nil_sublist _) (by rw [hp, hr]; rfl)
    · have h1 : a.kind ≠ 1 := by simpa using h1
      have hp : pairE 5 a b = .error 14 := by rw [pairE, if_pos hs, if_neg (fun h => h1 h.2)]; rfl
      (repeat ((conv=>arg 2;whnf);first|refine wp_it rfl ?_|refine wp_if rfl ?_))
      (conv=>arg 2;whnf)
      refine wp_cutR (frL [(0, i64V 5), (4, .pt (some 3) (valV a) 0), (5, .pt (some 3) (valV b) 0), (6, .loc c 0), (8, bV true)]) [.obj c valZ] (.cons (.refl _) (.cons (.refl _) (.cons (.refl _) (.cons (.refl _) (.cons (.refl _) (.nil _)))))) (List.Sublist.refl _) ?_
      (repeat ((conv=>arg 2;whnf);first|refine wp_it rfl ?_|refine wp_if rfl ?_))
      (conv=>arg 2;whnf)
      refine wp_cutR (frL [(0, i64V 5), (4, .pt (some 3) (valV a) 0), (5, .pt (some 3) (valV b) 0), (6, .loc c 0), (8, bV true)]) [.obj c valZ] (.cons (.refl _) (.cons (.refl _) (.cons (.refl _) (.cons (.refl _) (.cons (.refl _) (.nil _)))))) (List.Sublist.refl _) ?_
      (repeat ((conv=>arg 2;whnf);first|refine wp_it rfl ?_|refine wp_if rfl ?_))
      (conv=>arg 2;whnf)
      refine wp_cutR (frL [(0, i64V 5), (4, .pt (some 3) (valV a) 0), (5, .pt (some 3) (valV b) 0), (6, .loc c 0), (8, bV true)]) [.obj c valZ] (.cons (.refl _) (.cons (.refl _) (.cons (.refl _) (.cons (.refl _) (.cons (.refl _) (.nil _)))))) (List.Sublist.refl _) ?_
      (repeat ((conv=>arg 2;whnf);first|refine wp_it rfl ?_|refine wp_if rfl ?_))
      (conv=>arg 2;whnf)
      refine wp_cutR (frL [(0, i64V 5), (4, .pt (some 3) (valV a) 0), (5, .pt (some 3) (valV b) 0), (6, .loc c 0), (8, bV true)]) [.obj c valZ] (.cons (.refl _) (.cons (.refl _) (.cons (.refl _) (.cons (.refl _) (.cons (.refl _) (.nil _)))))) (List.Sublist.refl _) ?_
      (repeat ((conv=>arg 2;whnf);first|refine wp_it rfl ?_|refine wp_if rfl ?_))
      (conv=>arg 2;whnf)
      refine wp_cutR (frL [(0, i64V 5), (4, .pt (some 3) (valV a) 0), (5, .pt (some 3) (valV b) 0), (6, .loc c 0), (8, bV true)]) [.obj c valZ] (.cons (.refl _) (.cons (.refl _) (.cons (.refl _) (.cons (.refl _) (.cons (.refl _) (.nil _)))))) (List.Sublist.refl _) ?_
      (conv=>arg 2;whnf);refine wp_storeE (cs := valZ) 0 0 (valL val0) rfl rfl (VleL.refl _) (Nat.le_refl _) rfl (R' := [.obj c (valL val0)]) rfl ?_
      (conv=>arg 2;whnf);refine w_ret2ck (R' := []) (a := valV val0) (u := .c (errV (some 14))) c 0 0 rfl rfl rfl rfl rfl (Vle.refl _) (Vle.refl _) (List.nil_sublist _) (by rw [hp]; rfl)
  · have hk : (a.kind == b.kind) = false := beq_eq_false_iff_ne.2 hs
    have hp : pairE 5 a b = .error 14 := by rw [pairE, if_neg hs]
    refine wp_cutR (frL [(0, i64V 5), (4, .pt (some 3) (valV a) 0), (5, .pt (some 3) (valV b) 0), (6, .loc c 0), (8, bV false)]) [.obj c valZ] (.cons (.refl _) (.cons (.refl _) (.cons (.refl _) (.cons (.refl _) (.cons (Vle.eq (cBool hk)) (.nil _)))))) (List.Sublist.refl _) ?_
    (repeat ((conv=>arg 2;whnf);first|refine wp_it rfl ?_|refine wp_if rfl ?_))
    (conv=>arg 2;whnf)
    refine wp_cutR (frL [(0, i64V 5), (4, .pt (some 3) (valV a) 0), (5, .pt (some 3) (valV b) 0), (6, .loc c 0), (8, bV false)]) [.obj c valZ] (.cons (.refl _) (.cons (.refl _) (.cons (.refl _) (.cons (.refl _) (.cons (.refl _) (.nil _)))))) (List.Sublist.refl _) ?_
    (repeat ((conv=>arg 2;whnf);first|refine wp_it rfl ?_|refine wp_if rfl ?_))
    (conv=>arg 2;whnf)
    refine wp_cutR (frL [(0, i64V 5), (4, .pt (some 3) (valV a) 0), (5, .pt (some 3) (valV b) 0), (6, .loc c 0), (8, bV false)]) [.obj c valZ] (.cons (.refl _) (.cons (.refl _) (.cons (.refl _) (.cons (.refl _) (.cons (.refl _) (.nil _)))))) (List.Sublist.refl _) ?_
    (repeat ((conv=>arg 2;whnf);first|refine wp_it rfl ?_|refine wp_if rfl ?_))
    (conv=>arg 2;whnf)
    refine wp_cutR (frL [(0, i64V 5), (4, .pt (some 3) (valV a) 0), (5, .pt (some 3) (valV b) 0), (6, .loc c 0), (8, bV false)]) [.obj c valZ] (.cons (.refl _) (.cons (.refl _) (.cons (.refl _) (.cons (.refl _) (.cons (.refl _) (.nil _)))))) (List.Sublist.refl _) ?_
    (repeat ((conv=>arg 2;whnf);first|refine wp_it rfl ?_|refine wp_if rfl ?_))
    (conv=>arg 2;whnf)
    refine wp_cutR (frL [(0, i64V 5), (4, .pt (some 3) (valV a) 0), (5, .pt (some 3) (valV b) 0), (6, .loc c 0), (8, bV false)]) [.obj c valZ] (.cons (.refl _) (.cons (.refl _) (.cons (.refl _) (.cons (.refl _) (.cons (.refl _) (.nil _)))))) (List.Sublist.refl _) ?_
    (repeat ((conv=>arg 2;whnf);first|refine wp_it rfl ?_|refine wp_if rfl ?_))
    (conv=>arg 2;whnf)
    refine wp_cutR (frL [(0, i64V 5), (4, .pt (some 3) (valV a) 0), (5, .pt (some 3) (valV b) 0), (6, .loc c 0), (8, bV false)]) [.obj c valZ] (.cons (.refl _) (.cons (.refl _) (.cons (.refl _) (.cons (.refl _) (.cons (.refl _) (.nil _)))))) (List.Sublist.refl _) ?_
    (conv=>arg 2;whnf);refine wp_storeE (cs := valZ) 0 0 (valL val0) rfl rfl (VleL.refl _) (Nat.le_refl _) rfl (R' := [.obj c (valL val0)]) rfl ?_
    (conv=>arg 2;whnf);refine w_ret2ck (R' := []) (a := valV val0) (u := .c (errV (some 14))) c 0 0 rfl rfl rfl rfl rfl (Vle.refl _) (Vle.refl _) (List.nil_sublist _) (by rw [hp]; rfl)
set_option maxRecDepth 100000 in
theorem pair6_call (a b : Val)  : PCall Tryz.prog 137 [i64V 6, valV a, valV b] (resV (pairE 6 a b)) := by
  have hv := val_eq a b
  refine scall_of (live := []) (ords := [(2, []), (4, []), (6, []), (8, []), (10, []), (12, [])]) Tryz.func137 rfl (by kernel_rfl) (by kernel_rfl) (Nat.le_of_ble_eq_true rfl) ?_
  (conv=>arg 2;whnf);refine wp_allocE valZ rfl fun c => ?_
  (conv=>arg 2;whnf)
  by_cases hs : a.kind = b.kind
  · have hk : (a.kind == b.kind) = true := beq_iff_eq.2 hs
    refine wp_cutR (frL [(0, i64V 6), (4, .pt (some 3) (valV a) 0), (5, .pt (some 3) (valV b) 0), (6, .loc c 0), (8, bV true)]) [.obj c valZ] (.cons (.refl _) (.cons (.refl _) (.cons (.refl _) (.cons (.refl _) (.cons (Vle.eq (cBool hk)) (.nil _)))))) (List.Sublist.refl _) ?_
    (repeat ((conv=>arg 2;whnf);first|refine wp_it rfl ?_|refine wp_if rfl ?_))
    (conv=>arg 2;whnf)
    refine wp_cutR (frL [(0, i64V 6), (4, .pt (some 3) (valV a) 0), (5, .pt (some 3) (valV b) 0), (6, .loc c 0), (8, bV true)]) [.obj c valZ] (.cons (.refl _) (.cons (.refl _) (.cons (.refl _) (.cons (.refl _) (.cons (.refl _) (.nil _)))))) (List.Sublist.refl _) ?_
    have f1 := truth_call (decide (a = b))
    have hp : pairE 6 a b = .ok (boolV (decide (a = b))) := by rw [pairE, if_pos hs]; rfl
    (repeat ((conv=>arg 2;whnf);first|refine wp_it rfl ?_|refine wp_if rfl ?_))
    (conv=>arg 2;whnf);refine wp_need valEqB ?_
    (conv=>arg 2;whnf);refine wp_pcallV (.cons (Vle.eq (cBool hv)) .nil) f1 ?_
    (conv=>arg 2;whnf);refine wp_storeE (cs := valZ) 0 0 (valL (boolV (decide (a = b)))) rfl rfl (VleL.refl _) (Nat.le_refl _) rfl (R' := [.obj c (valL (boolV (decide (a = b))))]) rfl ?_
    (conv=>arg 2;whnf);refine w_ret2ck (R' := []) (a := valV (boolV (decide (a = b)))) (u := .c (errV none)) c 0 0 rfl rfl rfl rfl rfl (Vle.refl _) (Vle.refl _) (List.nil_sublist _) (by rw [hp]; rfl)
  · have hk : (a.kind == b.kind) = false := beq_eq_false_iff_ne.2 hs
    have hp : pairE 6 a b = .error 14 := by rw [pairE, if_neg hs]
    refine wp_cutR (frL [(0, i64V 6), (4, .pt (some 3) (valV a) 0), (5, .pt (some 3) (valV b) 0), (6, .loc c 0), (8, bV false)]) [.obj c valZ] (.cons (.refl _) (.cons (.refl _) (.cons (.refl _) (.cons (.refl _) (.cons (Vle.eq (cBool hk)) (.nil _)))))) (List.Sublist.refl _) ?_
    (repeat ((conv=>arg 2;whnf);first|refine wp_it rfl ?_|refine wp_if rfl ?_))
    (conv=>arg 2;whnf)
    refine wp_cutR (frL [(0, i64V 6), (4, .pt (some 3) (valV a) 0), (5, .pt (some 3) (valV b) 0), (6, .loc c 0), (8, bV false)]) [.obj c valZ] (.cons (.refl _) (.cons (.refl _) (.cons (.refl _) (.cons (.refl _) (.cons (.refl _) (.nil _)))))) (List.Sublist.refl _) ?_
    (repeat ((conv=>arg 2;whnf);first|refine wp_it rfl ?_|refine wp_if rfl ?_))
    (conv=>arg 2;whnf)
    refine wp_cutR (frL [(0, i64V 6), (4, .pt (some 3) (valV a) 0), (5, .pt (some 3) (valV b) 0), (6, .loc c 0), (8, bV false)]) [.obj c valZ] (.cons (.refl _) (.cons (.refl _) (.cons (.refl _) (.cons (.refl _) (.cons (.refl _) (.nil _)))))) (List.Sublist.refl _) ?_
    (repeat ((conv=>arg 2;whnf);first|refine wp_it rfl ?_|refine wp_if rfl ?_))
    (conv=>arg 2;whnf)
    refine wp_cutR (frL [(0, i64V 6), (4, .pt (some 3) (valV a) 0), (5, .pt (some 3) (valV b) 0), (6, .loc c 0), (8, bV false)]) [.obj c valZ] (.cons (.refl _) (.cons (.refl _) (.cons (.refl _) (.cons (.refl _) (.cons (.refl _) (.nil _)))))) (List.Sublist.refl _) ?_
    (repeat ((conv=>arg 2;whnf);first|refine wp_it rfl ?_|refine wp_if rfl ?_))
    (conv=>arg 2;whnf)
    refine wp_cutR (frL [(0, i64V 6), (4, .pt (some 3) (valV a) 0), (5, .pt (some 3) (valV b) 0), (6, .loc c 0), (8, bV false)]) [.obj c valZ] (.cons (.refl _) (.cons (.refl _) (.cons (.refl _) (.cons (.refl _) (.cons (.refl _) (.nil _)))))) (List.Sublist.refl _) ?_
    (repeat ((conv=>arg 2;whnf);first|refine wp_it rfl ?_|refine wp_if rfl ?_))
    (conv=>arg 2;whnf)
    refine wp_cutR (frL [(0, i64V 6), (4, .pt (some 3) (valV a) 0), (5, .pt (some 3) (valV b) 0), (6, .loc c 0), (8, bV false)]) [.obj c valZ] (.cons (.refl _) (.cons (.refl _) (.cons (.refl _) (.cons (.refl _) (.cons (.refl _) (.nil _)))))) (List.Sublist.refl _) ?_
    (conv=>arg 2;whnf);refine wp_storeE (cs := valZ) 0 0 (valL val0) rfl rfl (VleL.refl _) (Nat.le_refl _) rfl (R' := [.obj c (valL val0)]) rfl ?_
    (conv=>arg 2;whnf);refine w_ret2ck (R' := []) (a := valV val0) (u := .c (errV (some 14))) c 0 0 rfl rfl rfl rfl rfl (Vle.refl _) (Vle.refl _) (List.nil_sublist _) (by rw [hp]; rfl)
set_option maxRecDepth 100000 in
theorem pair7_call (a b : Val)  : PCall Tryz.prog 137 [i64V 7, valV a, valV b] (resV (pairE 7 a b)) := by
  have hv := val_eq a b
  refine scall_of (live := []) (ords := [(2, []), (4, []), (6, []), (8, []), (10, []), (12, [])]) Tryz.func137 rfl (by kernel_rfl) (by kernel_rfl) (Nat.le_of_ble_eq_true rfl) ?_
  (conv=>arg 2;whnf);refine wp_allocE valZ rfl fun c => ?_
  (conv=>arg 2;whnf)
  by_cases hs : a.kind = b.kind
  · have hk : (a.kind == b.kind) = true := beq_iff_eq.2 hs
    refine wp_cutR (frL [(0, i64V 7), (4, .pt (some 3) (valV a) 0), (5, .pt (some 3) (valV b) 0), (6, .loc c 0), (8, bV true)]) [.obj c valZ] (.cons (.refl _) (.cons (.refl _) (.cons (.refl _) (.cons (.refl _) (.cons (Vle.eq (cBool hk)) (.nil _)))))) (List.Sublist.refl _) ?_
    (repeat ((conv=>arg 2;whnf);first|refine wp_it rfl ?_|refine wp_if rfl ?_))
    (conv=>arg 2;whnf)
    refine wp_cutR (frL [(0, i64V 7), (4, .pt (some 3) (valV a) 0), (5, .pt (some 3) (valV b) 0), (6, .loc c 0), (8, bV true)]) [.obj c valZ] (.cons (.refl _) (.cons (.refl _) (.cons (.refl _) (.cons (.refl _) (.cons (.refl _) (.nil _)))))) (List.Sublist.refl _) ?_
    (repeat ((conv=>arg 2;whnf);first|refine wp_it rfl ?_|refine wp_if rfl ?_))
    (conv=>arg 2;whnf)
    refine wp_cutR (frL [(0, i64V 7), (4, .pt (some 3) (valV a) 0), (5, .pt (some 3) (valV b) 0), (6, .loc c 0), (8, bV true)]) [.obj c valZ] (.cons (.refl _) (.cons (.refl _) (.cons (.refl _) (.cons (.refl _) (.cons (.refl _) (.nil _)))))) (List.Sublist.refl _) ?_
    have f1 := truth_call (!decide (a = b))
    have hp : pairE 7 a b = .ok (boolV (!decide (a = b))) := by rw [pairE, if_pos hs]; rfl
    (repeat ((conv=>arg 2;whnf);first|refine wp_it rfl ?_|refine wp_if rfl ?_))
    (conv=>arg 2;whnf);refine wp_need valEqB ?_
    (conv=>arg 2;whnf);refine wp_pcallV (.cons (Vle.eq (cBool (congrArg (!·) hv))) .nil) f1 ?_
    (conv=>arg 2;whnf);refine wp_storeE (cs := valZ) 0 0 (valL (boolV (!decide (a = b)))) rfl rfl (VleL.refl _) (Nat.le_refl _) rfl (R' := [.obj c (valL (boolV (!decide (a = b))))]) rfl ?_
    (conv=>arg 2;whnf);refine w_ret2ck (R' := []) (a := valV (boolV (!decide (a = b)))) (u := .c (errV none)) c 0 0 rfl rfl rfl rfl rfl (Vle.refl _) (Vle.refl _) (List.nil_sublist _) (by rw [hp]; rfl)
  · have hk : (a.kind == b.kind) = false := beq_eq_false_iff_ne.2 hs
    have hp : pairE 7 a b = .error 14 := by rw [pairE, if_neg hs]
    refine wp_cutR (frL [(0, i64V 7), (4, .pt (some 3) (valV a) 0), (5, .pt (some 3) (valV b) 0), (6, .loc c 0), (8, bV false)]) [.obj c valZ] (.cons (.refl _) (.cons (.refl _) (.cons (.refl _) (.cons (.refl _) (.cons (Vle.eq (cBool hk)) (.nil _)))))) (List.Sublist.refl _) ?_
    (repeat ((conv=>arg 2;whnf);first|refine wp_it rfl ?_|refine wp_if rfl ?_))
    (conv=>arg 2;whnf)
    refine wp_cutR (frL [(0, i64V 7), (4, .pt (some 3) (valV a) 0), (5, .pt (some 3) (valV b) 0), (6, .loc c 0), (8, bV false)]) [.obj c valZ] (.cons (.refl _) (.cons (.refl _) (.cons (.refl _) (.cons (.refl _) (.cons (.refl _) (.nil _)))))) (List.Sublist.refl _) ?_
    (repeat ((conv=>arg 2;whnf);first|refine wp_it rfl ?_|refine wp_if rfl ?_))
    (conv=>arg 2;whnf)
    refine wp_cutR (frL [(0, i64V 7), (4, .pt (some 3) (valV a) 0), (5, .pt (some 3) (valV b) 0), (6, .loc c 0), (8, bV false)]) [.obj c valZ] (.cons (.refl _) (.cons (.refl _) (.cons (.refl _) (.cons (.refl _) (.cons (.refl _) (.nil _)))))) (List.Sublist.refl _) ?_
    (repeat ((conv=>arg 2;whnf);first|refine wp_it rfl ?_|refine wp_if rfl ?_))
    (conv=>arg 2;whnf)
    refine wp_cutR (frL [(0, i64V 7), (4, .pt (some 3) (valV a) 0), (5, .pt (some 3) (valV b) 0), (6, .loc c 0), (8, bV false)]) [.obj c valZ] (.cons (.refl _) (.cons (.refl _) (.cons (.refl _) (.cons (.refl _) (.cons (.refl _) (.nil _)))))) (List.Sublist.refl _) ?_
    (repeat ((conv=>arg 2;whnf);first|refine wp_it rfl ?_|refine wp_if rfl ?_))
    (conv=>arg 2;whnf)
    refine wp_cutR (frL [(0, i64V 7), (4, .pt (some 3) (valV a) 0), (5, .pt (some 3) (valV b) 0), (6, .loc c 0), (8, bV false)]) [.obj c valZ] (.cons (.refl _) (.cons (.refl _) (.cons (.refl _) (.cons (.refl _) (.cons (.refl _) (.nil _)))))) (List.Sublist.refl _) ?_
    (repeat ((conv=>arg 2;whnf);first|refine wp_it rfl ?_|refine wp_if rfl ?_))
    (conv=>arg 2;whnf)
    refine wp_cutR (frL [(0, i64V 7), (4, .pt (some 3) (valV a) 0), (5, .pt (some 3) (valV b) 0), (6, .loc c 0), (8, bV false)]) [.obj c valZ] (.cons (.refl _) (.cons (.refl _) (.cons (.refl _) (.cons (.refl _) (.cons (.refl _) (.nil _)))))) (List.Sublist.refl _) ?_
    (conv=>arg 2;whnf);refine wp_storeE (cs := valZ) 0 0 (valL val0) rfl rfl (VleL.refl _) (Nat.le_refl _) rfl (R' := [.obj c (valL val0)]) rfl ?_
    (conv=>arg 2;whnf);refine w_ret2ck (R' := []) (a := valV val0) (u := .c (errV (some 14))) c 0 0 rfl rfl rfl rfl rfl (Vle.refl _) (Vle.refl _) (List.nil_sublist _) (by rw [hp]; rfl)
set_option maxRecDepth 100000 in
theorem pair8_call (a b : Val)  : PCall Tryz.prog 137 [i64V 8, valV a, valV b] (resV (pairE 8 a b)) := by
  refine scall_of (live := []) (ords := [(2, []), (4, []), (6, []), (8, []), (10, []), (12, [])]) Tryz.func137 rfl (by kernel_rfl) (by kernel_rfl) (Nat.le_of_ble_eq_true rfl) ?_
  (conv=>arg 2;whnf);refine wp_allocE valZ rfl fun c => ?_
  (conv=>arg 2;whnf)
  by_cases hs : a.kind = b.kind
  · have hk : (a.kind == b.kind) = true := beq_iff_eq.2 hs
    refine wp_cutR (frL [(0, i64V 8), (4, .pt (some 3) (valV a) 0), (5, .pt (some 3) (valV b) 0), (6, .loc c 0), (8, bV true)]) [.obj c valZ] (.cons (.refl _) (.cons (.refl _) (.cons (.refl _) (.cons (.refl _) (.cons (Vle.eq (cBool hk)) (.nil _)))))) (List.Sublist.refl _) ?_
    (repeat ((conv=>arg 2;whnf);first|refine wp_it rfl ?_|refine wp_if rfl ?_))
    (conv=>arg 2;whnf)
    refine wp_cutR (frL [(0, i64V 8), (4, .pt (some 3) (valV a) 0), (5, .pt (some 3) (valV b) 0), (6, .loc c 0), (8, bV true)]) [.obj c valZ] (.cons (.refl _) (.cons (.refl _) (.cons (.refl _) (.cons (.refl _) (.cons (.refl _) (.nil _)))))) (List.Sublist.refl _) ?_
    (repeat ((conv=>arg 2;whnf);first|refine wp_it rfl ?_|refine wp_if rfl ?_))
    (conv=>arg 2;whnf)
    refine wp_cutR (frL [(0, i64V 8), (4, .pt (some 3) (valV a) 0), (5, .pt (some 3) (valV b) 0), (6, .loc c 0), (8, bV true)]) [.obj c valZ] (.cons (.refl _) (.cons (.refl _) (.cons (.refl _) (.cons (.refl _) (.cons (.refl _) (.nil _)))))) (List.Sublist.refl _) ?_
    (repeat ((conv=>arg 2;whnf);first|refine wp_it rfl ?_|refine wp_if rfl ?_))
    (conv=>arg 2;whnf)
    refine wp_cutR (frL [(0, i64V 8), (4, .pt (some 3) (valV a) 0), (5, .pt (some 3) (valV b) 0), (6, .loc c 0), (8, bV true)]) [.obj c valZ] (.cons (.refl _) (.cons (.refl _) (.cons (.refl _) (.cons (.refl _) (.cons (.refl _) (.nil _)))))) (List.Sublist.refl _) ?_
    have f1 := less_call a b
    have f2 := truth_call (lessV a b)
    (repeat ((conv=>arg 2;whnf);first|refine wp_it rfl ?_|refine wp_if rfl ?_))
    (conv=>arg 2;whnf);refine wp_ite (fun h1 => ?_) (fun h1 => ?_)
    · have h1 : a.kind ≠ 3 := by simpa using h1
      have hp : pairE 8 a b = .ok (boolV (lessV a b)) := by rw [pairE, if_pos hs, if_neg (fun h => absurd h.1 (by decide)), if_neg (by decide), if_neg (by decide), if_pos ⟨rfl, h1⟩]
      (conv=>arg 2;whnf);refine wp_pcall f1 ?_
      (conv=>arg 2;whnf);refine wp_pcall f2 ?_
      (conv=>arg 2;whnf);refine wp_storeE (cs := valZ) 0 0 (valL (boolV (lessV a b))) rfl rfl (VleL.refl _) (Nat.le_refl _) rfl (R' := [.obj c (valL (boolV (lessV a b)))]) rfl ?_
      (conv=>arg 2;whnf);refine w_ret2ck (R' := []) (a := valV (boolV (lessV a b))) (u := .c (errV none)) c 0 0 rfl rfl rfl rfl rfl (Vle.refl _) (Vle.refl _) (List.nil_sublist _) (by rw [hp]; rfl)
    · have h1 : a.kind = 3 := by simpa using h1
      have hp : pairE 8 a b = .error 14 := by rw [pairE, if_pos hs, if_neg (fun h => absurd h.1 (by decide)), if_neg (by decide), if_neg (by decide), if_neg (fun h => h.2 h1), if_neg (fun h => absurd h.1 (by decide))]
      (repeat ((conv=>arg 2;whnf);first|refine wp_it rfl ?_|refine wp_if rfl ?_))
      (conv=>arg 2;whnf)
      refine wp_cutR (frL [(0, i64V 8), (4, .pt (some 3) (valV a) 0), (5, .pt (some 3) (valV b) 0), (6, .loc c 0), (8, bV true)]) [.obj c valZ] (.cons (.refl _) (.cons (.refl _) (.cons (.refl _) (.cons (.refl _) (.cons (.refl _) (.nil _)))))) (List.Sublist.refl _) ?_
      (repeat ((conv=>arg 2;whnf);first|refine wp_it rfl ?_|refine wp_if rfl ?_))
      (conv=>arg 2;whnf)
      refine wp_cutR (frL [(0, i64V 8), (4, .pt (some 3) (valV a) 0), (5, .pt (some 3) (valV b) 0), (6, .loc c 0), (8, bV true)]) [.obj c valZ] (.cons (.refl _) (.cons (.refl _) (.cons (.refl _) (.cons (.refl _) (.cons (.refl _) (.nil _)))))) (List.Sublist.refl _) ?_
      (conv=>arg 2;whnf);refine wp_storeE (cs := valZ) 0 0 (valL val0) rfl rfl (VleL.refl _) (Nat.le_refl _) rfl (R' := [.obj c (valL val0)]) rfl ?_
      (conv=>arg 2;whnf);refine w_ret2ck (R' := []) (a := valV val0) (u := .c (errV (some 14))) c 0 0 rfl rfl rfl rfl rfl (Vle.refl _) (Vle.refl _) (List.nil_sublist _) (by rw [hp]; rfl)
  · have hk : (a.kind == b.kind) = false := beq_eq_false_iff_ne.2 hs
    have hp : pairE 8 a b = .error 14 := by rw [pairE, if_neg hs]
    refine wp_cutR (frL [(0, i64V 8), (4, .pt (some 3) (valV a) 0), (5, .pt (some 3) (valV b) 0), (6, .loc c 0), (8, bV false)]) [.obj c valZ] (.cons (.refl _) (.cons (.refl _) (.cons (.refl _) (.cons (.refl _) (.cons (Vle.eq (cBool hk)) (.nil _)))))) (List.Sublist.refl _) ?_
    (repeat ((conv=>arg 2;whnf);first|refine wp_it rfl ?_|refine wp_if rfl ?_))
    (conv=>arg 2;whnf)
    refine wp_cutR (frL [(0, i64V 8), (4, .pt (some 3) (valV a) 0), (5, .pt (some 3) (valV b) 0), (6, .loc c 0), (8, bV false)]) [.obj c valZ] (.cons (.refl _) (.cons (.refl _) (.cons (.refl _) (.cons (.refl _) (.cons (.refl _) (.nil _)))))) (List.Sublist.refl _) ?_
    (repeat ((conv=>arg 2;whnf);first|refine wp_it rfl ?_|refine wp_if rfl ?_))
    (conv=>arg 2;whnf)
    refine wp_cutR (frL [(0, i64V 8), (4, .pt (some 3) (valV a) 0), (5, .pt (some 3) (valV b) 0), (6, .loc c 0), (8, bV false)]) [.obj c valZ] (.cons (.refl _) (.cons (.refl _) (.cons (.refl _) (.cons (.refl _) (.cons (.refl _) (.nil _)))))) (List.Sublist.refl _) ?_
    (repeat ((conv=>arg 2;whnf);first|refine wp_it rfl ?_|refine wp_if rfl ?_))
    (conv=>arg 2;whnf)
    refine wp_cutR (frL [(0, i64V 8), (4, .pt (some 3) (valV a) 0), (5, .pt (some 3) (valV b) 0), (6, .loc c 0), (8, bV false)]) [.obj c valZ] (.cons (.refl _) (.cons (.refl _) (.cons (.refl _) (.cons (.refl _) (.cons (.refl _) (.nil _)))))) (List.Sublist.refl _) ?_
    (repeat ((conv=>arg 2;whnf);first|refine wp_it rfl ?_|refine wp_if rfl ?_))
    (conv=>arg 2;whnf)
    refine wp_cutR (frL [(0, i64V 8), (4, .pt (some 3) (valV a) 0), (5, .pt (some 3) (valV b) 0), (6, .loc c 0), (8, bV false)]) [.obj c valZ] (.cons (.refl _) (.cons (.refl _) (.cons (.refl _) (.cons (.refl _) (.cons (.refl _) (.nil _)))))) (List.Sublist.refl _) ?_
    (repeat ((conv=>arg 2;whnf);first|refine wp_it rfl ?_|refine wp_if rfl ?_))
    (conv=>arg 2;whnf)
    refine wp_cutR (frL [(0, i64V 8), (4, .pt (some 3) (valV a) 0), (5, .pt (some 3) (valV b) 0), (6, .loc c 0), (8, bV false)]) [.obj c valZ] (.cons (.refl _) (.cons (.refl _) (.cons (.refl _) (.cons (.refl _) (.cons (.refl _) (.nil _)))))) (List.Sublist.refl _) ?_
    (conv=>arg 2;whnf);refine wp_storeE (cs := valZ) 0 0 (valL val0) rfl rfl (VleL.refl _) (Nat.le_refl _) rfl (R' := [.obj c (valL val0)]) rfl ?_
    (conv=>arg 2;whnf);refine w_ret2ck (R' := []) (a := valV val0) (u := .c (errV (some 14))) c 0 0 rfl rfl rfl rfl rfl (Vle.refl _) (Vle.refl _) (List.nil_sublist _) (by rw [hp]; rfl)
set_option maxRecDepth 100000 in
theorem pair9_call (a b : Val)  : PCall Tryz.prog 137 [i64V 9, valV a, valV b] (resV (pairE 9 a b)) := by
  refine scall_of (live := []) (ords := [(2, []), (4, []), (6, []), (8, []), (10, []), (12, [])]) Tryz.func137 rfl (by kernel_rfl) (by kernel_rfl) (Nat.le_of_ble_eq_true rfl) ?_
  (conv=>arg 2;whnf);refine wp_allocE valZ rfl fun c => ?_
  (conv=>arg 2;whnf)
  by_cases hs : a.kind = b.kind
  · have hk : (a.kind == b.kind) = true := beq_iff_eq.2 hs
    refine wp_cutR (frL [(0, i64V 9), (4, .pt (some 3) (valV a) 0), (5, .pt (some 3) (valV b) 0), (6, .loc c 0), (8, bV true)]) [.obj c valZ] (.cons (.refl _) (.cons (.refl _) (.cons (.refl _) (.cons (.refl _) (.cons (Vle.eq (cBool hk)) (.nil _)))))) (List.Sublist.refl _) ?_
    (repeat ((conv=>arg 2;whnf);first|refine wp_it rfl ?_|refine wp_if rfl ?_))
    (conv=>arg 2;whnf)
    refine wp_cutR (frL [(0, i64V 9), (4, .pt (some 3) (valV a) 0), (5, .pt (some 3) (valV b) 0), (6, .loc c 0), (8, bV true)]) [.obj c valZ] (.cons (.refl _) (.cons (.refl _) (.cons (.refl _) (.cons (.refl _) (.cons (.refl _) (.nil _)))))) (List.Sublist.refl _) ?_
    (repeat ((conv=>arg 2;whnf);first|refine wp_it rfl ?_|refine wp_if rfl ?_))
    (conv=>arg 2;whnf)
    refine wp_cutR (frL [(0, i64V 9), (4, .pt (some 3) (valV a) 0), (5, .pt (some 3) (valV b) 0), (6, .loc c 0), (8, bV true)]) [.obj c valZ] (.cons (.refl _) (.cons (.refl _) (.cons (.refl _) (.cons (.refl _) (.cons (.refl _) (.nil _)))))) (List.Sublist.refl _) ?_
    (repeat ((conv=>arg 2;whnf);first|refine wp_it rfl ?_|refine wp_if rfl ?_))
    (conv=>arg 2;whnf)
    refine wp_cutR (frL [(0, i64V 9), (4, .pt (some 3) (valV a) 0), (5, .pt (some 3) (valV b) 0), (6, .loc c 0), (8, bV true)]) [.obj c valZ] (.cons (.refl _) (.cons (.refl _) (.cons (.refl _) (.cons (.refl _) (.cons (.refl _) (.nil _)))))) (List.Sublist.refl _) ?_
    (repeat ((conv=>arg 2;whnf);first|refine wp_it rfl ?_|refine wp_if rfl ?_))
    (conv=>arg 2;whnf)
    refine wp_cutR (frL [(0, i64V 9), (4, .pt (some 3) (valV a) 0), (5, .pt (some 3) (valV b) 0), (6, .loc c 0), (8, bV true)]) [.obj c valZ] (.cons (.refl _) (.cons (.refl _) (.cons (.refl _) (.cons (.refl _) (.cons (.refl _) (.nil _)))))) (List.Sublist.refl _) ?_
    have f1 := less_call b a
    have f2 := truth_call (!lessV b a)
    (repeat ((conv=>arg 2;whnf);first|refine wp_it rfl ?_|refine wp_if rfl ?_))
    (conv=>arg 2;whnf);refine wp_ite (fun h1 => ?_) (fun h1 => ?_)
    · have h1 : a.kind ≠ 3 := by simpa using h1
      have hp : pairE 9 a b = .ok (boolV (!lessV b a)) := by rw [pairE, if_pos hs, if_neg (fun h => absurd h.1 (by decide)), if_neg (by decide), if_neg (by decide), if_neg (fun h => absurd h.1 (by decide)), if_pos ⟨rfl, h1⟩]
      (conv=>arg 2;whnf);refine wp_pcall f1 ?_
      (conv=>arg 2;whnf);refine wp_pcall f2 ?_
      (conv=>arg 2;whnf);refine wp_storeE (cs := valZ) 0 0 (valL (boolV (!lessV b a))) rfl rfl (VleL.refl _) (Nat.le_refl _) rfl (R' := [.obj c (valL (boolV (!lessV b a)))]) rfl ?_
      (conv=>arg 2;whnf);refine w_ret2ck (R' := []) (a := valV (boolV (!lessV b a))) (u := .c (errV none)) c 0 0 rfl rfl rfl rfl rfl (Vle.refl _) (Vle.refl _) (List.nil_sublist _) (by rw [hp]; rfl)
    · have h1 : a.kind = 3 := by simpa using h1
      have hp : pairE 9 a b = .error 14 := by rw [pairE, if_pos hs, if_neg (fun h => absurd h.1 (by decide)), if_neg (by decide), if_neg (by decide), if_neg (fun h => absurd h.1 (by decide)), if_neg (fun h => h.2 h1)]
      (repeat ((conv=>arg 2;whnf);first|refine wp_it rfl ?_|refine wp_if rfl ?_))
      (conv=>arg 2;whnf)
      refine wp_cutR (frL [(0, i64V 9), (4, .pt (some 3) (valV a) 0), (5, .pt (some 3) (valV b) 0), (6, .loc c 0), (8, bV true)]) [.obj c valZ] (.cons (.refl _) (.cons (.refl _) (.cons (.refl _) (.cons (.refl _) (.cons (.refl _) (.nil _)))))) (List.Sublist.refl _) ?_
      (conv=>arg 2;whnf);refine wp_storeE (cs := valZ) 0 0 (valL val0) rfl rfl (VleL.refl _) (Nat.le_refl _) rfl (R' := [.obj c (valL val0)]) rfl ?_
      (conv=>arg 2;whnf);refine w_ret2ck (R' := []) (a := valV val0) (u := .c (errV (some 14))) c 0 0 rfl rfl rfl rfl rfl (Vle.refl _) (Vle.refl _) (List.nil_sublist _) (by rw [hp]; rfl)
  · have hk : (a.kind == b.kind) = false := beq_eq_false_iff_ne.2 hs
    have hp : pairE 9 a b = .error 14 := by rw [pairE, if_neg hs]
    refine wp_cutR (frL [(0, i64V 9), (4, .pt (some 3) (valV a) 0), (5, .pt (some 3) (valV b) 0), (6, .loc c 0), (8, bV false)]) [.obj c valZ] (.cons (.refl _) (.cons (.refl _) (.cons (.refl _) (.cons (.refl _) (.cons (Vle.eq (cBool hk)) (.nil _)))))) (List.Sublist.refl _) ?_
    (repeat ((conv=>arg 2;whnf);first|refine wp_it rfl ?_|refine wp_if rfl ?_))
    (conv=>arg 2;whnf)
    refine wp_cutR (frL [(0, i64V 9), (4, .pt (some 3) (valV a) 0), (5, .pt (some 3) (valV b) 0), (6, .loc c 0), (8, bV false)]) [.obj c valZ] (.cons (.refl _) (.cons (.refl _) (.cons (.refl _) (.cons (.refl _) (.cons (.refl _) (.nil _)))))) (List.Sublist.refl _) ?_
    (repeat ((conv=>arg 2;whnf);first|refine wp_it rfl ?_|refine wp_if rfl ?_))
    (conv=>arg 2;whnf)
    refine wp_cutR (frL [(0, i64V 9), (4, .pt (some 3) (valV a) 0), (5, .pt (some 3) (valV b) 0), (6, .loc c 0), (8, bV false)]) [.obj c valZ] (.cons (.refl _) (.cons (.refl _) (.cons (.refl _) (.cons (.refl _) (.cons (.refl _) (.nil _)))))) (List.Sublist.refl _) ?_
    (repeat ((conv=>arg 2;whnf);first|refine wp_it rfl ?_|refine wp_if rfl ?_))
    (conv=>arg 2;whnf)
    refine wp_cutR (frL [(0, i64V 9), (4, .pt (some 3) (valV a) 0), (5, .pt (some 3) (valV b) 0), (6, .loc c 0), (8, bV false)]) [.obj c valZ] (.cons (.refl _) (.cons (.refl _) (.cons (.refl _) (.cons (.refl _) (.cons (.refl _) (.nil _)))))) (List.Sublist.refl _) ?_
    (repeat ((conv=>arg 2;whnf);first|refine wp_it rfl ?_|refine wp_if rfl ?_))
    (conv=>arg 2;whnf)
    refine wp_cutR (frL [(0, i64V 9), (4, .pt (some 3) (valV a) 0), (5, .pt (some 3) (valV b) 0), (6, .loc c 0), (8, bV false)]) [.obj c valZ] (.cons (.refl _) (.cons (.refl _) (.cons (.refl _) (.cons (.refl _) (.cons (.refl _) (.nil _)))))) (List.Sublist.refl _) ?_
    (repeat ((conv=>arg 2;whnf);first|refine wp_it rfl ?_|refine wp_if rfl ?_))
    (conv=>arg 2;whnf)
    refine wp_cutR (frL [(0, i64V 9), (4, .pt (some 3) (valV a) 0), (5, .pt (some 3) (valV b) 0), (6, .loc c 0), (8, bV false)]) [.obj c valZ] (.cons (.refl _) (.cons (.refl _) (.cons (.refl _) (.cons (.refl _) (.cons (.refl _) (.nil _)))))) (List.Sublist.refl _) ?_
    (conv=>arg 2;whnf);refine wp_storeE (cs := valZ) 0 0 (valL val0) rfl rfl (VleL.refl _) (Nat.le_refl _) rfl (R' := [.obj c (valL val0)]) rfl ?_
    (conv=>arg 2;whnf);refine w_ret2ck (R' := []) (a := valV val0) (u := .c (errV (some 14))) c 0 0 rfl rfl rfl rfl rfl (Vle.refl _) (Vle.refl _) (List.nil_sublist _) (by rw [hp]; rfl)
theorem pair_call (op : Int) (h3 : 3 ≤ op) (h9 : op ≤ 9) (a b : Val) (ha : InR a.n) (hb : InR b.n) : PCall Tryz.prog 137 [i64V op, valV a, valV b] (resV (pairE op a b)) := by
  have : op = 3 ∨ op = 4 ∨ op = 5 ∨ op = 6 ∨ op = 7 ∨ op = 8 ∨ op = 9 := by omega
  rcases this with rfl | rfl | rfl | rfl | rfl | rfl | rfl
  · exact pair3_call a b ha hb
  · exact pair4_call a b ha hb
  · exact pair5_call a b ha hb
  · exact pair6_call a b
  · exact pair7_call a b
  · exact pair8_call a b
  · exact pair9_call a b
end Go.Sv
namespace Go.Sv
open Go Go.Proofs
def bn0 : Bn := ⟨[], ev0⟩
def bnZ : List V := [str [], str [], i64V 0, .sl none [] .zero]
def bwL (l : List Bn) : List (List V) := (List.range l.length).map fun i => [i64V ((l.length : Int) - 1 - (i : Nat)), bnV (l.reverse.getD i bn0)]
theorem bw_at {l : List Bn} {n : Nat} {b : Bn} (h : l.reverse[n]? = some b) : (bwL l)[n]? = some [i64V ((l.length : Int) - 1 - (n : Nat)), bnV b] := by
  have hn := (List.getElem?_eq_some_iff.1 h).1
  rw [List.length_reverse] at hn
  rw [bwL, List.getElem?_map, List.getElem?_range hn, Option.map_some, List.getD_eq_getElem?_getD, h]; rfl
theorem rev_at {l : List Bn} {n : Nat} (h : n < l.length) : ∃ b, l.reverse[n]? = some b ∧ l[l.length - 1 - n]? = some b := by
  refine ⟨l[l.length - 1 - n], ?_, List.getElem?_eq_getElem (by omega)⟩
  rw [List.getElem?_reverse h, List.getElem?_eq_getElem]
theorem bns_at {l : List Bn} {n : Nat} {b : Bn} (h : l[n]? = some b) : (l.map bnV)[n]? = some (.agg (bnC b)) := by rw [List.getElem?_map, h]; rfl
set_option maxRecDepth 100000 in
theorem backward_call (l : List Bn) : PCall Tryz.prog 145 [bnsV l] (.fn (.func 150) [] [.pt none (bnsV l) 0]) := by
  refine scall_of (live := []) (ords := []) Tryz.func145 rfl (by kernel_rfl) (by kernel_rfl) (Nat.le_of_ble_eq_true rfl) ?_
  (conv=>arg 2;whnf);refine w_retp rfl (Vle.eq ?_)
  rfl
set_option maxRecDepth 100000 in
theorem backward_iter (l : List Bn) (hl : l.length < 2 ^ 60) : Iter Tryz.prog 150 [] [.pt none (bnsV l) 0] (bwL l) := by
  refine ⟨⟨_, _, Tryz.func150, rfl, by kernel_rfl⟩, fun y I E R0 h0 hy => ?_⟩
  have hbl : (bwL l).length = l.length := by rw [bwL, List.length_map, List.length_range]
  have w0 : IntKind.i64.wrap (((l.map bnV).length : Int) - 1) = (l.length : Int) - 1 - (0 : Nat) := by rw [List.length_map, w_i64_small (by omega) (by omega)]; omega
  refine scall_of (live := []) (ords := []) Tryz.func150 rfl (by kernel_rfl) (by kernel_rfl) (Nat.le_of_ble_eq_true rfl) ?_
  (conv=>arg 2;whnf);refine wp_loop (fun m fr R => ∃ n : Nat, m = l.length - n ∧ n ≤ l.length ∧ I n R ∧ fr = frL [(0, .fn (.yield y) [] []), (1, .pt none (bnsV l) 0), (3, i64V ((l.length : Int) - 1 - (n : Nat)))])
    l.length _ _ (.cons (.refl _) (.cons (.refl _) (.cons (Vle.i64 _ rfl w0) (.nil _)))) (List.Sublist.refl _) ⟨0, rfl, Nat.zero_le _, h0, rfl⟩ ?_
  rintro m fr R ⟨n, rfl, hn, hI, rfl⟩
  (conv=>arg 2;whnf);refine wp_ite (fun h => ?_) (fun h => ?_)
  · have h : n < l.length := by have := of_decide_eq_true h; omega
    obtain ⟨b, hb1, hb2⟩ := rev_at h
    have hp := bw_at hb1
    have w1 : IntKind.i64.wrap (((l.length : Int) - 1 - (n : Nat)) - 1) = (l.length : Int) - 1 - ((n + 1 : Nat) : Int) := by rw [w_i64_small (by omega) (by omega)]; omega
    (conv=>arg 2;whnf);refine wp_elem (l.length - 1 - n) (bnV b) (by omega) (bns_at hb2) (Vle.refl _) ?_
    (conv=>arg 2;whnf);refine wp_yld (hy _ _ _ hp hI) ?_
    rintro b' R' (⟨rfl, hI2⟩ | ⟨rfl, hE⟩)
    · (repeat ((conv=>arg 2;whnf);first|refine wp_it rfl ?_|refine wp_if rfl ?_))
      (conv=>arg 2;whnf)
      refine wp_leaf (loop_next (l.length - (n + 1)) _ R' (by omega) (.cons (.refl _) (.cons (.refl _) (.cons (Vle.i64 _ rfl w1) (.nil _)))) (List.Sublist.refl _) ⟨n + 1, rfl, by omega, hI2, rfl⟩)
    · (repeat ((conv=>arg 2;whnf);first|refine wp_it rfl ?_|refine wp_if rfl ?_))
      (conv=>arg 2;whnf)
      refine wp_leaf (loop_ret ?_)
      (conv=>arg 2;whnf);refine w_ret0 (R' := R') rfl (List.Sublist.refl _) (.inr hE)
  · have h : n = l.length := by have := of_decide_eq_false h; omega
    subst h
    (conv=>arg 2;whnf)
    refine wp_leaf (loop_exit ?_)
    (conv=>arg 2;whnf);refine w_norm0 rfl (List.Sublist.refl _) (.inl (by rw [hbl]; exact hI))
theorem round_ret {B : List Res → Prop} {E : Exit → List Res → Prop} {fr : Fr} {R : List Res} (h : E .ret R) : roundEnd B E .ret fr R := h
theorem round_exit {B : List Res → Prop} {E : Exit → List Res → Prop} {fr : Fr} {R : List Res} {id : Nat} (h : E (.exit id) R) : roundEnd B E (.exit id) fr R := h
theorem last_hit {al : List UInt8} {l : List Bn} {n : Nat} {b : Bn} (h : ∀ x ∈ l.reverse.take n, x.al ≠ al) (hb : l.reverse[n]? = some b) (hq : b.al = al) : lastB al l = some b := by
  rw [lastB, show l.reverse = l.reverse.take n ++ b :: l.reverse.drop (n + 1) by rw [← drop_at hb, List.take_append_drop], List.find?_append, List.find?_eq_none.2 fun x hx => by simpa using h x hx]
  simp [hq]
theorem last_none {al : List UInt8} {l : List Bn} (h : ∀ x ∈ l.reverse, x.al ≠ al) : lastB al l = none := by
  rw [lastB, List.find?_eq_none]
  exact fun x hx => by simpa using h x hx
theorem len_two {l : List Bn} {i : Nat} {args : List V} (h : (bwL l)[i]? = some args) : args.length = 2 := by
  rw [bwL, List.getElem?_map, Option.map_eq_some_iff] at h
  obtain ⟨_, _, rfl⟩ := h
  rfl
theorem bw_get {l : List Bn} {i : Nat} {args : List V} (h : (bwL l)[i]? = some args) : ∃ b k, l.reverse[i]? = some b ∧ args = [i64V k, bnV b] := by
  have hi := (List.getElem?_eq_some_iff.1 h).1
  rw [bwL, List.length_map, List.length_range] at hi
  obtain ⟨b, hb, _⟩ := rev_at hi
  rw [bw_at hb] at h
  cases h
  exact ⟨b, _, hb, rfl⟩
theorem w_ret2ccE {P : Program} {R : List Res} {fn : Func} {fr : Fr} {x y : Tmp} {tx ty : TypeId} {cs ds : List V} {v0 u0 a b v : V} {sh sh' : Option Nat} (bl off i bl' off' j : Nat) (h : fn.results.toList = [.cell x tx, .cell y ty]) (hx : fr x = .loc bl off) (hy : fr y = .loc bl' off') (hsh : shapeOf P tx = some sh) (hsh' : shapeOf P ty = some sh')
    (hR : R[i]? = some (.obj bl cs)) (hR' : R[j]? = some (.obj bl' ds)) (hp : partOf sh cs off = some v0) (hp' : partOf sh' ds off' = some u0) (ha : Vle v0 a) (hb : Vle u0 b) (he : .tup [a, b] = v) : (Tree.leaf .ret fr).wp P R (Ends P fn fun u _ => u = v) := by
  subst he; exact w_ret2cc bl off i bl' off' j h hx hy hsh hsh' hR hR' hp hp' ha hb
set_option maxRecDepth 100000 in
theorem field_call (s : Sc) (hs : ScOk s) (x : Ex) (l : List Bn) (hl : l.length < 2 ^ 60) : PCall Tryz.prog 135 [scV s, .agg (exC x), bnsV l] (resV (fieldE s l x.al x.fd)) := by
  have hbl : (bwL l).length = l.length := by rw [bwL, List.length_map, List.length_range]
  refine scall_of (live := []) (ords := []) Tryz.func135 rfl (by kernel_rfl) (by kernel_rfl) (Nat.le_of_ble_eq_true rfl) ?_
  (conv=>arg 2;whnf);refine wp_allocE valZ rfl fun c => ?_
  (conv=>arg 2;whnf);refine wp_allocE [.c (errV none)] rfl fun d => ?_
  (conv=>arg 2;whnf);refine wp_pcall (backward_call l) ?_
  (conv=>arg 2;whnf);refine wp_range (backward_iter l hl) (fun i R1 => ∃ T, R1 = .obj c valZ :: .obj d [.c (errV none)] :: T ∧ ∀ y ∈ l.reverse.take i, y.al ≠ x.al) ⟨[], rfl, fun y hy => by simp at hy⟩ (fun i args h => len_two h) (fun i args R1 hi hJ => ?_) (fun R1 hJ => ?_)
  · obtain ⟨T, rfl, hT⟩ := hJ
    obtain ⟨b, k, hb, rfl⟩ := bw_get hi
    have hstr := strEq b.al x.al
    (conv=>arg 2;whnf);refine wp_allocE bnZ rfl fun q => ?_
    (conv=>arg 2;whnf);refine wp_storeE (cs := bnZ) (T.length + 2) 0 (bnC b) (by simp) rfl (VleL.refl _) (Nat.le_refl _) rfl (R' := .obj c valZ :: .obj d [.c (errV none)] :: (T ++ [.obj q (bnC b)])) (by simp [splice, bnC, bnZ, evC]) ?_
    (conv=>arg 2;whnf);refine wp_load (cs := bnC b) (T.length + 2) (by simp) rfl ?_
    (conv=>arg 2;whnf);refine wp_ite (fun h1 => ?_) (fun h1 => ?_)
    · have h1 : b.al ≠ x.al := by rw [hstr] at h1; simpa using h1
      (conv=>arg 2;whnf)
      refine wp_leaf ⟨T ++ [.obj q (bnC b)], rfl, fun y hy => ?_⟩
      rw [List.take_add_one, hb] at hy
      rcases List.mem_append.1 hy with hy | hy
      · exact hT y hy
      · have : y = b := by simpa using hy
        rw [this]; exact h1
    · have h1 : b.al = x.al := by rw [hstr] at h1; simpa using h1
      have hlast := last_hit hT hb h1
      have f1 := getV_call s hs b.e x.fd
      (conv=>arg 2;whnf);refine wp_load (cs := bnC b) (T.length + 2) (by simp) rfl ?_
      cases hg : getV s b.e x.fd with
      | some v =>
        rw [hg] at f1
        have hr : fieldE s l x.al x.fd = .ok v := by rw [fieldE, hlast]; simp only; rw [hg]
        (conv=>arg 2;whnf);refine wp_pcall f1 ?_
        (conv=>arg 2;whnf);refine wp_allocE valZ rfl fun u => ?_
        (conv=>arg 2;whnf);refine wp_storeE (cs := valZ) (T.length + 3) 0 (valL v) (by simp) rfl (VleL.refl _) (Nat.le_refl _) rfl (R' := .obj c valZ :: .obj d [.c (errV none)] :: (T ++ [.obj q (bnC b), .obj u (valL v)])) (by simp [splice, valL, valZ]) ?_
        (repeat ((conv=>arg 2;whnf);first|refine wp_it rfl ?_|refine wp_if rfl ?_))
        (conv=>arg 2;whnf);refine wp_load (cs := valL v) (T.length + 3) (by simp) rfl ?_
        (conv=>arg 2;whnf);refine wp_storeE (cs := valZ) 0 0 (valL v) rfl rfl (VleL.refl _) (Nat.le_refl _) rfl (R' := .obj c (valL v) :: .obj d [.c (errV none)] :: (T ++ [.obj q (bnC b), .obj u (valL v)])) rfl ?_
        (conv=>arg 2;whnf);refine wp_storeE (cs := [.c (errV none)]) 1 0 [.c (errV none)] rfl rfl (VleL.refl _) (Nat.le_refl _) rfl (R' := .obj c (valL v) :: .obj d [.c (errV none)] :: (T ++ [.obj q (bnC b), .obj u (valL v)])) rfl ?_
        (conv=>arg 2;whnf)
        refine wp_leaf (round_ret ?_)
        (conv=>arg 2;whnf);refine w_ret2ccE (cs := valL v) (ds := [.c (errV none)]) c 0 0 d 0 1 rfl rfl rfl rfl rfl rfl rfl rfl rfl (Vle.refl _) (Vle.refl _) (by rw [hr]; rfl)
      | none =>
        rw [hg] at f1
        have hr : fieldE s l x.al x.fd = .error 13 := by rw [fieldE, hlast]; simp only; rw [hg]
        (conv=>arg 2;whnf);refine wp_pcall f1 ?_
        (conv=>arg 2;whnf);refine wp_allocE valZ rfl fun u => ?_
        (conv=>arg 2;whnf);refine wp_storeE (cs := valZ) (T.length + 3) 0 (valL val0) (by simp) rfl (VleL.refl _) (Nat.le_refl _) rfl (R' := .obj c valZ :: .obj d [.c (errV none)] :: (T ++ [.obj q (bnC b), .obj u (valL val0)])) (by simp [splice, valL, valZ]) ?_
        (repeat ((conv=>arg 2;whnf);first|refine wp_it rfl ?_|refine wp_if rfl ?_))
        (conv=>arg 2;whnf)
        refine wp_leaf (round_exit ?_)
        (conv=>arg 2;whnf);refine wp_storeE (cs := valZ) 0 0 (valL val0) rfl rfl (VleL.refl _) (Nat.le_refl _) rfl (R' := .obj c (valL val0) :: .obj d [.c (errV none)] :: (T ++ [.obj q (bnC b), .obj u (valL val0)])) rfl ?_
        (conv=>arg 2;whnf);refine wp_storeE (cs := [.c (errV none)]) 1 0 [.c (errV (some 13))] rfl rfl (VleL.refl _) (Nat.le_refl _) rfl (R' := .obj c (valL val0) :: .obj d [.c (errV (some 13))] :: (T ++ [.obj q (bnC b), .obj u (valL val0)])) rfl ?_
        (conv=>arg 2;whnf);refine w_ret2ccE (cs := valL val0) (ds := [.c (errV (some 13))]) c 0 0 d 0 1 rfl rfl rfl rfl rfl rfl rfl rfl rfl (Vle.refl _) (Vle.refl _) (by rw [hr]; rfl)
  · obtain ⟨T, rfl, hT⟩ := hJ
    rw [hbl, ← List.length_reverse, List.take_length] at hT
    have hr : fieldE s l x.al x.fd = .error 13 := by rw [fieldE, last_none hT]
    (conv=>arg 2;whnf);refine wp_storeE (cs := valZ) 0 0 (valL val0) rfl rfl (VleL.refl _) (Nat.le_refl _) rfl (R' := .obj c (valL val0) :: .obj d [.c (errV none)] :: (T)) rfl ?_
    (conv=>arg 2;whnf);refine wp_storeE (cs := [.c (errV none)]) 1 0 [.c (errV (some 13))] rfl rfl (VleL.refl _) (Nat.le_refl _) rfl (R' := .obj c (valL val0) :: .obj d [.c (errV (some 13))] :: (T)) rfl ?_
    (conv=>arg 2;whnf);refine w_ret2ccE (cs := valL val0) (ds := [.c (errV (some 13))]) c 0 0 d 0 1 rfl rfl rfl rfl rfl rfl rfl rfl rfl (Vle.refl _) (Vle.refl _) (by rw [hr]; rfl)
end Go.Sv
namespace Go.Sv
open Go Go.Proofs
theorem headB_len {x y : Ex} (h : headB x y = true) : x.kids.length = y.kids.length := by
  simp only [headB, Bool.and_eq_true] at h
  exact of_decide_eq_true h.2.2.2.2
theorem head_ite {x y : Ex} {a b : Bool} (h : headB x y = true → a = b) : (headB x y && a) = (headB x y && b) := by
  cases hh : headB x y with
  | false => rfl
  | true => rw [h hh]
theorem same0_call (x : Ex) (hl : x.kids.length < 2 ^ 60) : PCall Tryz.prog 119 [.agg (exC x), .agg (exC ex0)] (bV (zeroB x)) := by
  have := same_step x ex0 (fun _ => false) hl (fun n a b ha hb => by simp [ex0, Ex.kids] at hb)
  rw [head_ite (b := true) (fun h => by rw [headB_len h]; rfl), Bool.and_true] at this
  exact this
end Go.Sv
namespace Go.Sv
open Go Go.Proofs
def ExBd (x : Ex) : Prop := ExOk 20 x ∧ ExOk 6 x ∧ ExSm 5 x ∧ (nodesN 20 x).length ≤ 2 ^ 40
theorem ExBd.kids {x : Ex} (h : ExBd x) : x.kids.length < 2 ^ 60 := h.1.2.2.2.1
theorem zero_vle : Vle (.agg [i64V 0, i64V 0, i64V 0, str [], str [], str [], .sl none [] .zero]) (.agg (exC ex0)) :=
  Vle.agg (.cons (.refl _) (.cons (.refl _) (.cons (.refl _) (.cons (.refl _) (.cons (.refl _) (.cons (.refl _) (.cons (Vle.nil _ _ _) .nil)))))))
end Go.Sv
namespace Go.Sv
open Go Go.Proofs
def I64 (n : Int) : Prop := -9223372036854775808 ≤ n ∧ n < 9223372036854775808
mutual
def exRg : Ex → Prop
  | .mk _ v _ _ l => I64 v.n ∧ exsRg l
def exsRg : List Ex → Prop
  | [] => True
  | x :: l => exRg x ∧ exsRg l
end
theorem exsRg_iff (l : List Ex) : exsRg l ↔ ∀ y ∈ l, exRg y := by
  induction l with
  | nil => rw [exsRg]; simp
  | cons x l ih => rw [exsRg, ih]; simp
theorem exRg_eq (x : Ex) : exRg x ↔ I64 x.val.n ∧ ∀ y ∈ x.kids, exRg y := by
  cases x; rw [exRg, exsRg_iff]; rfl
end Go.Sv
