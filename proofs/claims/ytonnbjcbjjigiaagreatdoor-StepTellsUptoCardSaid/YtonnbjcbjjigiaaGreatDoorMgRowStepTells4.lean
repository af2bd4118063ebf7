/- Parts of the proof, one behind the other. -/
import Derived.Test.YtonnbjcbjjigiaaGreatDoorMgRowStepTells3
import Derived.Lib.ParseIntB
import Derived.Lib.Strings
import Derived.Lib.Bytealg
import Derived.Test.YtonnbjcbjjigiaaGreatDoorProg
namespace Go.Sv
open Go
def frL : List (Nat × V) → Fr
  | [], _ => .undef
  | (k, v) :: l, t => bif Nat.beq t k then v else frL l t
theorem Vle.eq {a b : V} (h : a = b) : Vle a b := by subst h; exact Vle.refl _
theorem Weak.refl (fr : Fr) : Weak fr fr := fun _ => Vle.refl _
theorem Weak.nil (fr : Fr) : Weak fr (frL []) := fun _ => Vle.undef _
theorem Weak.cons {fr : Fr} {k : Nat} {v : V} {l : List (Nat × V)} (h : Vle (fr k) v) (hs : Weak fr (frL l)) : Weak fr (frL ((k, v) :: l)) := fun t => by
  simp only [frL]
  cases e : Nat.beq t k with
  | true => rw [Nat.eq_of_beq_eq_true e]; exact h
  | false => exact hs t
section
variable {P : Program} {R : List Res} {Q : Exit → Fr → List Res → Prop}
theorem wp_ite {b : Bool} {t f : Tree} (h1 : b = true → t.wp P R Q) (h2 : b = false → f.wp P R Q) : (Tree.ite b t f).wp P R Q := ⟨h1, h2⟩
theorem wp_it {b : Bool} {t f : Tree} (h : b = true) (h2 : t.wp P R Q) : (Tree.ite b t f).wp P R Q := wp_ite (fun _ => h2) (fun e => Bool.noConfusion (h.symm.trans e))
theorem wp_if {b : Bool} {t f : Tree} (h : b = false) (h2 : f.wp P R Q) : (Tree.ite b t f).wp P R Q := wp_ite (fun e => Bool.noConfusion (h.symm.trans e)) (fun _ => h2)
theorem wp_need {p : Prop} {t : Tree} (h1 : p) (h2 : t.wp P R Q) : (Tree.need p t).wp P R Q := ⟨h1, h2⟩
theorem wp_load {b off : Nat} {sh : Option Nat} {k : V → Tree} (i : Nat) {cs : List V} {v : V} (h1 : R[i]? = some (.obj b cs)) (h2 : partOf sh cs off = some v) (h3 : (k v).wp P R Q) : (Tree.load b off sh k).wp P R Q := ⟨i, cs, v, h1, h2, h3⟩
theorem wp_store {b off : Nat} {vs : List V} {t : Tree} (i : Nat) {cs us : List V} (h1 : R[i]? = some (.obj b cs)) (h2 : VleL vs us) (h3 : off + us.length ≤ cs.length) (h4 : vs.all oneV = true) (h5 : t.wp P (R.set i (.obj b (splice cs off us))) Q) :
    (Tree.store b off vs t).wp P R Q := ⟨i, cs, us, h1, h2, h3, fun v hv => List.all_eq_true.1 h4 v hv, h5⟩
theorem wp_allocE {cs : List V} {k : V → Tree} (cs' : List V) (hc : cs = cs') (h : ∀ b, (k (.loc b 0)).wp P (R ++ [.obj b cs']) Q) : (Tree.alloc cs k).wp P R Q := by subst hc; exact fun b _ => h b
theorem wp_append_nil {sh sh' : Option Nat} {by_ : Nat} {ys : List V} {k : V → Tree} (hok : ∀ y ∈ ys, okE sh y) (hle : ys.length * by_ ≤ 140737488355328) (h : ∀ t, (k (.sl sh ys (.t t))).wp P (R ++ [.tok t sh]) Q) :
    (Tree.append sh by_ (.sl sh' [] .zero) ys k).wp P R Q := ⟨ys, VleL.refl _, hok, .inl ⟨sh', rfl, hle, h⟩⟩
theorem wp_append_tok {sh : Option Nat} {by_ t : Nat} {xs ys : List V} {k : V → Tree} (i : Nat) (hR : R[i]? = some (.tok t sh)) (hok : ∀ y ∈ ys, okE sh y) (hle : (xs.length + ys.length) * by_ ≤ 140737488355328) (h : ∀ t', (k (.sl sh (xs ++ ys) (.t t'))).wp P (R.set i (.tok t' sh)) Q) :
    (Tree.append sh by_ (.sl sh xs (.t t)) ys k).wp P R Q := ⟨ys, VleL.refl _, hok, .inr ⟨i, t, xs, rfl, hR, hle, h⟩⟩
theorem wp_call {f : FuncId} {args : List V} {k : V → Tree} {K : V → List Res → Prop} (h : SCall P f args R K) (hk : ∀ v R', K v R' → (k v).wp P R' Q) : (Tree.call f args k).wp P R Q := ⟨args, VleL.refl _, h.mono hk⟩
theorem wp_callF {f : FuncId} {args : List V} {k : V → Tree} {K : V → List Res → Prop} (A R0 B : List Res) (hR : R = A ++ R0 ++ B) (h : SCall P f args R0 K) (hk : ∀ v R1, K v R1 → (k v).wp P (A ++ R1 ++ B) Q) : (Tree.call f args k).wp P R Q := by
  subst hR
  refine ⟨args, VleL.refl _, h.frame.mono ?_⟩
  rintro v R' ⟨R1, hK, rfl⟩
  exact hk v R1 hK
theorem wp_pcall {f : FuncId} {args : List V} {k : V → Tree} {v : V} (h : PCall P f args v) (hk : (k v).wp P R Q) : (Tree.call f args k).wp P R Q :=
  ⟨args, VleL.refl _, (h.any R).mono fun u R' ⟨h1, h2⟩ => by subst h1; subst h2; exact hk⟩
theorem wp_nilcmp {e : Bool} {xs : List V} {k : V → Tree} (h : ∀ b : Bool, (b = true → xs = []) → (k (.c (.bool (bif e then b else !b)))).wp P R Q) : (Tree.nilcmp e xs k).wp P R Q := h
theorem wp_loop {body : Fr → Tree} {fr : Fr} {k : Exit → Fr → Tree} (I : Nat → Fr → List Res → Prop) (n : Nat) (fr1 : Fr) (R1 : List Res) (h1 : Weak fr fr1) (h2 : R1.Sublist R) (h3 : I n fr1 R1)
    (h : ∀ n fr R, I n fr R → (body fr).wp P R (loopPost I n fun e fr' R' => (k e fr').wp P R' Q)) : (Tree.loop body fr k).wp P R Q := ⟨I, ⟨n, fr1, R1, UpdF.weak h1 h2, h3⟩, h⟩
theorem wp_cutR {fr : Fr} {k : Fr → Tree} (fr1 : Fr) (R1 : List Res) (h1 : Weak fr fr1) (h2 : R1.Sublist R) (h : (k fr1).wp P R1 Q) : (Tree.cut fr k).wp P R Q := ⟨fr1, R1, UpdF.weak h1 h2, h⟩
theorem wp_loopU {body : Fr → Tree} {fr : Fr} {k : Exit → Fr → Tree} (I : Nat → Fr → List Res → Prop) (n : Nat) (fr1 : Fr) (R1 : List Res) (h1 : UpdF fr R fr1 R1) (h3 : I n fr1 R1)
    (h : ∀ n fr R, I n fr R → (body fr).wp P R (loopPost I n fun e fr' R' => (k e fr').wp P R' Q)) : (Tree.loop body fr k).wp P R Q := ⟨I, ⟨n, fr1, R1, h1, h3⟩, h⟩
theorem wp_leaf {e : Exit} {fr : Fr} (h : Q e fr R) : (Tree.leaf e fr).wp P R Q := h
theorem loop_next {I : Nat → Fr → List Res → Prop} {n : Nat} {K : Exit → Fr → List Res → Prop} {fr' : Fr} {R' : List Res} (n' : Nat) (fr1 : Fr) (R1 : List Res) (h1 : n' < n) (h2 : Weak fr' fr1) (h3 : R1.Sublist R') (h4 : I n' fr1 R1) : loopPost I n K .normal fr' R' :=
  ⟨n', fr1, R1, h1, UpdF.weak h2 h3, h4⟩
theorem loop_exit {I : Nat → Fr → List Res → Prop} {n id : Nat} {K : Exit → Fr → List Res → Prop} {fr' : Fr} {R' : List Res} (h : K (.exit id) fr' R') : loopPost I n K (.exit id) fr' R' := h
theorem loop_ret {I : Nat → Fr → List Res → Prop} {n : Nat} {K : Exit → Fr → List Res → Prop} {fr' : Fr} {R' : List Res} (h : K .ret fr' R') : loopPost I n K .ret fr' R' := h
theorem wp_elem {sh : Option Nat} {xs : List V} {n : Int} {k : V → Tree} (i : Nat) {u' : V} (u : V) (h1 : n = i) (h2 : xs[i]? = some u') (h3 : Vle u' u) (h4 : (k (.pt sh u 0)).wp P R Q) : (Tree.elem sh xs n k).wp P R Q := ⟨i, u', u, h1, h2, h3, h4⟩
theorem wp_pc {f : FuncId} {args : List V} {k : V → Tree} {v : V} (h : PCall P f args v) (hk : (k v).wp P R Q) : (Tree.pcall f args k).wp P R Q := ⟨args, v, VleL.refl _, h, hk⟩
theorem wp_storeE {b off : Nat} {vs : List V} {t : Tree} (i off' : Nat) {cs : List V} (us : List V) {R' : List Res} (h1 : R[i]? = some (.obj b cs)) (ho : off = off') (h2 : VleL vs us) (h3 : off' + us.length ≤ cs.length) (h4 : vs.all oneV = true) (hR : R.set i (.obj b (splice cs off' us)) = R') (h5 : t.wp P R' Q) :
    (Tree.store b off vs t).wp P R Q := by subst ho; exact ⟨i, cs, us, h1, h2, h3, fun v hv => List.all_eq_true.1 h4 v hv, hR ▸ h5⟩
theorem wp_pcV {f : FuncId} {args args' : List V} {k : V → Tree} {v : V} (ha : VleL args args') (h : PCall P f args' v) (hk : (k v).wp P R Q) : (Tree.pcall f args k).wp P R Q := ⟨args', v, ha, h, hk⟩
theorem wp_pcallV {f : FuncId} {args args' : List V} {k : V → Tree} {v : V} (ha : VleL args args') (h : PCall P f args' v) (hk : (k v).wp P R Q) : (Tree.call f args k).wp P R Q :=
  ⟨args', ha, (h.any R).mono fun u R' ⟨h1, h2⟩ => by subst h1; subst h2; exact hk⟩
theorem wp_yld {l : Nat} {args : List V} {k : V → Tree} {K : Bool → List Res → Prop} (h : YCall P l args R K) (hk : ∀ b R', K b R' → (k (.c (.bool b))).wp P R' Q) : (Tree.yld l args k).wp P R Q := ⟨args, VleL.refl _, h.mono hk⟩
def tkOf : Option Nat → Tk
  | none => .zero
  | some t => .t t
def tokR (sh : Option Nat) : Option Nat → List Res
  | none => []
  | some t => [.tok t sh]
def Iter (P : Program) (gf : FuncId) (first caps : List V) (xs : List (List V)) : Prop :=
  isFn P gf ∧ ∀ (l : Nat) (I : Nat → List Res → Prop) (E : List Res → Prop) (R0 : List Res), I 0 R0 →
    (∀ (i : Nat) (args : List V) (R : List Res), xs[i]? = some args → I i R → YCall P l args R fun b R' => (b = true ∧ I (i + 1) R') ∨ (b = false ∧ E R')) →
    SCall P gf (first ++ [.fn (.yield l) [] []] ++ caps) R0 fun _ R' => I xs.length R' ∨ E R'
theorem wp_range {gf : FuncId} {first caps : List V} {xs : List (List V)} {ps : List Nat} {body : Fr → Tree} {fr : Fr} {k : Exit → Fr → Tree} (h : Iter P gf first caps xs) (J : Nat → List Res → Prop) (h0 : J 0 R) (hlen : ∀ (i : Nat) (args : List V), xs[i]? = some args → args.length = ps.length)
    (hb : ∀ (i : Nat) (args : List V) (R1 : List Res), xs[i]? = some args → J i R1 → (body (putAll fr ps args)).wp P R1 (roundEnd (J (i + 1)) fun e R' => (k e fr).wp P R' Q)) (hk : ∀ R1, J xs.length R1 → (k .normal fr).wp P R1 Q) :
    (Tree.range (.fn (.func gf) first caps) ps body fr k).wp P R Q := by
  refine ⟨gf, first, caps, rfl, h.1, fun l lp hY => ?_⟩
  refine (h.2 l (fun i R' => ∃ R1, R' = R1 ++ [.lop l lp fr] ∧ J i R1) (fun R' => ∃ e R1, (e = .ret ∨ ∃ id, e = .exit id) ∧ R' = R1 ++ [.lop l (lp.left e) fr] ∧ (k e fr).wp P R1 Q) _ ⟨R, rfl, h0⟩ ?_).mono ?_
  · rintro i args R' hi ⟨R1, rfl, hJ⟩
    refine (hY args R1 (J (i + 1)) (fun e R' => (k e fr).wp P R' Q) (hlen i args hi) (hb i args R1 hi hJ)).mono ?_
    rintro b R' (⟨hb, R2, rfl, hJ⟩ | ⟨hb, e, R2, he, rfl, hE⟩)
    · exact .inl ⟨hb, R2, rfl, hJ⟩
    · exact .inr ⟨hb, e, R2, he, rfl, hE⟩
  · rintro v R' (⟨R1, rfl, hJ⟩ | ⟨e, R1, he, rfl, hE⟩)
    · exact .inl ⟨R1, rfl, hk R1 hJ⟩
    · exact .inr ⟨e, R1, he, rfl, hE⟩
theorem w_ret0 {fn : Func} {K : V → List Res → Prop} {fr : Fr} {R' : List Res} (h : fn.results.toList = []) (hs : R'.Sublist R) (hK : K (.tup []) R') : (Tree.leaf .ret fr).wp P R (Ends P fn K) :=
  ⟨.inr rfl, [], .tup [], R', by rw [h]; rfl, UpdV.vle (Vle.refl _) hs, hK⟩
theorem w_norm0 {fn : Func} {K : V → List Res → Prop} {fr : Fr} {R' : List Res} (h : fn.results.toList = []) (hs : R'.Sublist R) (hK : K (.tup []) R') : (Tree.leaf .normal fr).wp P R (Ends P fn K) :=
  ⟨.inl rfl, [], .tup [], R', by rw [h]; rfl, UpdV.vle (Vle.refl _) hs, hK⟩
theorem w_ret1 {fn : Func} {K : V → List Res → Prop} {fr : Fr} {t : Tmp} {v : V} {R' : List Res} (h : fn.results.toList = [.tmp t]) (hv : Vle (fr t) v) (hs : R'.Sublist R) (hK : K v R') : (Tree.leaf .ret fr).wp P R (Ends P fn K) :=
  ⟨.inr rfl, [fr t], v, R', by rw [h]; exact ⟨[], rfl, rfl⟩, UpdV.vle hv hs, hK⟩
theorem w_retp {fn : Func} {fr : Fr} {t : Tmp} {v : V} (h : fn.results.toList = [.tmp t]) (hv : Vle (fr t) v) : (Tree.leaf .ret fr).wp P R (Ends P fn fun u _ => u = v) :=
  w_ret1 h hv (List.nil_sublist _) rfl
theorem w_ret2 {fn : Func} {K : V → List Res → Prop} {fr : Fr} {t u : Tmp} {a b : V} {R' : List Res} (h : fn.results.toList = [.tmp t, .tmp u]) (ha : Vle (fr t) a) (hb : Vle (fr u) b) (hs : R'.Sublist R) (hK : K (.tup [a, b]) R') : (Tree.leaf .ret fr).wp P R (Ends P fn K) :=
  ⟨.inr rfl, [fr t, fr u], .tup [a, b], R', by rw [h]; exact ⟨_, rfl, _, rfl, rfl⟩, UpdV.vle (Vle.tup (.cons ha (.cons hb .nil))) hs, hK⟩
theorem YCall.frame {l : Nat} {args : List V} {R A B : List Res} {K : Bool → List Res → Prop} (h : YCall P l args R K) : YCall P l args (A ++ R ++ B) fun b R' => ∃ R1, K b R1 ∧ R' = A ++ R1 ++ B := by
  intro g w xs hw hx hr
  obtain ⟨f, tmps, assign, body, hy, hR⟩ := h g w xs hw hx (hr.sub (by simp))
  refine ⟨f, tmps, assign, body, hy, hR.mono ?_⟩
  rintro e w' ⟨b, g', R1, he, hK, hA⟩
  exact ⟨b, g', A ++ R1 ++ B, he, ⟨R1, hK, rfl⟩, After.frame hr hA⟩
end
end Go.Sv
namespace Go.Sv
open Go
def S (l : List UInt8) : ByteArray := ⟨l.toArray⟩
def str (l : List UInt8) : V := .c (.string (S l))
@[simp] theorem S_size (l : List UInt8) : (S l).size = l.length := rfl
@[simp] theorem S_inj {l m : List UInt8} : S l = S m ↔ l = m := by simp [S]
@[simp] theorem S_byteAt (l : List UInt8) (i : Nat) : byteAt (S l) i = l.getD i 0 := rfl
@[simp] theorem S_list (l : List UInt8) : (S l).data.toList = l := rfl
@[simp] theorem S_extract (l : List UInt8) (a b : Nat) : (S l).extract a b = S ((l.take b).drop a) := by
  apply ByteArray.ext
  simp [S, ByteArray.data_extract, List.extract_eq_take_drop, List.drop_take]
@[simp] theorem S_append (l m : List UInt8) : S l ++ S m = S (l ++ m) := by
  apply ByteArray.ext
  simp [S]
theorem S_of (s : ByteArray) : s = S s.data.toList := by cases s; simp [S]
end Go.Sv
namespace Go.Sv
open Go
def Rows (sh : Option Nat) (cs : List V) : Nat → List V → Prop
  | _, [] => True
  | o, x :: xs => (∃ u, partOf sh cs o = some u ∧ Vle u x) ∧ Rows sh cs (o + width sh) xs
mutual
inductive Frz (b : Nat) (cs : List V) : V → V → Prop
  | vle {v v' : V} (h : Vle v v') : Frz b cs v v'
  | row {sh : Option Nat} {o n cap : Nat} {xs : List V} (hn : xs.length = n) (hw : 0 < width sh) (hle : o + n * width sh ≤ cs.length) (h : Rows sh cs o xs) : Frz b cs (.lsl sh b o n cap) (.sl sh xs .no)
  | agg {ds es : List V} (h : FrzL b cs ds es) : Frz b cs (.agg ds) (.agg es)
  | tup {ds es : List V} (h : FrzL b cs ds es) : Frz b cs (.tup ds) (.tup es)
inductive FrzL (b : Nat) (cs : List V) : List V → List V → Prop
  | nil : FrzL b cs [] []
  | cons {v v' : V} {vs vs' : List V} (h : Frz b cs v v') (hs : FrzL b cs vs vs') : FrzL b cs (v :: vs) (v' :: vs')
end
theorem Frz.refl {b : Nat} {cs : List V} (v : V) : Frz b cs v v := .vle (Vle.refl v)
theorem FrzL.refl {b : Nat} {cs : List V} : ∀ vs : List V, FrzL b cs vs vs
  | [] => .nil
  | v :: vs => .cons (Frz.refl v) (FrzL.refl vs)
inductive FrzR (b : Nat) (cs : List V) : List Res → List Res → Prop
  | nil : FrzR b cs [] []
  | keep (x : Res) {l l' : List Res} (h : FrzR b cs l l') : FrzR b cs (x :: l) (x :: l')
  | drop (x : Res) {l l' : List Res} (h : FrzR b cs l l') : FrzR b cs (x :: l) l'
  | obj (c : Nat) {ds es : List V} (hd : FrzL b cs ds es) {l l' : List Res} (h : FrzR b cs l l') : FrzR b cs (.obj c ds :: l) (.obj c es :: l')
theorem FrzR.refl {b : Nat} {cs : List V} : ∀ l : List Res, FrzR b cs l l
  | [] => .nil
  | x :: l => .keep x (FrzR.refl l)
section
variable {g g' : Gh} {w : World} {b : Nat} {cs : List V} {R : List Res}
theorem rows_rel {sh : Option Nat} {vals : List Value} (hl : RelL g w cs vals) : ∀ {xs : List V} {o : Nat}, Rows sh cs o xs → RelXs g w sh xs (fun i => vals[o + i]?)
  | [], _, _ => by simp [RelXs]
  | x :: xs, o, h => by
    obtain ⟨⟨u, hu, hle⟩, h2⟩ := h
    rw [relXs_cons]
    have h1 := relE_part (l := vals.toArray) (by simpa using hl) hu
    refine ⟨RelE.vle hle (relE_congr h1 fun i _ => by simp), ?_⟩
    have := rows_rel (vals := vals) hl h2
    have e : (fun i => vals[o + (i + width sh)]?) = (fun i => vals[o + width sh + i]?) := by
      funext i; congr 1; omega
    rw [e]; exact this
structure Turned (b : Nat) (cs : List V) (g g' : Gh) (w : World) : Prop where
  pre : Pre g w g' w
  cells : cs = [] ∨ ∃ vals : List Value, RelL g w cs vals ∧ (∀ o, cell w b o = vals[o]?) ∧ vals.length ≤ g'.cm b
mutual
theorem Frz.rel (T : Turned b cs g g' w) : ∀ {v v' : V} {x : Value}, Frz b cs v v' → RelV g w v x → RelV g' w v' x
  | _, _, x, .vle h, hx => RelV.mono T.pre _ _ (h _ _ _ hx)
  | _, _, x, .row (sh := sh) (o := o) (n := n) (cap := cap) (xs := xs) hn hw hle h, hx => by
    simp only [RelV] at hx ⊢
    obtain ⟨a, rfl, hc, ha⟩ := hx
    refine ⟨a, n, cap, rfl, hn.symm, hc, trivial, ?_⟩
    by_cases h0 : n = 0
    · left; exact List.eq_nil_of_length_eq_zero (by omega)
    · right
      have hn1 : 0 < n * width sh := Nat.mul_pos (by omega) hw
      rcases T.cells with hcs | ⟨vals, hl, hcell, hcm⟩
      · subst hcs; simp at hle; omega
      · have hlen := relL_length hl
        refine ⟨b, o, ha.resolve_left (by omega), by omega, ?_⟩
        refine RelXs.mono T.pre sh xs _ _ (fun i _ => ?_) (rows_rel hl h)
        exact hcell (o + i)
  | _, _, x, .agg h, hx => by
    simp only [RelV] at hx ⊢
    obtain ⟨l, rfl, h1⟩ := hx
    exact ⟨l, rfl, FrzL.rel T h h1⟩
  | _, _, x, .tup h, hx => by
    simp only [RelV] at hx ⊢
    obtain ⟨l, rfl, h1⟩ := hx
    exact ⟨l, rfl, FrzL.rel T h h1⟩
theorem FrzL.rel (T : Turned b cs g g' w) : ∀ {vs vs' : List V} {xs : List Value}, FrzL b cs vs vs' → RelL g w vs xs → RelL g' w vs' xs
  | _, _, xs, .nil, hx => hx
  | _, _, xs, .cons h hs, hx => by
    simp only [RelL] at hx ⊢
    obtain ⟨x, ys, rfl, h1, h2⟩ := hx
    exact ⟨x, ys, rfl, Frz.rel T h h1, FrzL.rel T hs h2⟩
end
theorem FrzL.length : ∀ {vs vs' : List V}, FrzL b cs vs vs' → vs'.length = vs.length
  | _, _, .nil => rfl
  | _, _, .cons _ hs => by simp [FrzL.length hs]
theorem frzR_rel (T : Turned b cs g g' w) : ∀ {l l' : List Res}, FrzR b cs l l' → (∀ x ∈ l, RelRes g w x) → (∀ c ∈ blocks g l, g'.cm c = g.cm c) → (∀ x ∈ l', RelRes g' w x) ∧ (blocks g' l').Sublist (blocks g l)
  | _, _, .nil, _, _ => ⟨by simp, List.Sublist.refl _⟩
  | _, _, .keep x (l := l) h, hl, hb => by
    obtain ⟨h1, h2⟩ := frzR_rel T h (fun y hy => hl y (by simp [hy])) fun c hc => hb c (by simp only [blocks, List.flatMap_cons, List.mem_append] at hc ⊢; exact .inr hc)
    obtain ⟨h3, h4⟩ := (hl x (by simp)).kept T.pre fun c hc => ⟨rfl, hb c (by simp only [blocks, List.flatMap_cons, List.mem_append]; exact .inl hc)⟩
    refine ⟨fun y hy => ?_, ?_⟩
    · rcases List.mem_cons.1 hy with rfl | hy
      · exact h3
      · exact h1 y hy
    · simp only [blocks, List.flatMap_cons] at h2 ⊢
      rw [h4]; exact (List.Sublist.refl _).append h2
  | _, _, .drop x (l := l) h, hl, hb => by
    obtain ⟨h1, h2⟩ := frzR_rel T h (fun y hy => hl y (by simp [hy])) fun c hc => hb c (by simp only [blocks, List.flatMap_cons, List.mem_append] at hc ⊢; exact .inr hc)
    refine ⟨h1, ?_⟩
    simp only [blocks, List.flatMap_cons] at h2 ⊢
    exact h2.trans (List.sublist_append_right _ _)
  | _, _, .obj c (ds := ds) (es := es) hd (l := l) h, hl, hb => by
    obtain ⟨h1, h2⟩ := frzR_rel T h (fun y hy => hl y (by simp [hy])) fun c hc => hb c (by simp only [blocks, List.flatMap_cons, List.mem_append] at hc ⊢; exact .inr hc)
    have hbl : Res.blocks g' (.obj c es) = Res.blocks g (.obj c ds) := by
      have := FrzL.length hd
      cases ds <;> cases es <;> simp at this ⊢ <;> rfl
    refine ⟨fun y hy => ?_, ?_⟩
    · rcases List.mem_cons.1 hy with rfl | hy
      · by_cases hn : ds = []
        · subst hn
          cases hd
          exact .inl rfl
        · obtain ⟨vals, e, fz, hh, hz, hlv, hcm⟩ := obj_cons hn (hl (.obj c ds) (by simp))
          refine .inr ⟨vals, e, fz, hh, hz, FrzL.rel T hd hlv, ?_⟩
          rw [hb c (by cases ds with | nil => exact absurd rfl hn | cons _ _ => simp [blocks, Res.blocks])]
          exact hcm
      · exact h1 y hy
    · simp only [blocks, List.flatMap_cons] at h2 ⊢
      rw [hbl]; exact (List.Sublist.refl _).append h2
theorem frz_core {i : Nat} {R' : List Res} (hw : Wf g w) (hr : RelR g w R) (hR : R[i]? = some (.obj b cs)) (hR' : FrzR b cs (R.eraseIdx i) R') : ∃ g', Turned b cs g g' w ∧ After g w R g' w R' := by
  have hmem : Res.obj b cs ∈ R := List.mem_of_getElem? hR
  have hsub : (R.eraseIdx i).Sublist R := List.eraseIdx_sublist _ _
  by_cases hn : cs = []
  · subst hn
    have T : Turned b [] g g w := ⟨Pre.refl g w, .inl rfl⟩
    obtain ⟨h1, h2⟩ := frzR_rel T hR' (fun x hx => hr.all x (hsub.subset hx)) fun _ _ => rfl
    have h3 := h2.trans (blocks_sub (g := g) hsub)
    exact ⟨g, T, ⟨Ext.refl _ hw, ⟨h1, hr.nodup.sublist h3⟩, fun c hc => .inl (h3.subset hc)⟩⟩
  · obtain ⟨vals, e, fz, hh, hz, hl, hcm⟩ := obj_cons hn (hr.all _ hmem)
    have hb : b ∈ blocks g R := mem_blocks.2 ⟨_, hmem, by cases cs with | nil => exact absurd rfl hn | cons _ _ => simp [Res.blocks]⟩
    have hlt : b < w.heap.size := (Array.getElem?_eq_some_iff.1 hh).1
    have hcell : ∀ o, cell w b o = vals.toList[o]? := fun o => by simp [cell, World.cell?, hh]
    have hpre : Pre g w (g.with b vals.size) w := ⟨fun c => by
        simp only [Gh.with]; split
        · rename_i h; subst h; omega
        · exact Nat.le_refl _, fun _ _ _ => rfl, Nat.le_refl _, fun _ _ => rfl, fun _ _ _ => rfl⟩
    have T : Turned b cs g (g.with b vals.size) w := ⟨hpre, .inr ⟨vals.toList, hl, hcell, by simp [Gh.with]⟩⟩
    -- b lies in nothing else that is owned
    have hnb : ∀ c ∈ blocks g (R.eraseIdx i), c ≠ b := by
      rintro c hc rfl
      obtain ⟨A, B, rfl, _⟩ := split_at hR
      have hnd := hr.nodup
      rw [blocks_append, blocks_append, blocks_obj hn] at hnd
      obtain ⟨x, hx, hxb⟩ := mem_blocks.1 hc
      rw [List.nodup_append] at hnd
      obtain ⟨h1, h2, h3⟩ := hnd
      rw [List.nodup_append] at h1
      obtain ⟨j, hji, hj⟩ := List.mem_eraseIdx_iff_getElem?.1 hx
      -- another place than i
      have hlen : i < (A ++ [Res.obj c cs] ++ B).length := (List.getElem?_eq_some_iff.1 hR).1
      by_cases hjA : j < A.length
      · have hxA : x ∈ A := by
          rw [List.append_assoc, List.getElem?_append_left hjA] at hj
          exact List.mem_of_getElem? hj
        exact h1.2.2 c (mem_blocks.2 ⟨x, hxA, hxb⟩) c (by simp) rfl
      · by_cases hjB : j = A.length
        · subst hjB
          have hiA : i ≠ A.length := fun e => hji e.symm
          by_cases hiA' : i < A.length
          · rw [List.append_assoc, List.getElem?_append_left hiA'] at hR
            exact h1.2.2 c (mem_blocks.2 ⟨_, List.mem_of_getElem? hR, by cases cs with | nil => exact absurd rfl hn | cons _ _ => simp [Res.blocks]⟩) c (by simp) rfl
          · rw [List.getElem?_append_right (by simp; omega)] at hR
            exact h3 c (List.mem_append.2 (.inr (by simp))) c (mem_blocks.2 ⟨_, List.mem_of_getElem? hR, by cases cs with | nil => exact absurd rfl hn | cons _ _ => simp [Res.blocks]⟩) rfl
        · have hxB : x ∈ B := by
            rw [List.getElem?_append_right (by simp; omega)] at hj
            exact List.mem_of_getElem? hj
          exact h3 c (List.mem_append.2 (.inr (by simp))) c (mem_blocks.2 ⟨x, hxB, hxb⟩) rfl
    obtain ⟨h1, h2⟩ := frzR_rel T hR' (fun x hx => hr.all x (hsub.subset hx)) fun c hc => by simp only [Gh.with]; rw [if_neg (hnb c hc)]
    have h3 := h2.trans (blocks_sub (g := g) hsub)
    refine ⟨_, T, ⟨?_, ⟨h1, hr.nodup.sublist h3⟩, fun c hc => .inl (h3.subset hc)⟩⟩
    exact { hpre with
      os := rfl, tape := rfl, output := rfl, drawn := fun _ => by first | exact Nat.le_refl _ | exact Nat.le_succ _, size := Nat.le_refl _, frame := fun _ _ _ => rfl
      cmeq := fun c _ hc => by simp only [Gh.with]; rw [if_neg (fun e => hc (by rw [e]; exact hb))]
      wf := ⟨fun c hc => by simp only [Gh.with]; rw [if_neg (by omega)]; exact hw.cm c hc, fun c o ho => by
        simp only [Gh.with] at ho
        split at ho
        · rename_i h; subst h; rw [hcell]; simp; omega
        · exact hw.ex c o ho, hpre.st hw⟩ }
theorem UpdV.trans {v v' v'' : V} {R R' R'' : List Res} (h : UpdV v R v' R') (h' : UpdV v' R' v'' R'') : UpdV v R v'' R'' := by
  intro g w x hw hx hr
  obtain ⟨g1, h1, h2⟩ := h g w x hw hx hr
  obtain ⟨g2, h3, h4⟩ := h' g1 w x h1.ext.wf h2 h1.res
  exact ⟨g2, h1.trans h3, h4⟩
def FrzF (b : Nat) (cs : List V) (fr : Fr) (fr' : Fr) : Prop := ∀ t, Frz b cs (fr t) (fr' t)
theorem FrzF.nil (fr : Fr) : FrzF b cs fr (frL []) := fun _ => .vle (Vle.undef _)
theorem FrzF.cons {fr : Fr} {k : Nat} {v : V} {l : List (Nat × V)} (h : Frz b cs (fr k) v) (hs : FrzF b cs fr (frL l)) : FrzF b cs fr (frL ((k, v) :: l)) := fun t => by
  simp only [frL]
  cases e : Nat.beq t k with
  | true => rw [Nat.eq_of_beq_eq_true e]; exact h
  | false => exact hs t
theorem rows_some {k : Nat} {sp : List V} : ∀ {xs ys : List V}, (∀ x ∈ xs, ∃ cs, x = .agg cs ∧ cs.length = k) → Rows (some k) (ys ++ rowC (some k) xs ++ sp) ys.length xs
  | [], _, _ => trivial
  | x :: xs, ys, h => by
    obtain ⟨cs, rfl, hk⟩ := h x (by simp)
    refine ⟨⟨.agg cs, ?_, Vle.refl _⟩, ?_⟩
    · simp only [partOf, rowC, List.flatMap_cons, aggC]
      rw [if_pos (by simp; omega)]
      simp [List.append_assoc, List.take_left' hk]
    · have := rows_some (sp := sp) (xs := xs) (ys := ys ++ cs) fun x hx => h x (by simp [hx])
      simpa [width, hk, rowC, aggC, List.append_assoc] using this
theorem splice_one {A sp : List V} {o : Nat} {v : V} (h : o < A.length) : splice (A ++ sp) o [v] = A.set o v ++ sp := by
  simp only [splice, List.length_singleton]
  rw [List.set_eq_take_append_cons_drop, if_pos h, List.take_append_of_le_length (by omega), List.drop_append_of_le_length (by omega)]
  simp
theorem Frz.alls {k cap : Nat} {xs sp : List V} (hk : 0 < k) (h : ∀ x ∈ xs, ∃ cs, x = .agg cs ∧ cs.length = k) : Frz b (rowC (some k) xs ++ sp) (.lsl (some k) b 0 xs.length cap) (.sl (some k) xs .no) :=
  .row rfl hk (by
    have : (rowC (some k) xs).length = xs.length * k := by
      clear hk
      induction xs with
      | nil => simp [rowC]
      | cons x xs ih =>
        obtain ⟨ds, rfl, hl⟩ := h x (by simp)
        have := ih fun x hx => h x (by simp [hx])
        simp only [rowC] at this
        simp [rowC, aggC, this, hl, Nat.add_mul]; omega
    simp [width, this]) (by have := rows_some (k := k) (sp := sp) (xs := xs) (ys := []) h; simpa using this)
end
end Go.Sv
namespace Go.Sv
open Go
section
variable {P : Program} {R : List Res} {Q : Exit → Fr → List Res → Prop}
theorem wp_clearE {sh : Option Nat} {b o n : Nat} {zero : List V} {k : V → Tree} (i o' n' : Nat) {cs : List V} (cs' : List V) {R' : List Res} (hR : R[i]? = some (.obj b cs)) (ho : o = o') (hn : n = n') (hfit : o' + n' * width sh ≤ cs.length) (h1 : ∀ v ∈ zero, oneV v = true)
    (hc : splice cs o' (List.replicate n' zero).flatten = cs') (hR' : R.set i (.obj b cs') = R') (h : (k (.tup [])).wp P R' Q) : (Tree.eff (.clear sh b o n zero) k).wp P R Q := by
  subst ho; subst hn; subst hc; subst hR'
  exact ⟨i, cs, hR, hfit, h1, h⟩
end
end Go.Sv
namespace Go.Sv
open Go
theorem w_u64 (n : Int) : IntKind.u64.wrap n = n % 18446744073709551616 := by simp [IntKind.wrap, IntKind.bits, IntKind.signed]
theorem w_i64 (n : Int) : IntKind.i64.wrap n = (n + 9223372036854775808) % 18446744073709551616 - 9223372036854775808 := by
  simp [IntKind.wrap, IntKind.bits, IntKind.signed]; omega
theorem w_i64_small {n : Int} (h : -9223372036854775808 ≤ n) (h' : n < 9223372036854775808) : IntKind.i64.wrap n = n := by rw [w_i64]; omega
theorem w_u64_small {n : Int} (h : 0 ≤ n) (h' : n < 18446744073709551616) : IntKind.u64.wrap n = n := by rw [w_u64]; omega
end Go.Sv
namespace Go.Sv
open Go
def i64V (n : Int) : V := .c (.int .i64 n)
def bV (b : Bool) : V := .c (.bool b)
end Go.Sv
namespace Go.Sv
open Go
theorem cI64 {x n : Int} (h : x = n) : V.c (.int .i64 x) = V.c (.int .i64 n) := by subst h; rfl
theorem cBool {a b : Bool} (h : a = b) : V.c (.bool a) = V.c (.bool b) := by subst h; rfl
end Go.Sv
namespace Go.Sv
open Go
theorem S_toList (l : List UInt8) : (S l).toList = l := ByteArray.toList_mk l
end Go.Sv
namespace Go.Sv
open Go
theorem Vle.i64 {v : V} {y : Int} (x : Int) (h : v = .c (.int .i64 x)) (e : x = y) : Vle v (i64V y) := Vle.eq (h.trans (cI64 e))
theorem Vle.inc {v : V} (n : Nat) (h : v = .c (.int .i64 (IntKind.i64.wrap ((n : Int) + 1)))) (hn : n < 2 ^ 62) : Vle v (i64V ((n + 1 : Nat) : Int)) :=
  Vle.eq (h.trans (cI64 (by rw [w_i64]; omega)))
theorem Vle.of {v y : V} (x : V) (h : v = x) (e : x = y) : Vle v y := Vle.eq (h.trans e)
theorem wadd {a b c : Int} (h : a + b = c) (h1 : -9223372036854775808 ≤ c) (h2 : c < 9223372036854775808) : IntKind.i64.wrap (a + b) = c := by rw [h, w_i64_small h1 h2]
theorem wsub {a b c : Int} (h : a - b = c) (h1 : -9223372036854775808 ≤ c) (h2 : c < 9223372036854775808) : IntKind.i64.wrap (a - b) = c := by rw [h, w_i64_small h1 h2]
theorem w_ret2cc {P : Program} {R : List Res} {fn : Func} {fr : Fr} {x y : Tmp} {tx ty : TypeId} {cs ds : List V} {v0 u0 a b : V} {sh sh' : Option Nat} (bl off i bl' off' j : Nat) (h : fn.results.toList = [.cell x tx, .cell y ty]) (hx : fr x = .loc bl off) (hy : fr y = .loc bl' off') (hsh : shapeOf P tx = some sh) (hsh' : shapeOf P ty = some sh')
    (hR : R[i]? = some (.obj bl cs)) (hR' : R[j]? = some (.obj bl' ds)) (hp : partOf sh cs off = some v0) (hp' : partOf sh' ds off' = some u0) (ha : Vle v0 a) (hb : Vle u0 b) : (Tree.leaf .ret fr).wp P R (Ends P fn fun u _ => u = .tup [a, b]) :=
  ⟨.inr rfl, [v0, u0], .tup [a, b], [], by rw [h]; exact ⟨bl, off, sh, i, cs, v0, _, hx, hsh, hR, hp, rfl, bl', off', sh', j, ds, u0, _, hy, hsh', hR', hp', rfl, rfl⟩, UpdV.vle (Vle.tup (.cons ha (.cons hb .nil))) (List.nil_sublist _), rfl⟩
theorem w_ret1k {P : Program} {R : List Res} {fn : Func} {K : V → List Res → Prop} {fr : Fr} {x : Tmp} {ty : TypeId} {cs : List V} {v a : V} {sh : Option Nat} {R' : List Res} (bl off i : Nat) (h : fn.results.toList = [.cell x ty]) (hx : fr x = .loc bl off) (hsh : shapeOf P ty = some sh)
    (hR : R[i]? = some (.obj bl cs)) (hp : partOf sh cs off = some v) (ha : Vle v a) (hs : R'.Sublist R) (hK : K a R') : (Tree.leaf .ret fr).wp P R (Ends P fn K) :=
  ⟨.inr rfl, [v], a, R', by rw [h]; exact ⟨bl, off, sh, i, cs, v, _, hx, hsh, hR, hp, rfl, rfl⟩, UpdV.vle ha hs, hK⟩
theorem w_ret2ck {P : Program} {R : List Res} {fn : Func} {K : V → List Res → Prop} {fr : Fr} {x y : Tmp} {ty : TypeId} {cs : List V} {v a u : V} {sh : Option Nat} {R' : List Res} (bl off i : Nat) (h : fn.results.toList = [.cell x ty, .tmp y]) (hx : fr x = .loc bl off) (hsh : shapeOf P ty = some sh)
    (hR : R[i]? = some (.obj bl cs)) (hp : partOf sh cs off = some v) (ha : Vle v a) (hy : Vle (fr y) u) (hs : R'.Sublist R) (hK : K (.tup [a, u]) R') : (Tree.leaf .ret fr).wp P R (Ends P fn K) :=
  ⟨.inr rfl, [v, fr y], .tup [a, u], R', by rw [h]; exact ⟨bl, off, sh, i, cs, v, _, hx, hsh, hR, hp, rfl, _, rfl, rfl⟩, UpdV.vle (Vle.tup (.cons ha (.cons hy .nil))) hs, hK⟩
theorem byte_at {s : List UInt8} {i : Nat} {c : UInt8} (h : s[i]? = some c) : byteAt (S s) i = c := by rw [S_byteAt, List.getD_eq_getElem?_getD, h]; rfl
theorem drop_at {α : Type} {s : List α} {i : Nat} {c : α} (h : s[i]? = some c) : s.drop i = c :: s.drop (i + 1) := by
  have hi := (List.getElem?_eq_some_iff.1 h).1
  rw [List.drop_eq_getElem_cons hi]
  congr 1
  exact (List.getElem?_eq_some_iff.1 h).2
theorem strEq (l m : List UInt8) : ((S l).toList == (S m).toList) = decide (l = m) := by
  rw [S_toList, S_toList, Bool.eq_iff_iff]; simp
theorem wp_ite_join {P : Program} {R : List Res} {Q : Exit → Fr → List Res → Prop} {b : Bool} {t f : Tree} {T : Prop} (h1 : T → b = true → t.wp P R Q) (h2 : T → b = false → f.wp P R Q) (rest : T) : (Tree.ite b t f).wp P R Q := ⟨h1 rest, h2 rest⟩
theorem wp_joinT {A T : Prop} (h1 : T → A) (rest : T) : A := h1 rest
def shOf (sh : Option Nat) (t : Option Nat) : Option Nat := match t with | none => none | some _ => sh
theorem wp_append_x {P : Program} {Q : Exit → Fr → List Res → Prop} {A B : List Res} {sh : Option Nat} {by_ : Nat} {t : Option Nat} {xs ys : List V} {k : V → Tree} (hx : t = none → xs = []) (hok : ∀ y ∈ ys, okE sh y) (hle : (xs.length + ys.length) * by_ ≤ 140737488355328)
    (h : ∀ t' S, [Res.tok t' sh].Sublist S → (k (.sl sh (xs ++ ys) (.t t'))).wp P (A ++ S) Q) : (Tree.append sh by_ (.sl (shOf sh t) xs (tkOf t)) ys k).wp P (A ++ (tokR sh t ++ B)) Q := by
  cases t with
  | none =>
    have := hx rfl; subst this
    refine wp_append_nil hok (by simpa using hle) fun t' => ?_
    rw [List.append_assoc]
    exact h t' _ (List.sublist_append_right _ _)
  | some t =>
    refine wp_append_tok A.length (t := t) (by simp [tokR]) hok hle fun t' => ?_
    have : (A ++ (tokR sh (some t) ++ B)).set A.length (.tok t' sh) = A ++ ([.tok t' sh] ++ B) := by simp [tokR]
    rw [this]; exact h t' _ (List.sublist_append_left _ _)
end Go.Sv
namespace Go.Sv
open Go
def okCh (c : UInt8) : Bool := decide (32 ≤ c.toNat) && decide (c.toNat ≤ 126)
def isTextB (s : List UInt8) : Bool := s.all okCh && decide (s.length ≤ 16)
structure Val where
  kind : Int
  n : Int
  s : List UInt8
  deriving DecidableEq
def valL (v : Val) : List V := [i64V v.kind, i64V v.n, str v.s]
def valV (v : Val) : V := .agg (valL v)
def valIs (v : Val) : Bool :=
  if v.kind = 1 then decide (v.s = [])
  else if v.kind = 2 then decide (v.n = 0) && isTextB v.s
  else if v.kind = 3 then (decide (v.n = 0) || decide (v.n = 1)) && decide (v.s = [])
  else false
end Go.Sv
namespace Go.Sv
open Go
def isSm (c : UInt8) : Bool := decide (97 ≤ c.toNat) && decide (c.toNat ≤ 122)
end Go.Sv
namespace Go.Sv
open Go
inductive Ex where
  | mk (op : Int) (val : Val) (al fd : List UInt8) (kids : List Ex)
def Ex.op : Ex → Int | .mk o _ _ _ _ => o
def Ex.val : Ex → Val | .mk _ v _ _ _ => v
def Ex.al : Ex → List UInt8 | .mk _ _ a _ _ => a
def Ex.fd : Ex → List UInt8 | .mk _ _ _ f _ => f
def Ex.kids : Ex → List Ex | .mk _ _ _ _ l => l
def val0 : Val := ⟨0, 0, []⟩
def ex0 : Ex := .mk 0 val0 [] [] []
mutual
def exV : Ex → V
  | .mk o v a f l => .agg [i64V o, i64V v.kind, i64V v.n, str v.s, str a, str f, .sl (some 7) (exVs l) .no]
def exVs : List Ex → List V
  | [] => []
  | x :: l => exV x :: exVs l
end
theorem exVs_map (l : List Ex) : exVs l = l.map exV := by
  induction l with
  | nil => rw [exVs]; rfl
  | cons x l ih => rw [exVs, ih]; rfl
def exsV (l : List Ex) : V := .sl (some 7) (l.map exV) .no
def exC (x : Ex) : List V := [i64V x.op, i64V x.val.kind, i64V x.val.n, str x.val.s, str x.al, str x.fd, exsV x.kids]
theorem exV_eq (x : Ex) : exV x = .agg (exC x) := by
  cases x with
  | mk o v a f l => rw [exV, exVs_map]; rfl
def isNm (s : List UInt8) : Bool := s.all isSm && (!decide (s = []) && decide (s.length ≤ 8))
def kidsN (op : Int) : Nat := if op = 12 then 1 else if 3 ≤ op ∧ op ≤ 11 then 2 else 0
def ExOk : Nat → Ex → Prop
  | 0, _ => True
  | k + 1, x => x.val.s.length < 2 ^ 60 ∧ x.al.length < 2 ^ 60 ∧ x.fd.length < 2 ^ 60 ∧ x.kids.length < 2 ^ 60 ∧ ∀ y ∈ x.kids, ExOk k y
def maxL (l : List Nat) : Nat := l.foldl max 0
def depthN : Nat → Ex → Nat
  | 0, _ => 0
  | k + 1, x => if x.op = 0 then 0 else maxL (x.kids.map (depthN k)) + 1
def nodesN : Nat → Ex → List Ex
  | 0, _ => []
  | k + 1, x => if x.op = 0 then [] else x :: x.kids.flatMap (nodesN k)
def hasV (x : Ex) : Bool := !decide (x.val = val0)
def hasF (x : Ex) : Bool := !decide (x.al = []) || !decide (x.fd = [])
def nodeB (x : Ex) : Bool :=
  if x.op < 1 ∨ 12 < x.op ∨ x.kids.length ≠ kidsN x.op then false
  else if x.kids.any (fun k => decide (k.op = 0)) then false
  else if x.op = 1 then valIs x.val && !hasF x
  else if x.op = 2 then !hasV x && (isNm x.al && isNm x.fd)
  else !hasV x && !hasF x
def isExB (x : Ex) : Bool := decide (depthN 20 x ≤ 5) && decide ((nodesN 20 x).length ≤ 24) && (nodesN 20 x).all nodeB && decide (0 < (nodesN 20 x).length)
def shapedN : Nat → Ex → Bool
  | 0, _ => false
  | k + 1, x =>
    if x.op < 1 ∨ 12 < x.op ∨ x.kids.length ≠ kidsN x.op then false
    else if x.op = 1 then valIs x.val && !hasF x
    else if x.op = 2 then !hasV x && (isNm x.al && isNm x.fd)
    else x.kids.all (shapedN k) && (!hasV x && !hasF x)
def isExR (x : Ex) : Bool := shapedN 5 x && decide ((nodesN 20 x).length ≤ 24)
end Go.Sv
namespace Go.Sv
open Go Go.Proofs
set_option maxRecDepth 100000 in
theorem istext_call (s : List UInt8) (hs : s.length < 2 ^ 60) : PCall Tryz.prog 157 [str s] (bV (isTextB s)) := by
  refine scall_of (live := []) (ords := []) Tryz.func157 rfl (by kernel_rfl) (by kernel_rfl) (Nat.le_of_ble_eq_true rfl) ?_
  (conv=>arg 2;whnf);refine wp_loop (fun m fr R => ∃ n : Nat, m = s.length - n ∧ n ≤ s.length ∧ R = [] ∧ (s.take n).all okCh = true ∧ fr = frL [(0, str s), (5, i64V s.length), (6, i64V n)])
    s.length _ _ (.cons (.refl _) (.cons (.refl _) (.cons (.refl _) (.nil _)))) (List.Sublist.refl _) ⟨0, rfl, Nat.zero_le _, rfl, rfl, rfl⟩ ?_
  rintro m fr R ⟨n, rfl, hn, rfl, ha, rfl⟩
  (conv=>arg 2;whnf);refine wp_ite (fun h => ?_) (fun h => ?_)
  · have h : n < s.length := by have := of_decide_eq_true h; omega
    obtain ⟨c, hc⟩ : ∃ c, s[n]? = some c := ⟨_, List.getElem?_eq_getElem h⟩
    have hb : byteAt (S s) (Int.toNat (n : Int)) = c := byte_at hc
    have hsplit : s = s.take n ++ c :: s.drop (n + 1) := by rw [← drop_at hc, List.take_append_drop]
    (conv=>arg 2;whnf);refine wp_need (by rw [S_size]; omega) ?_
    rw [hb]
    (conv=>arg 2;whnf);refine wp_ite (fun h1 => ?_) (fun h1 => ?_)
    · have h1 : c.toNat < 32 := by have := of_decide_eq_true h1; omega
      (repeat ((conv=>arg 2;whnf);first|refine wp_it rfl ?_|refine wp_if rfl ?_))
      (conv=>arg 2;whnf)
      refine wp_leaf (loop_ret ?_)
      (conv=>arg 2;whnf);refine w_retp rfl (Vle.eq (cBool ?_))
      rw [hsplit, isTextB]
      have : okCh c = false := by rw [okCh, decide_eq_false (by omega : ¬ 32 ≤ c.toNat), Bool.false_and]
      simp [this]
    · have h1 : 32 ≤ c.toNat := by have := of_decide_eq_false h1; omega
      (conv=>arg 2;whnf);refine wp_need (by rw [S_size]; omega) ?_
      rw [hb]
      (conv=>arg 2;whnf);refine wp_ite (fun h2 => ?_) (fun h2 => ?_)
      · have h2 : 126 < c.toNat := by have := of_decide_eq_true h2; omega
        (repeat ((conv=>arg 2;whnf);first|refine wp_it rfl ?_|refine wp_if rfl ?_))
        (conv=>arg 2;whnf)
        refine wp_leaf (loop_ret ?_)
        (conv=>arg 2;whnf);refine w_retp rfl (Vle.eq (cBool ?_))
        rw [hsplit, isTextB]
        have : okCh c = false := by rw [okCh, decide_eq_false (by omega : ¬ c.toNat ≤ 126), Bool.and_false]
        simp [this]
      · have h2 : c.toNat ≤ 126 := by have := of_decide_eq_false h2; omega
        (repeat ((conv=>arg 2;whnf);first|refine wp_it rfl ?_|refine wp_if rfl ?_))
        (conv=>arg 2;whnf)
        refine wp_leaf (loop_next (s.length - (n + 1)) _ _ (by omega) (.cons (.refl _) (.cons (.refl _) (.cons (Vle.inc n rfl (by omega)) (.nil _)))) (List.Sublist.refl _) ⟨n + 1, rfl, h, rfl, ?_, rfl⟩)
        rw [List.take_add_one, hc, List.all_append, ha]
        have : okCh c = true := by rw [okCh, decide_eq_true h1, decide_eq_true h2]; rfl
        simp [this]
  · have h : n = s.length := by have := of_decide_eq_false h; omega
    subst h
    rw [List.take_length] at ha
    (repeat ((conv=>arg 2;whnf);first|refine wp_it rfl ?_|refine wp_if rfl ?_))
    (conv=>arg 2;whnf)
    refine wp_leaf (loop_exit ?_)
    (conv=>arg 2;whnf);refine w_retp rfl (Vle.eq (cBool ?_))
    rw [isTextB, ha, Bool.true_and]
    exact decide_eq_decide.2 (by rw [S_size]; omega)
theorem nilS {l : List UInt8} : ((S l).toList == (⟨#[]⟩ : ByteArray).toList) = decide (l = []) := strEq l []
set_option maxRecDepth 100000 in
theorem valueis_call (v : Val) (hs : v.s.length < 2 ^ 60) : PCall Tryz.prog 151 [valV v] (bV (valIs v)) := by
  obtain ⟨k, n, s⟩ := v
  refine scall_of (live := []) (ords := []) Tryz.func151 rfl (by kernel_rfl) (by kernel_rfl) (Nat.le_of_ble_eq_true rfl) ?_
  (conv=>arg 2;whnf);refine wp_ite (fun h1 => ?_) (fun h1 => ?_)
  · have h1 : k = 1 := by simpa using h1
    (conv=>arg 2;whnf);refine w_retp rfl (Vle.eq (cBool ?_))
    rw [valIs, if_pos h1]; exact nilS
  have h1 : k ≠ 1 := by simpa using h1
  (conv=>arg 2;whnf);refine wp_ite (fun h2 => ?_) (fun h2 => ?_)
  · have h2 : k = 2 := by simpa using h2
    (conv=>arg 2;whnf);refine wp_ite (fun h3 => ?_) (fun h3 => ?_)
    · have h3 : n = 0 := by simpa using h3
      (conv=>arg 2;whnf);refine wp_pcall (istext_call s hs) ?_
      (conv=>arg 2;whnf);refine w_retp rfl (Vle.eq (cBool ?_))
      rw [valIs, if_neg h1, if_pos h2, decide_eq_true h3]; rfl
    · have h3 : n ≠ 0 := by simpa using h3
      (conv=>arg 2;whnf);refine w_retp rfl (Vle.eq (cBool ?_))
      rw [valIs, if_neg h1, if_pos h2, decide_eq_false h3]; rfl
  have h2 : k ≠ 2 := by simpa using h2
  (conv=>arg 2;whnf);refine wp_ite (fun h3 => ?_) (fun h3 => ?_)
  · have h3 : k = 3 := by simpa using h3
    (conv=>arg 2;whnf);refine wp_ite (fun h4 => ?_) (fun h4 => ?_)
    · have h4 : n = 0 := by simpa using h4
      (repeat ((conv=>arg 2;whnf);first|refine wp_it rfl ?_|refine wp_if rfl ?_))
      (conv=>arg 2;whnf);refine w_retp rfl (Vle.eq (cBool ?_))
      rw [valIs, if_neg h1, if_neg h2, if_pos h3, decide_eq_true h4]; exact nilS
    · have h4 : n ≠ 0 := by simpa using h4
      (conv=>arg 2;whnf);refine wp_ite (fun h5 => ?_) (fun h5 => ?_)
      · have h5 : n = 1 := by simpa using h5
        (conv=>arg 2;whnf);refine w_retp rfl (Vle.eq (cBool ?_))
        rw [valIs, if_neg h1, if_neg h2, if_pos h3, decide_eq_false h4, decide_eq_true h5]; exact nilS
      · have h5 : n ≠ 1 := by simpa using h5
        (conv=>arg 2;whnf);refine w_retp rfl (Vle.eq (cBool ?_))
        rw [valIs, if_neg h1, if_neg h2, if_pos h3, decide_eq_false h4, decide_eq_false h5]; rfl
  have h3 : k ≠ 3 := by simpa using h3
  (conv=>arg 2;whnf);refine w_retp rfl (Vle.eq (cBool ?_))
  rw [valIs, if_neg h1, if_neg h2, if_neg h3]
end Go.Sv
namespace Go.Sv
open Go Go.Proofs
theorem kidsN_12 {op : Int} (h : op = 12) : kidsN op = 1 := by rw [kidsN, if_pos h]
theorem kidsN_2 {op : Int} (h : 3 ≤ op) (h' : op ≤ 11) : kidsN op = 2 := by rw [kidsN, if_neg (by omega), if_pos ⟨h, h'⟩]
theorem kidsN_0 {op : Int} (h : op ≠ 12) (h' : op < 3 ∨ 11 < op) : kidsN op = 0 := by rw [kidsN, if_neg h, if_neg (by omega)]
set_option maxRecDepth 100000 in
theorem kids_call (op : Int) : PCall Tryz.prog 148 [i64V op] (i64V (kidsN op)) := by
  refine scall_of (live := []) (ords := []) Tryz.func148 rfl (by kernel_rfl) (by kernel_rfl) (Nat.le_of_ble_eq_true rfl) ?_
  (conv=>arg 2;whnf);refine wp_ite (fun h1 => ?_) (fun h1 => ?_)
  · have h1 : op = 12 := by simpa using h1
    (conv=>arg 2;whnf);refine w_retp rfl (Vle.eq ?_)
    rw [kidsN_12 h1]; rfl
  have h1 : op ≠ 12 := by simpa using h1
  (conv=>arg 2;whnf);refine wp_ite (fun h2 => ?_) (fun h2 => ?_)
  · have h2 : 3 ≤ op := by simpa using h2
    (conv=>arg 2;whnf);refine wp_ite (fun h3 => ?_) (fun h3 => ?_)
    · have h3 : op ≤ 11 := by simpa using h3
      (conv=>arg 2;whnf);refine w_retp rfl (Vle.eq ?_)
      rw [kidsN_2 h2 h3]; rfl
    · have h3 : 11 < op := by simpa using h3
      (conv=>arg 2;whnf);refine w_retp rfl (Vle.eq ?_)
      rw [kidsN_0 h1 (.inr h3)]; rfl
  · have h2 : op < 3 := by simpa using h2
    (repeat ((conv=>arg 2;whnf);first|refine wp_it rfl ?_|refine wp_if rfl ?_))
    (conv=>arg 2;whnf);refine w_retp rfl (Vle.eq ?_)
    rw [kidsN_0 h1 (.inl h2)]; rfl
set_option maxRecDepth 100000 in
theorem refkids_call (op : Int) : PCall Tryz.prog 79 [i64V op] (i64V (kidsN op)) := by
  refine scall_of (live := []) (ords := []) Tryz.func79 rfl (by kernel_rfl) (by kernel_rfl) (Nat.le_of_ble_eq_true rfl) ?_
  (conv=>arg 2;whnf);refine wp_ite (fun h1 => ?_) (fun h1 => ?_)
  · have h1 : op = 12 := by simpa using h1
    (conv=>arg 2;whnf);refine w_retp rfl (Vle.eq ?_)
    rw [kidsN_12 h1]; rfl
  have h1 : op ≠ 12 := by simpa using h1
  (conv=>arg 2;whnf);refine wp_ite (fun h2 => ?_) (fun h2 => ?_)
  · have h2 : 3 ≤ op := by simpa using h2
    (conv=>arg 2;whnf);refine wp_ite (fun h3 => ?_) (fun h3 => ?_)
    · have h3 : op ≤ 11 := by simpa using h3
      (conv=>arg 2;whnf);refine w_retp rfl (Vle.eq ?_)
      rw [kidsN_2 h2 h3]; rfl
    · have h3 : 11 < op := by simpa using h3
      (conv=>arg 2;whnf);refine w_retp rfl (Vle.eq ?_)
      rw [kidsN_0 h1 (.inr h3)]; rfl
  · have h2 : op < 3 := by simpa using h2
    (repeat ((conv=>arg 2;whnf);first|refine wp_it rfl ?_|refine wp_if rfl ?_))
    (conv=>arg 2;whnf);refine w_retp rfl (Vle.eq ?_)
    rw [kidsN_0 h1 (.inl h2)]; rfl
theorem isSm_false {c : UInt8} (h : c.toNat < 97 ∨ 122 < c.toNat) : isSm c = false := by
  rw [isSm]; rcases h with h | h
  · rw [decide_eq_false (by omega : ¬ 97 ≤ c.toNat), Bool.false_and]
  · rw [decide_eq_false (by omega : ¬ c.toNat ≤ 122), Bool.and_false]
theorem isSm_true {c : UInt8} (h1 : 97 ≤ c.toNat) (h2 : c.toNat ≤ 122) : isSm c = true := by
  rw [isSm, decide_eq_true h1, decide_eq_true h2]; rfl
theorem isNm_bad {s : List UInt8} {n : Nat} {c : UInt8} (h : s[n]? = some c) (hc : isSm c = false) : isNm s = false := by
  have hsplit : s = s.take n ++ c :: s.drop (n + 1) := by rw [← drop_at h, List.take_append_drop]
  rw [isNm, hsplit]; simp [hc]
theorem isSm_next {s : List UInt8} {n : Nat} {c : UInt8} (h : s[n]? = some c) (ha : (s.take n).all isSm = true) (hc : isSm c = true) : (s.take (n + 1)).all isSm = true := by
  rw [List.take_add_one, h, List.all_append, ha]; simp [hc]
theorem isNm_end {s : List UInt8} (ha : s.all isSm = true) (h : 1 ≤ s.length) : decide ((s.length : Int) ≤ 8) = isNm s := by
  rw [isNm, ha, decide_eq_false (by intro e; subst e; simp at h : ¬ s = [])]
  simp only [Bool.true_and, Bool.not_false]
  exact decide_eq_decide.2 (by omega)
theorem isNm_nil : isNm [] = false := rfl
set_option maxRecDepth 100000 in
theorem name_call (s : List UInt8) (hs : s.length < 2 ^ 60) : PCall Tryz.prog 152 [str s] (bV (isNm s)) := by
  refine scall_of (live := []) (ords := []) Tryz.func152 rfl (by kernel_rfl) (by kernel_rfl) (Nat.le_of_ble_eq_true rfl) ?_
  (conv=>arg 2;whnf);refine wp_loop (fun m fr R => ∃ n : Nat, m = s.length - n ∧ n ≤ s.length ∧ R = [] ∧ (s.take n).all isSm = true ∧ fr = frL [(0, str s), (5, i64V s.length), (6, i64V n)])
    s.length _ _ (.cons (.refl _) (.cons (.refl _) (.cons (.refl _) (.nil _)))) (List.Sublist.refl _) ⟨0, rfl, Nat.zero_le _, rfl, rfl, rfl⟩ ?_
  rintro m fr R ⟨n, rfl, hn, rfl, ha, rfl⟩
  (conv=>arg 2;whnf);refine wp_ite (fun h => ?_) (fun h => ?_)
  · have h : n < s.length := by have := of_decide_eq_true h; omega
    obtain ⟨c, hc⟩ : ∃ c, s[n]? = some c := ⟨_, List.getElem?_eq_getElem h⟩
    have hb : byteAt (S s) (Int.toNat (n : Int)) = c := byte_at hc
    (conv=>arg 2;whnf);refine wp_need (by rw [S_size]; omega) ?_
    rw [hb]
    (conv=>arg 2;whnf);refine wp_ite (fun h1 => ?_) (fun h1 => ?_)
    · have h1 : c.toNat < 97 := by have := of_decide_eq_true h1; omega
      (repeat ((conv=>arg 2;whnf);first|refine wp_it rfl ?_|refine wp_if rfl ?_))
      (conv=>arg 2;whnf)
      refine wp_leaf (loop_ret ?_)
      (conv=>arg 2;whnf);refine w_retp rfl (Vle.eq (cBool (isNm_bad hc (isSm_false (.inl h1))).symm))
    · have h1 : 97 ≤ c.toNat := by have := of_decide_eq_false h1; omega
      (conv=>arg 2;whnf);refine wp_need (by rw [S_size]; omega) ?_
      rw [hb]
      (conv=>arg 2;whnf);refine wp_ite (fun h2 => ?_) (fun h2 => ?_)
      · have h2 : 122 < c.toNat := by have := of_decide_eq_true h2; omega
        (repeat ((conv=>arg 2;whnf);first|refine wp_it rfl ?_|refine wp_if rfl ?_))
        (conv=>arg 2;whnf)
        refine wp_leaf (loop_ret ?_)
        (conv=>arg 2;whnf);refine w_retp rfl (Vle.eq (cBool (isNm_bad hc (isSm_false (.inr h2))).symm))
      · have h2 : c.toNat ≤ 122 := by have := of_decide_eq_false h2; omega
        (repeat ((conv=>arg 2;whnf);first|refine wp_it rfl ?_|refine wp_if rfl ?_))
        (conv=>arg 2;whnf)
        refine wp_leaf (loop_next (s.length - (n + 1)) _ _ (by omega) (.cons (.refl _) (.cons (.refl _) (.cons (Vle.inc n rfl (by omega)) (.nil _)))) (List.Sublist.refl _) ⟨n + 1, rfl, h, rfl, isSm_next hc ha (isSm_true h1 h2), rfl⟩)
  · have h : n = s.length := by have := of_decide_eq_false h; omega
    subst h
    rw [List.take_length] at ha
    (repeat ((conv=>arg 2;whnf);first|refine wp_it rfl ?_|refine wp_if rfl ?_))
    (conv=>arg 2;whnf)
    refine wp_leaf (loop_exit ?_)
    (conv=>arg 2;whnf);refine wp_ite (fun h1 => ?_) (fun h1 => ?_)
    · have h1 : s ≠ [] := by
        intro e
        have : ((S s).toList == (⟨#[]⟩ : ByteArray).toList) = true := (nilS).trans (decide_eq_true e)
        simp_all
      (conv=>arg 2;whnf);refine w_retp rfl (Vle.eq (cBool ?_))
      refine Eq.trans ?_ (isNm_end ha (by cases s with | nil => exact absurd rfl h1 | cons _ _ => simp))
      exact decide_eq_decide.2 (by rw [S_size])
    · have h1 : s = [] := by
        have : ((S s).toList == (⟨#[]⟩ : ByteArray).toList) = decide (s = []) := nilS
        simp_all
      subst h1
      (conv=>arg 2;whnf);refine w_retp rfl (Vle.eq (cBool isNm_nil.symm))
set_option maxRecDepth 100000 in
theorem refname_call (s : List UInt8) (hs : s.length < 2 ^ 60) : PCall Tryz.prog 40 [str s] (bV (isNm s)) := by
  refine scall_of (live := []) (ords := []) Tryz.func40 rfl (by kernel_rfl) (by kernel_rfl) (Nat.le_of_ble_eq_true rfl) ?_
  (conv=>arg 2;whnf);refine wp_loop (fun m fr R => ∃ n : Nat, m = s.length - n ∧ n ≤ s.length ∧ R = [] ∧ (s.take n).all isSm = true ∧ fr = frL [(0, str s), (3, i64V n)])
    s.length _ _ (.cons (.refl _) (.cons (.refl _) (.nil _))) (List.Sublist.refl _) ⟨0, rfl, Nat.zero_le _, rfl, rfl, rfl⟩ ?_
  rintro m fr R ⟨n, rfl, hn, rfl, ha, rfl⟩
  (conv=>arg 2;whnf);refine wp_ite (fun h => ?_) (fun h => ?_)
  · have h : n < s.length := by have := of_decide_eq_true h; rw [S_size] at this; omega
    obtain ⟨c, hc⟩ : ∃ c, s[n]? = some c := ⟨_, List.getElem?_eq_getElem h⟩
    have hb : byteAt (S s) (Int.toNat (n : Int)) = c := byte_at hc
    (conv=>arg 2;whnf);refine wp_need (by rw [S_size]; omega) ?_
    rw [hb]
    (conv=>arg 2;whnf);refine wp_ite (fun h1 => ?_) (fun h1 => ?_)
    · have h1 : c.toNat < 97 := by have := of_decide_eq_true h1; omega
      (repeat ((conv=>arg 2;whnf);first|refine wp_it rfl ?_|refine wp_if rfl ?_))
      (conv=>arg 2;whnf)
      refine wp_leaf (loop_ret ?_)
      (conv=>arg 2;whnf);refine w_retp rfl (Vle.eq (cBool (isNm_bad hc (isSm_false (.inl h1))).symm))
    · have h1 : 97 ≤ c.toNat := by have := of_decide_eq_false h1; omega
      (conv=>arg 2;whnf);refine wp_need (by rw [S_size]; omega) ?_
      rw [hb]
      (conv=>arg 2;whnf);refine wp_ite (fun h2 => ?_) (fun h2 => ?_)
      · have h2 : 122 < c.toNat := by have := of_decide_eq_true h2; omega
        (repeat ((conv=>arg 2;whnf);first|refine wp_it rfl ?_|refine wp_if rfl ?_))
        (conv=>arg 2;whnf)
        refine wp_leaf (loop_ret ?_)
        (conv=>arg 2;whnf);refine w_retp rfl (Vle.eq (cBool (isNm_bad hc (isSm_false (.inr h2))).symm))
      · have h2 : c.toNat ≤ 122 := by have := of_decide_eq_false h2; omega
        (repeat ((conv=>arg 2;whnf);first|refine wp_it rfl ?_|refine wp_if rfl ?_))
        (conv=>arg 2;whnf)
        refine wp_leaf (loop_next (s.length - (n + 1)) _ _ (by omega) (.cons (.refl _) (.cons (Vle.inc n rfl (by omega)) (.nil _))) (List.Sublist.refl _) ⟨n + 1, rfl, h, rfl, isSm_next hc ha (isSm_true h1 h2), rfl⟩)
  · have h : n = s.length := by have := of_decide_eq_false h; rw [S_size] at this; omega
    subst h
    rw [List.take_length] at ha
    (repeat ((conv=>arg 2;whnf);first|refine wp_it rfl ?_|refine wp_if rfl ?_))
    (conv=>arg 2;whnf)
    refine wp_leaf (loop_exit ?_)
    (conv=>arg 2;whnf);refine wp_ite (fun h1 => ?_) (fun h1 => ?_)
    · have h1 : 1 ≤ s.length := by have := of_decide_eq_true h1; rw [S_size] at this; omega
      (conv=>arg 2;whnf);refine w_retp rfl (Vle.eq (cBool ?_))
      refine Eq.trans ?_ (isNm_end ha h1)
      exact decide_eq_decide.2 (by rw [S_size])
    · have h1 : s = [] := by have := of_decide_eq_false h1; rw [S_size] at this; exact List.length_eq_zero_iff.1 (by omega)
      subst h1
      (conv=>arg 2;whnf);refine w_retp rfl (Vle.eq (cBool isNm_nil.symm))
end Go.Sv
namespace Go.Sv
open Go Go.Proofs
theorem maxL_snoc (l : List Nat) (a : Nat) : maxL (l ++ [a]) = max (maxL l) a := by simp [maxL]
theorem foldl_max_le {k : Nat} : ∀ (l : List Nat) (b : Nat), b ≤ k → (∀ a ∈ l, a ≤ k) → l.foldl max b ≤ k
  | [], b, hb, _ => hb
  | a :: l, b, hb, h => foldl_max_le l _ (Nat.max_le.2 ⟨hb, h a (by simp)⟩) fun c hc => h c (by simp [hc])
theorem maxL_le {k : Nat} {l : List Nat} (h : ∀ a ∈ l, a ≤ k) : maxL l ≤ k := foldl_max_le l 0 (Nat.zero_le _) h
theorem maxL_take {α : Type} {f : α → Nat} {l : List α} {n : Nat} {y : α} (h : l[n]? = some y) : maxL ((l.take (n + 1)).map f) = max (maxL ((l.take n).map f)) (f y) := by
  rw [List.take_add_one, h, List.map_append]; exact maxL_snoc _ _
theorem depthN_le : ∀ (k : Nat) (x : Ex), depthN k x ≤ k
  | 0, _ => Nat.le_refl _
  | k + 1, x => by
    rw [depthN]
    split
    · exact Nat.zero_le _
    · refine Nat.succ_le_succ (maxL_le fun a ha => ?_)
      obtain ⟨y, _, rfl⟩ := List.mem_map.1 ha
      exact depthN_le k y
theorem depthN_op {k : Nat} {x : Ex} (h : x.op = 0) : depthN (k + 1) x = 0 := by rw [depthN, if_pos h]
theorem depthN_kids {k : Nat} {x : Ex} (h : x.op ≠ 0) : depthN (k + 1) x = maxL (x.kids.map (depthN k)) + 1 := by rw [depthN, if_neg h]
theorem nodesN_op {k : Nat} {x : Ex} (h : x.op = 0) : nodesN (k + 1) x = [] := by rw [nodesN, if_pos h]
theorem nodesN_kids {k : Nat} {x : Ex} (h : x.op ≠ 0) : nodesN (k + 1) x = x :: x.kids.flatMap (nodesN k) := by rw [nodesN, if_neg h]
theorem kid_at {x y : Ex} {n : Nat} (h : x.kids[n]? = some y) : (x.kids.map exV)[n]? = some (.agg (exC y)) := by rw [List.getElem?_map, h, ← exV_eq]; rfl
theorem exOk_kid {k n : Nat} {x y : Ex} (h : ExOk (k + 1) x) (hy : x.kids[n]? = some y) : ExOk k y := h.2.2.2.2 y (List.mem_of_getElem? hy)
set_option maxRecDepth 100000 in
theorem depth_call : ∀ (k : Nat) (x : Ex) (at_ : Nat), at_ + k = 21 → ExOk k x → PCall Tryz.prog 146 [exV x, i64V at_] (i64V (depthN k x)) := by
  intro k
  induction k with
  | zero =>
    intro x at_ hat _
    rw [exV_eq]
    refine scall_of (live := []) (ords := []) Tryz.func146 rfl (by kernel_rfl) (by kernel_rfl) (Nat.le_of_ble_eq_true rfl) ?_
    (conv=>arg 2;whnf);refine wp_ite (fun h1 => ?_) (fun h1 => ?_)
    · (repeat ((conv=>arg 2;whnf);first|refine wp_it rfl ?_|refine wp_if rfl ?_))
      (conv=>arg 2;whnf);refine w_retp rfl (Vle.eq rfl)
    · (conv=>arg 2;whnf);refine wp_ite (fun h2 => ?_) (fun h2 => ?_)
      · (conv=>arg 2;whnf);refine w_retp rfl (Vle.eq rfl)
      · have h2 : ¬ (20 < (at_ : Int)) := of_decide_eq_false h2
        omega
  | succ k ih =>
    intro x at_ hat hok
    rw [exV_eq]
    refine scall_of (live := []) (ords := []) Tryz.func146 rfl (by kernel_rfl) (by kernel_rfl) (Nat.le_of_ble_eq_true rfl) ?_
    (conv=>arg 2;whnf);refine wp_ite (fun h1 => ?_) (fun h1 => ?_)
    · have h1 : x.op = 0 := by simpa using h1
      (repeat ((conv=>arg 2;whnf);first|refine wp_it rfl ?_|refine wp_if rfl ?_))
      (conv=>arg 2;whnf);refine w_retp rfl (Vle.eq ?_)
      rw [depthN_op h1]; rfl
    have h1 : x.op ≠ 0 := by simpa using h1
    (conv=>arg 2;whnf);refine wp_ite (fun h2 => ?_) (fun h2 => ?_)
    · have h2 : 20 < (at_ : Int) := of_decide_eq_true h2
      omega
    have hl := hok.2.2.2.1
    (conv=>arg 2;whnf);refine wp_loop (fun m fr R => ∃ n : Nat, m = x.kids.length - n ∧ n ≤ x.kids.length ∧ R = [] ∧ fr = frL [(1, i64V at_), (5, i64V (maxL ((x.kids.take n).map (depthN k)) : Nat)), (16, exsV x.kids), (17, i64V x.kids.length), (18, i64V n)])
      x.kids.length _ _ (.cons (.refl _) (.cons (.refl _) (.cons (.refl _) (.cons (Vle.eq ?_) (.cons (.refl _) (.nil _)))))) (List.Sublist.refl _) ⟨0, rfl, Nat.zero_le _, rfl, rfl⟩ ?_
    · show V.c (.int .i64 (x.kids.map exV).length) = _
      rw [List.length_map]; rfl
    rintro m fr R ⟨n, rfl, hn, rfl, rfl⟩
    (conv=>arg 2;whnf);refine wp_ite (fun h => ?_) (fun h => ?_)
    · have h : n < x.kids.length := by have := of_decide_eq_true h; omega
      obtain ⟨y, hy⟩ : ∃ y, x.kids[n]? = some y := ⟨_, List.getElem?_eq_getElem h⟩
      have hc := ih y (at_ + 1) (by omega) (exOk_kid hok hy)
      have hd := depthN_le k y
      rw [exV_eq] at hc
      (conv=>arg 2;whnf);refine wp_elem n (.agg (exC y)) rfl (kid_at hy) (Vle.refl _) ?_
      (conv=>arg 2;whnf);refine wp_allocE _ rfl fun b => ?_
      (conv=>arg 2;whnf);refine wp_storeE 0 0 (exC y) rfl rfl (VleL.refl _) (Nat.le_refl _) rfl (R' := [.obj b (exC y)]) rfl ?_
      (conv=>arg 2;whnf);refine wp_load 0 rfl rfl ?_
      (conv=>arg 2;whnf);refine wp_pcallV (.cons (.refl _) (.cons (Vle.i64 _ rfl (wadd (by omega : (at_ : Int) + 1 = ((at_ + 1 : Nat) : Int)) (by omega) (by omega))) .nil)) hc ?_
      (conv=>arg 2;whnf)
      refine wp_leaf (loop_next (x.kids.length - (n + 1)) _ _ (by omega) (.cons (.refl _) (.cons (Vle.i64 _ rfl ?_) (.cons (.refl _) (.cons (.refl _) (.cons (Vle.inc n rfl (by omega)) (.nil _)))))) (List.nil_sublist _) ⟨n + 1, rfl, h, rfl, rfl⟩)
      rw [maxL_take hy]; omega
    · have h : n = x.kids.length := by have := of_decide_eq_false h; omega
      subst h
      (conv=>arg 2;whnf)
      refine wp_leaf (loop_exit ?_)
      (conv=>arg 2;whnf);refine w_retp rfl (Vle.i64 _ rfl ?_)
      rw [List.take_length]
      have := maxL_le (k := k) (l := x.kids.map (depthN k)) fun a ha => by obtain ⟨y, _, rfl⟩ := List.mem_map.1 ha; exact depthN_le k y
      rw [depthN_kids h1]
      exact wadd (by omega) (by omega) (by omega)
set_option maxRecDepth 100000 in
theorem Depth_call (x : Ex) (hok : ExOk 20 x) : PCall Tryz.prog 140 [exV x] (i64V (depthN 20 x)) := by
  have hc := depth_call 20 x 1 (by omega) hok
  rw [exV_eq] at hc ⊢
  refine scall_of (live := []) (ords := []) Tryz.func140 rfl (by kernel_rfl) (by kernel_rfl) (Nat.le_of_ble_eq_true rfl) ?_
  (conv=>arg 2;whnf);refine wp_pcall hc ?_
  (conv=>arg 2;whnf);refine w_retp rfl (Vle.refl _)
end Go.Sv
namespace Go.Sv
open Go Go.Proofs
theorem flat_at {α β : Type} {f : α → List β} {l : List α} {n i : Nat} {y : α} {z : β} (h : l[n]? = some y) (hz : (f y)[i]? = some z) : (l.flatMap f)[((l.take n).flatMap f).length + i]? = some z := by
  have e : l = l.take n ++ y :: l.drop (n + 1) := by rw [← drop_at h, List.take_append_drop]
  have hi := (List.getElem?_eq_some_iff.1 hz).1
  conv => lhs; arg 1; rw [e, List.flatMap_append, List.flatMap_cons]
  rw [List.getElem?_append_right (by omega), Nat.add_sub_cancel_left, List.getElem?_append_left hi]
  exact hz
theorem flat_take {α β : Type} {f : α → List β} {l : List α} {n : Nat} {y : α} (h : l[n]? = some y) : ((l.take (n + 1)).flatMap f).length = ((l.take n).flatMap f).length + (f y).length := by
  rw [List.take_add_one, h, List.flatMap_append, List.length_append]
  simp
def exZ : List V := [i64V 0, i64V 0, i64V 0, str [], str [], str [], .sl none [] .zero]
theorem splice_ex (y : Ex) : splice exZ 0 (exC y) = exC y := rfl
def nodesF (x : Ex) (at_ : Nat) : V := .fn (.func 147) [] [.pt (some 7) (.agg (exC x)) 0, .pt none (i64V at_) 0]
set_option maxRecDepth 100000 in
theorem nodes_call (x : Ex) (at_ : Nat) : PCall Tryz.prog 141 [.agg (exC x), i64V at_] (nodesF x at_) := by
  refine scall_of (live := []) (ords := []) Tryz.func141 rfl (by kernel_rfl) (by kernel_rfl) (Nat.le_of_ble_eq_true rfl) ?_
  (conv=>arg 2;whnf);refine w_retp rfl (Vle.eq ?_)
  rfl
set_option maxRecDepth 100000 in
theorem nodes_iter : ∀ (k : Nat) (x : Ex) (at_ : Nat), at_ + k = 21 → ExOk k x →
    Iter Tryz.prog 147 [] [.pt (some 7) (.agg (exC x)) 0, .pt none (i64V at_) 0] ((nodesN k x).map fun y => [V.agg (exC y)]) := by
  intro k
  induction k with
  | zero =>
    intro x at_ hat _
    refine ⟨⟨_, _, Tryz.func147, rfl, by kernel_rfl⟩, fun l I E R0 h0 hy => ?_⟩
    refine scall_of (live := []) (ords := []) Tryz.func147 rfl (by kernel_rfl) (by kernel_rfl) (Nat.le_of_ble_eq_true rfl) ?_
    (conv=>arg 2;whnf);refine wp_ite (fun h1 => ?_) (fun h1 => ?_)
    · (repeat ((conv=>arg 2;whnf);first|refine wp_it rfl ?_|refine wp_if rfl ?_))
      (conv=>arg 2;whnf);refine w_ret0 rfl (List.Sublist.refl _) (.inl h0)
    · (conv=>arg 2;whnf);refine wp_ite (fun h2 => ?_) (fun h2 => ?_)
      · (repeat ((conv=>arg 2;whnf);first|refine wp_it rfl ?_|refine wp_if rfl ?_))
        (conv=>arg 2;whnf);refine w_ret0 rfl (List.Sublist.refl _) (.inl h0)
      · have h2 : ¬ (20 < (at_ : Int)) := of_decide_eq_false h2
        omega
  | succ k ih =>
    intro x at_ hat hok
    refine ⟨⟨_, _, Tryz.func147, rfl, by kernel_rfl⟩, fun l I E R0 h0 hy => ?_⟩
    refine scall_of (live := []) (ords := []) Tryz.func147 rfl (by kernel_rfl) (by kernel_rfl) (Nat.le_of_ble_eq_true rfl) ?_
    (conv=>arg 2;whnf);refine wp_ite (fun h1 => ?_) (fun h1 => ?_)
    · have h1 : x.op = 0 := by simpa using h1
      (repeat ((conv=>arg 2;whnf);first|refine wp_it rfl ?_|refine wp_if rfl ?_))
      (conv=>arg 2;whnf);refine w_ret0 rfl (List.Sublist.refl _) (.inl ?_)
      rw [nodesN_op h1]; exact h0
    have h1 : x.op ≠ 0 := by simpa using h1
    (conv=>arg 2;whnf);refine wp_ite (fun h2 => ?_) (fun h2 => ?_)
    · have h2 : 20 < (at_ : Int) := of_decide_eq_true h2
      omega
    rw [nodesN_kids h1] at hy ⊢
    have hl := hok.2.2.2.1
    (conv=>arg 2;whnf);refine wp_yld (hy 0 _ _ rfl h0) ?_
    rintro b' R' (⟨rfl, hI⟩ | ⟨rfl, hE⟩)
    · (repeat ((conv=>arg 2;whnf);first|refine wp_it rfl ?_|refine wp_if rfl ?_))
      (conv=>arg 2;whnf);refine wp_loop (fun m fr R => ∃ n : Nat, m = x.kids.length - n ∧ n ≤ x.kids.length ∧ I (1 + ((x.kids.take n).flatMap (nodesN k)).length) R ∧
          fr = frL [(2, .pt none (i64V at_) 0), (3, .pt none (.fn (.yield l) [] []) 0), (21, exsV x.kids), (22, i64V x.kids.length), (23, i64V n)])
        x.kids.length _ _ (.cons (.refl _) (.cons (.refl _) (.cons (.refl _) (.cons (Vle.eq ?_) (.cons (.refl _) (.nil _)))))) (List.Sublist.refl _) ⟨0, rfl, Nat.zero_le _, hI, rfl⟩ ?_
      · show V.c (.int .i64 (x.kids.map exV).length) = _
        rw [List.length_map]; rfl
      rintro m fr R ⟨n, rfl, hn, hI, rfl⟩
      (conv=>arg 2;whnf);refine wp_ite (fun h => ?_) (fun h => ?_)
      · have h : n < x.kids.length := by have := of_decide_eq_true h; omega
        obtain ⟨y, hk⟩ : ∃ y, x.kids[n]? = some y := ⟨_, List.getElem?_eq_getElem h⟩
        have hit := ih y (at_ + 1) (by omega) (exOk_kid hok hk)
        (conv=>arg 2;whnf);refine wp_elem n (.agg (exC y)) rfl (kid_at hk) (Vle.refl _) ?_
        (conv=>arg 2;whnf);refine wp_allocE exZ rfl fun b => ?_
        (conv=>arg 2;whnf);refine wp_storeE (cs := exZ) R.length 0 (exC y) (by simp) rfl (VleL.refl _) (Nat.le_refl _) rfl (R' := R ++ [.obj b (exC y)]) (by simp [splice_ex]) ?_
        (conv=>arg 2;whnf);refine wp_load (cs := exC y) R.length (by simp) rfl ?_
        (conv=>arg 2;whnf);refine wp_pcallV (.cons (.refl _) (.cons (Vle.i64 _ rfl (wadd (by omega : (at_ : Int) + 1 = ((at_ + 1 : Nat) : Int)) (by omega) (by omega))) .nil)) (nodes_call y (at_ + 1)) ?_
        (conv=>arg 2;whnf);refine wp_range hit (fun i R' => ∃ S T, R' = S ++ T ∧ I (1 + ((x.kids.take n).flatMap (nodesN k)).length + i) S) ⟨R, [.obj b (exC y)], rfl, hI⟩ ?_ ?_ ?_
        · intro i args hi
          rw [List.getElem?_map, Option.map_eq_some_iff] at hi
          obtain ⟨z, _, rfl⟩ := hi
          rfl
        · rintro i args R1 hi ⟨S, T, rfl, hS⟩
          rw [List.getElem?_map, Option.map_eq_some_iff] at hi
          obtain ⟨z, hz, rfl⟩ := hi
          have hz2 : ((x :: x.kids.flatMap (nodesN k)).map fun y => [V.agg (exC y)])[1 + ((x.kids.take n).flatMap (nodesN k)).length + i]? = some [V.agg (exC z)] := by
            rw [show 1 + ((x.kids.take n).flatMap (nodesN k)).length + i = (((x.kids.take n).flatMap (nodesN k)).length + i) + 1 by omega, List.map_cons, List.getElem?_cons_succ, List.getElem?_map, flat_at hk hz]
            rfl
          (conv=>arg 2;whnf);refine wp_allocE exZ rfl fun c => ?_
          (conv=>arg 2;whnf);refine wp_storeE (cs := exZ) (S ++ T).length 0 (exC z) (by simp) rfl (VleL.refl _) (Nat.le_refl _) rfl (R' := S ++ (T ++ [.obj c (exC z)])) (by simp [splice_ex]) ?_
          (conv=>arg 2;whnf);refine wp_load (cs := exC z) (S ++ T).length (by simp) rfl ?_
          have hyc := (hy _ _ S hz2 hS).frame (A := []) (B := T ++ [.obj c (exC z)])
          (conv=>arg 2;whnf);refine wp_yld hyc ?_
          rintro b' R' ⟨S2, ⟨rfl, hI2⟩ | ⟨rfl, hE⟩, rfl⟩
          · (repeat ((conv=>arg 2;whnf);first|refine wp_it rfl ?_|refine wp_if rfl ?_))
            (conv=>arg 2;whnf)
            exact wp_leaf ⟨S2, _, rfl, hI2⟩
          · (repeat ((conv=>arg 2;whnf);first|refine wp_it rfl ?_|refine wp_if rfl ?_))
            (conv=>arg 2;whnf)
            refine wp_leaf ?_
            show (Tree.leaf Exit.ret _).wp Tryz.prog _ (loopPost _ _ _)
            refine wp_leaf (loop_ret ?_)
            (conv=>arg 2;whnf);refine w_ret0 rfl (List.sublist_append_left S2 _) (.inr hE)
        · rintro R1 ⟨S, T, rfl, hS⟩
          (conv=>arg 2;whnf)
          refine wp_leaf (loop_next (x.kids.length - (n + 1)) _ _ (by omega) (.cons (.refl _) (.cons (.refl _) (.cons (.refl _) (.cons (.refl _) (.cons (Vle.inc n rfl (by omega)) (.nil _)))))) (List.sublist_append_left _ _) ⟨n + 1, rfl, h, ?_, rfl⟩)
          rw [flat_take hk, ← Nat.add_assoc]
          rw [List.length_map] at hS
          exact hS
      · have h : n = x.kids.length := by have := of_decide_eq_false h; omega
        subst h
        rw [List.take_length] at hI
        (conv=>arg 2;whnf)
        refine wp_leaf (loop_exit ?_)
        (conv=>arg 2;whnf);refine w_norm0 rfl (List.Sublist.refl _) (.inl ?_)
        rw [List.length_map, List.length_cons, Nat.add_comm]
        exact hI
    · (repeat ((conv=>arg 2;whnf);first|refine wp_it rfl ?_|refine wp_if rfl ?_))
      (conv=>arg 2;whnf);refine w_ret0 rfl (List.Sublist.refl _) (.inr hE)
end Go.Sv
namespace Go.Sv
open Go Go.Proofs
set_option maxRecDepth 100000 in
theorem isop_call (y : Ex) : PCall Tryz.prog 150 [.agg (exC y)] (bV (decide (y.op = 0))) := by
  refine scall_of (live := []) (ords := []) Tryz.func150 rfl (by kernel_rfl) (by kernel_rfl) (Nat.le_of_ble_eq_true rfl) ?_
  (conv=>arg 2;whnf);refine w_retp rfl (Vle.eq (cBool ?_))
  rw [Bool.eq_iff_iff]; simp
set_option maxRecDepth 100000 in
theorem indexop_call (l : List Ex) (hl : l.length < 2 ^ 60) : SCall Tryz.prog 156 [exsV l, .fn (.func 150) [] []] [] fun v R' => R' = [] ∧ ∃ i : Int, v = i64V i ∧ decide (0 ≤ i) = l.any (fun k => decide (k.op = 0)) := by
  refine scall_of (live := []) (ords := []) Tryz.func156 rfl (by kernel_rfl) (by kernel_rfl) (Nat.le_of_ble_eq_true rfl) ?_
  (conv=>arg 2;whnf);refine wp_loop (fun m fr R => ∃ n : Nat, m = l.length - n ∧ n ≤ l.length ∧ R = [] ∧ (l.take n).any (fun k => decide (k.op = 0)) = false ∧ fr = frL [(0, exsV l), (1, .fn (.func 150) [] []), (7, i64V l.length), (8, i64V n)])
    l.length _ _ (.cons (.refl _) (.cons (.refl _) (.cons (Vle.eq ?_) (.cons (.refl _) (.nil _))))) (List.Sublist.refl _) ⟨0, rfl, Nat.zero_le _, rfl, rfl, rfl⟩ ?_
  · show V.c (.int .i64 (l.map exV).length) = _
    rw [List.length_map]; rfl
  rintro m fr R ⟨n, rfl, hn, rfl, ha, rfl⟩
  (conv=>arg 2;whnf);refine wp_ite (fun h => ?_) (fun h => ?_)
  · have h : n < l.length := by have := of_decide_eq_true h; omega
    obtain ⟨y, hy⟩ : ∃ y, l[n]? = some y := ⟨_, List.getElem?_eq_getElem h⟩
    have hm : (l.map exV)[n]? = some (.agg (exC y)) := by rw [List.getElem?_map, hy, ← exV_eq]; rfl
    (conv=>arg 2;whnf);refine wp_elem n (.agg (exC y)) rfl hm (Vle.refl _) ?_
    (conv=>arg 2;whnf);refine wp_pcall (isop_call y) ?_
    (conv=>arg 2;whnf);refine wp_ite (fun h1 => ?_) (fun h1 => ?_)
    · (conv=>arg 2;whnf)
      refine wp_leaf (loop_ret ?_)
      (conv=>arg 2;whnf);refine w_ret1 rfl (Vle.refl _) (List.Sublist.refl _) ⟨rfl, n, rfl, ?_⟩
      rw [decide_eq_true (by omega : (0 : Int) ≤ n), show l = l.take n ++ y :: l.drop (n + 1) by rw [← drop_at hy, List.take_append_drop]]
      simp [of_decide_eq_true h1]
    · (conv=>arg 2;whnf)
      refine wp_leaf (loop_next (l.length - (n + 1)) _ _ (by omega) (.cons (.refl _) (.cons (.refl _) (.cons (.refl _) (.cons (Vle.inc n rfl (by omega)) (.nil _))))) (List.Sublist.refl _) ⟨n + 1, rfl, h, rfl, ?_, rfl⟩)
      rw [List.take_add_one, hy, List.any_append, ha]
      simp [of_decide_eq_false h1]
  · have h : n = l.length := by have := of_decide_eq_false h; omega
    subst h
    rw [List.take_length] at ha
    (conv=>arg 2;whnf)
    refine wp_leaf (loop_exit ?_)
    (conv=>arg 2;whnf);refine w_ret1 rfl (Vle.refl _) (List.Sublist.refl _) ⟨rfl, -1, rfl, ha.symm⟩
set_option maxRecDepth 100000 in
theorem hasop_call (l : List Ex) (hl : l.length < 2 ^ 60) : PCall Tryz.prog 149 [exsV l, .fn (.func 150) [] []] (bV (l.any (fun k => decide (k.op = 0)))) := by
  refine scall_of (live := []) (ords := []) Tryz.func149 rfl (by kernel_rfl) (by kernel_rfl) (Nat.le_of_ble_eq_true rfl) ?_
  (conv=>arg 2;whnf);refine wp_call (indexop_call l hl) ?_
  rintro v R' ⟨rfl, i, rfl, hi⟩
  (conv=>arg 2;whnf);refine w_retp rfl (Vle.eq (cBool hi))
end Go.Sv
namespace Go.Sv
open Go Go.Proofs
theorem valEqB : structEqB Tryz.prog 58 = true := by kernel_rfl
theorem str_ne (s : List UInt8) : (!((S s).toList == (⟨#[]⟩ : ByteArray).toList)) = !decide (s = []) := congrArg _ nilS
theorem val_eq0 (x : Ex) : (x.val.kind == 0 && (x.val.n == 0 && ((S x.val.s).toList == (⟨#[]⟩ : ByteArray).toList && true))) = decide (x.val = val0) := by
  rw [show ((S x.val.s).toList == (⟨#[]⟩ : ByteArray).toList) = decide (x.val.s = []) from nilS]
  cases h : x.val with
  | mk k n s => rw [Bool.eq_iff_iff]; simp [val0]
theorem val_ne0 (x : Ex) : (!(x.val.kind == 0 && (x.val.n == 0 && ((S x.val.s).toList == (⟨#[]⟩ : ByteArray).toList && true)))) = hasV x := congrArg _ (val_eq0 x)
theorem nodeB_bad {x : Ex} (h : x.op < 1 ∨ 12 < x.op ∨ x.kids.length ≠ kidsN x.op) : nodeB x = false := by rw [nodeB, if_pos h]
theorem nodeB_kid {x : Ex} (h : x.kids.any (fun k => decide (k.op = 0)) = true) : nodeB x = false := by
  rw [nodeB]; split
  · rfl
  · rfl
theorem nodeB_lit {x : Ex} (h : ¬ (x.op < 1 ∨ 12 < x.op ∨ x.kids.length ≠ kidsN x.op)) (h1 : x.kids.any (fun k => decide (k.op = 0)) = false) (h2 : x.op = 1) : nodeB x = (valIs x.val && !hasF x) := by
  rw [nodeB, if_neg h, if_neg (by rw [h1]; simp), if_pos h2]
theorem nodeB_fld {x : Ex} (h : ¬ (x.op < 1 ∨ 12 < x.op ∨ x.kids.length ≠ kidsN x.op)) (h1 : x.kids.any (fun k => decide (k.op = 0)) = false) (h2 : x.op = 2) : nodeB x = (!hasV x && (isNm x.al && isNm x.fd)) := by
  rw [nodeB, if_neg h, if_neg (by rw [h1]; simp), if_neg (by omega), if_pos h2]
theorem nodeB_in {x : Ex} (h : ¬ (x.op < 1 ∨ 12 < x.op ∨ x.kids.length ≠ kidsN x.op)) (h1 : x.kids.any (fun k => decide (k.op = 0)) = false) (h2 : x.op ≠ 1) (h3 : x.op ≠ 2) : nodeB x = (!hasV x && !hasF x) := by
  rw [nodeB, if_neg h, if_neg (by rw [h1]; simp), if_neg h2, if_neg h3]
set_option maxRecDepth 100000 in
theorem isnode_call (x : Ex) (hs : x.val.s.length < 2 ^ 60) (ha : x.al.length < 2 ^ 60) (hf : x.fd.length < 2 ^ 60) (hl : x.kids.length < 2 ^ 60) : PCall Tryz.prog 142 [.agg (exC x)] (bV (nodeB x)) := by
  have hF1 : decide (x.al = []) = false → hasF x = true := fun h => by rw [hasF, h]; rfl
  have hF2 : decide (x.al = []) = true → hasF x = !decide (x.fd = []) := fun h => by rw [hasF, h]; rfl
  have hv := val_ne0 x
  have ha0 := str_ne x.al
  have hf0 := str_ne x.fd
  have fk := kids_call x.op
  have fh := hasop_call x.kids hl
  have fv := valueis_call x.val hs
  have fa := name_call x.al ha
  have ff := name_call x.fd hf
  refine scall_of (live := []) (ords := [(2, [])]) Tryz.func142 rfl (by kernel_rfl) (by kernel_rfl) (Nat.le_of_ble_eq_true rfl) ?_
  (conv=>arg 2;whnf);refine wp_need valEqB ?_
  apply wp_joinT
  case h1 =>
    intro rest
    (conv=>arg 2;whnf);refine wp_ite (fun h1 => ?_) (fun h1 => ?_)
    · (repeat ((conv=>arg 2;whnf);first|refine wp_it rfl ?_|refine wp_if rfl ?_))
      (conv=>arg 2;whnf)
      exact wp_cutR (frL [(1, .pt (some 7) (.agg (exC x)) 0), (3, bV (hasV x)), (4, bV (hasF x))]) [] (.cons (.refl _) (.cons (Vle.eq (cBool hv)) (.cons (Vle.eq (cBool (hF1 (by rw [ha0] at h1; simpa using h1)).symm)) (.nil _)))) (List.Sublist.refl _) rest
    · (conv=>arg 2;whnf)
      exact wp_cutR (frL [(1, .pt (some 7) (.agg (exC x)) 0), (3, bV (hasV x)), (4, bV (hasF x))]) [] (.cons (.refl _) (.cons (Vle.eq (cBool hv)) (.cons (Vle.eq (cBool (hf0.trans (hF2 (by rw [ha0] at h1; simpa using h1)).symm))) (.nil _)))) (List.Sublist.refl _) rest
  case rest =>
    (conv=>arg 2;whnf);refine wp_ite (fun h1 => ?_) (fun h1 => ?_)
    · have h1 : x.op < 1 := of_decide_eq_true h1
      (repeat ((conv=>arg 2;whnf);first|refine wp_it rfl ?_|refine wp_if rfl ?_))
      (conv=>arg 2;whnf);refine w_retp rfl (Vle.eq (cBool (nodeB_bad (.inl h1)).symm))
    have h1 : ¬ x.op < 1 := of_decide_eq_false h1
    (conv=>arg 2;whnf);refine wp_ite (fun h2 => ?_) (fun h2 => ?_)
    · have h2 : 12 < x.op := of_decide_eq_true h2
      (repeat ((conv=>arg 2;whnf);first|refine wp_it rfl ?_|refine wp_if rfl ?_))
      (conv=>arg 2;whnf);refine w_retp rfl (Vle.eq (cBool (nodeB_bad (.inr (.inl h2))).symm))
    have h2 : ¬ 12 < x.op := of_decide_eq_false h2
    (conv=>arg 2;whnf);refine wp_pc fk ?_
    (conv=>arg 2;whnf);refine wp_ite (fun h3 => ?_) (fun h3 => ?_)
    · have h3 : x.kids.length ≠ kidsN x.op := by
        intro e
        simp [e] at h3
      (conv=>arg 2;whnf);refine w_retp rfl (Vle.eq (cBool (nodeB_bad (.inr (.inr h3))).symm))
    have h3 : x.kids.length = kidsN x.op := by
      simp at h3
      omega
    have hb : ¬ (x.op < 1 ∨ 12 < x.op ∨ x.kids.length ≠ kidsN x.op) := by omega
    (conv=>arg 2;whnf);refine wp_pcall fh ?_
    (conv=>arg 2;whnf);refine wp_ite (fun h4 => ?_) (fun h4 => ?_)
    · (conv=>arg 2;whnf);refine w_retp rfl (Vle.eq (cBool (nodeB_kid h4).symm))
    (conv=>arg 2;whnf);refine wp_ite (fun h5 => ?_) (fun h5 => ?_)
    · have h5 : x.op = 1 := by simpa using h5
      (conv=>arg 2;whnf);refine wp_pcall fv ?_
      (conv=>arg 2;whnf);refine wp_ite (fun h6 => ?_) (fun h6 => ?_)
      · (conv=>arg 2;whnf);refine w_retp rfl (Vle.eq (cBool ?_))
        rw [nodeB_lit hb h4 h5, h6]; rfl
      · (conv=>arg 2;whnf);refine w_retp rfl (Vle.eq (cBool ?_))
        rw [nodeB_lit hb h4 h5, h6]; rfl
    have h5 : x.op ≠ 1 := by simpa using h5
    (conv=>arg 2;whnf);refine wp_ite (fun h6 => ?_) (fun h6 => ?_)
    · have h6 : x.op = 2 := by simpa using h6
      (conv=>arg 2;whnf);refine wp_ite (fun h7 => ?_) (fun h7 => ?_)
      · (conv=>arg 2;whnf);refine wp_pcall fa ?_
        (conv=>arg 2;whnf);refine wp_ite (fun h8 => ?_) (fun h8 => ?_)
        · (conv=>arg 2;whnf);refine wp_pcall ff ?_
          (conv=>arg 2;whnf);refine w_retp rfl (Vle.eq (cBool ?_))
          rw [nodeB_fld hb h4 h6, h7, h8]; rfl
        · (repeat ((conv=>arg 2;whnf);first|refine wp_it rfl ?_|refine wp_if rfl ?_))
          (conv=>arg 2;whnf);refine w_retp rfl (Vle.eq (cBool ?_))
          rw [nodeB_fld hb h4 h6, h7, h8]; rfl
      · (repeat ((conv=>arg 2;whnf);first|refine wp_it rfl ?_|refine wp_if rfl ?_))
        (conv=>arg 2;whnf);refine w_retp rfl (Vle.eq (cBool ?_))
        rw [nodeB_fld hb h4 h6, h7]; rfl
    have h6 : x.op ≠ 2 := by simpa using h6
    (conv=>arg 2;whnf);refine wp_ite (fun h7 => ?_) (fun h7 => ?_)
    · (conv=>arg 2;whnf);refine w_retp rfl (Vle.eq (cBool ?_))
      rw [nodeB_in hb h4 h5 h6, h7]; rfl
    · (conv=>arg 2;whnf);refine w_retp rfl (Vle.eq (cBool ?_))
      rw [nodeB_in hb h4 h5 h6, h7]; rfl
end Go.Sv
namespace Go.Sv
open Go Go.Proofs
theorem w_ret1c {P : Program} {R : List Res} {fn : Func} {fr : Fr} {x : Tmp} {ty : TypeId} {cs : List V} {v a : V} {sh : Option Nat} (bl off i : Nat) (h : fn.results.toList = [.cell x ty]) (hx : fr x = .loc bl off) (hsh : shapeOf P ty = some sh)
    (hR : R[i]? = some (.obj bl cs)) (hp : partOf sh cs off = some v) (ha : Vle v a) : (Tree.leaf .ret fr).wp P R (Ends P fn fun u _ => u = a) :=
  ⟨.inr rfl, [v], a, [], by rw [h]; exact ⟨bl, off, sh, i, cs, v, _, hx, hsh, hR, hp, rfl, rfl⟩, UpdV.vle ha (List.nil_sublist _), rfl⟩
def NodeOk (x : Ex) : Prop := x.val.s.length < 2 ^ 60 ∧ x.al.length < 2 ^ 60 ∧ x.fd.length < 2 ^ 60 ∧ x.kids.length < 2 ^ 60
theorem nodes_ok : ∀ {k : Nat} {x z : Ex}, ExOk k x → z ∈ nodesN k x → NodeOk z
  | 0, _, _, _, hz => by simp [nodesN] at hz
  | k + 1, x, z, h, hz => by
    by_cases h0 : x.op = 0
    · rw [nodesN_op h0] at hz; cases hz
    · rw [nodesN_kids h0, List.mem_cons] at hz
      rcases hz with rfl | hz
      · exact ⟨h.1, h.2.1, h.2.2.1, h.2.2.2.1⟩
      · obtain ⟨y, hy, hz⟩ := List.mem_flatMap.1 hz
        exact nodes_ok (h.2.2.2.2 y hy) hz
theorem isExB_deep {x : Ex} (h : 5 < depthN 20 x) : isExB x = false := by rw [isExB, decide_eq_false (by omega : ¬ depthN 20 x ≤ 5)]; simp
theorem isExB_many {x : Ex} (h : 24 < (nodesN 20 x).length) : isExB x = false := by rw [isExB, decide_eq_false (by omega : ¬ (nodesN 20 x).length ≤ 24)]; simp
theorem isExB_bad {x z : Ex} (hz : z ∈ nodesN 20 x) (h : nodeB z = false) : isExB x = false := by
  have : (nodesN 20 x).all nodeB = false := by rw [List.all_eq_false]; exact ⟨z, hz, by simp [h]⟩
  rw [isExB, this]; simp
theorem isExB_ok {x : Ex} (h1 : depthN 20 x ≤ 5) (h2 : (nodesN 20 x).length ≤ 24) (h3 : (nodesN 20 x).all nodeB = true) : isExB x = decide (0 < (nodesN 20 x).length) := by
  rw [isExB, decide_eq_true h1, decide_eq_true h2, h3]; simp
set_option maxRecDepth 100000 in
theorem isexpr_call (x : Ex) (hok : ExOk 20 x) : PCall Tryz.prog 133 [.agg (exC x)] (bV (isExB x)) := by
  have fd := Depth_call x hok
  rw [exV_eq] at fd
  have hit := nodes_iter 20 x 1 rfl hok
  refine scall_of (live := []) (ords := []) Tryz.func133 rfl (by kernel_rfl) (by kernel_rfl) (Nat.le_of_ble_eq_true rfl) ?_
  (conv=>arg 2;whnf);refine wp_allocE [bV false] rfl fun b => ?_
  (conv=>arg 2;whnf);refine wp_pcall fd ?_
  (conv=>arg 2;whnf);refine wp_ite (fun h1 => ?_) (fun h1 => ?_)
  · have h1 : 5 < depthN 20 x := by have := of_decide_eq_true h1; omega
    (conv=>arg 2;whnf);refine wp_storeE 0 0 [bV false] rfl rfl (VleL.refl _) (Nat.le_refl _) rfl (R' := [.obj b [bV false]]) rfl ?_
    (conv=>arg 2;whnf);refine w_ret1c b 0 0 rfl rfl rfl rfl rfl (Vle.eq (cBool (isExB_deep h1).symm))
  have h1 : depthN 20 x ≤ 5 := by have := of_decide_eq_false h1; omega
  (conv=>arg 2;whnf);refine wp_allocE [i64V 0] rfl fun c => ?_
  (conv=>arg 2;whnf);refine wp_storeE 1 0 [i64V 0] rfl rfl (VleL.refl _) (Nat.le_refl _) rfl (R' := [.obj b [bV false], .obj c [i64V 0]]) rfl ?_
  (conv=>arg 2;whnf);refine wp_pcall (nodes_call x 1) ?_
  (conv=>arg 2;whnf);refine wp_range hit (fun i R' => ∃ T, R' = .obj b [bV false] :: .obj c [i64V (i : Nat)] :: T ∧ ((nodesN 20 x).take i).all nodeB = true ∧ i ≤ 24) ⟨[], rfl, rfl, Nat.zero_le _⟩ ?_ ?_ ?_
  · intro i args hi
    rw [List.getElem?_map, Option.map_eq_some_iff] at hi
    obtain ⟨z, _, rfl⟩ := hi
    rfl
  · rintro i args R1 hi ⟨T, rfl, hT, hi24⟩
    rw [List.getElem?_map, Option.map_eq_some_iff] at hi
    obtain ⟨z, hz, rfl⟩ := hi
    have hm := List.mem_of_getElem? hz
    have hlt := (List.getElem?_eq_some_iff.1 hz).1
    have hzo := nodes_ok hok hm
    have hn := isnode_call z hzo.1 hzo.2.1 hzo.2.2.1 hzo.2.2.2
    have hw : IntKind.i64.wrap ((i : Int) + 1) = ((i + 1 : Nat) : Int) := wadd (by omega) (by omega) (by omega)
    (conv=>arg 2;whnf);refine wp_allocE exZ rfl fun d => ?_
    (conv=>arg 2;whnf);refine wp_storeE (cs := exZ) (T.length + 2) 0 (exC z) (by simp) rfl (VleL.refl _) (Nat.le_refl _) rfl (R' := .obj b [bV false] :: .obj c [i64V (i : Nat)] :: (T ++ [.obj d (exC z)])) (by simp [splice_ex]) ?_
    (conv=>arg 2;whnf);refine wp_load (cs := [i64V (i : Nat)]) 1 rfl rfl ?_
    (conv=>arg 2;whnf);refine wp_storeE (cs := [i64V (i : Nat)]) 1 0 [i64V ((i + 1 : Nat) : Int)] rfl rfl (.cons (Vle.eq (cI64 hw)) .nil) (Nat.le_refl _) rfl (R' := .obj b [bV false] :: .obj c [i64V ((i + 1 : Nat) : Int)] :: (T ++ [.obj d (exC z)])) rfl ?_
    (conv=>arg 2;whnf);refine wp_load (cs := [i64V ((i + 1 : Nat) : Int)]) 1 rfl rfl ?_
    (conv=>arg 2;whnf);refine wp_ite (fun h2 => ?_) (fun h2 => ?_)
    · have h2 : 24 < (nodesN 20 x).length := by have := of_decide_eq_true h2; omega
      (repeat ((conv=>arg 2;whnf);first|refine wp_it rfl ?_|refine wp_if rfl ?_))
      (conv=>arg 2;whnf);refine wp_storeE (cs := [bV false]) 0 0 [bV false] rfl rfl (VleL.refl _) (Nat.le_refl _) rfl (R' := .obj b [bV false] :: .obj c [i64V ((i + 1 : Nat) : Int)] :: (T ++ [.obj d (exC z)])) rfl ?_
      (conv=>arg 2;whnf)
      refine wp_leaf ?_
      show (Tree.leaf Exit.ret _).wp Tryz.prog _ (Ends _ _ _)
      exact w_ret1c b 0 0 rfl rfl rfl rfl rfl (Vle.eq (cBool (isExB_many h2).symm))
    have h2 : i + 1 ≤ 24 := by have := of_decide_eq_false h2; omega
    (conv=>arg 2;whnf);refine wp_load (cs := exC z) (T.length + 2) (by simp) rfl ?_
    (conv=>arg 2;whnf);refine wp_pcall hn ?_
    (conv=>arg 2;whnf);refine wp_ite (fun h3 => ?_) (fun h3 => ?_)
    · have h3 : nodeB z = false := by simpa using h3
      (conv=>arg 2;whnf);refine wp_storeE (cs := [bV false]) 0 0 [bV false] rfl rfl (VleL.refl _) (Nat.le_refl _) rfl (R' := .obj b [bV false] :: .obj c [i64V ((i + 1 : Nat) : Int)] :: (T ++ [.obj d (exC z)])) rfl ?_
      (conv=>arg 2;whnf)
      refine wp_leaf ?_
      show (Tree.leaf Exit.ret _).wp Tryz.prog _ (Ends _ _ _)
      exact w_ret1c b 0 0 rfl rfl rfl rfl rfl (Vle.eq (cBool (isExB_bad hm h3).symm))
    · have h3 : nodeB z = true := by simpa using h3
      (conv=>arg 2;whnf)
      refine wp_leaf ⟨_, rfl, ?_, h2⟩
      rw [List.take_add_one, hz, List.all_append, hT]
      simp [h3]
  · rintro R1 ⟨T, rfl, hT, hi24⟩
    rw [List.length_map] at hT hi24 ⊢
    rw [List.take_length] at hT
    (conv=>arg 2;whnf);refine wp_load (cs := [i64V ((nodesN 20 x).length : Nat)]) 1 rfl rfl ?_
    (conv=>arg 2;whnf);refine wp_storeE (cs := [bV false]) 0 0 [bV (isExB x)] rfl rfl (.cons (Vle.eq (cBool ?_)) .nil) (Nat.le_refl _) rfl (R' := .obj b [bV (isExB x)] :: .obj c [i64V ((nodesN 20 x).length : Nat)] :: T) rfl ?_
    · rw [isExB_ok h1 hi24 hT]
      exact decide_eq_decide.2 (by omega)
    (conv=>arg 2;whnf);refine w_ret1c b 0 0 rfl rfl rfl rfl rfl (Vle.refl _)
end Go.Sv
namespace Go.Sv
open Go Go.Proofs
theorem wp_made {P : Program} {R : List Res} {Q : Exit → Fr → List Res → Prop} {sh : Option Nat} {xs : List V} {k : V → Tree} (h : ∀ t, (k (.sl sh xs (.t t))).wp P (R ++ [.tok t sh]) Q) : (Tree.made sh xs k).wp P R Q := h
theorem okE_ex (l : List Ex) : ∀ y ∈ l.map exV, okE (some 7) y := by
  intro y hy
  obtain ⟨x, _, rfl⟩ := List.mem_map.1 hy
  refine ⟨exC x, exV_eq x, rfl, ?_⟩
  intro c hc
  simp only [exC, List.mem_cons, List.not_mem_nil, or_false] at hc
  rcases hc with rfl | rfl | rfl | rfl | rfl | rfl | rfl <;> rfl
theorem flat_pos {α β : Type} {f : α → List β} (l : List α) (n : Nat) : ((l.take n).flatMap f).length ≤ (l.flatMap f).length := by
  conv => rhs; rw [← List.take_append_drop n l, List.flatMap_append, List.length_append]
  omega
theorem exsV_nil {l : List Ex} (h : l = []) : Vle (.sl none [] .zero) (exsV l) := by subst h; exact Vle.nil _ _ _
set_option maxRecDepth 100000 in
theorem refnodes_call : ∀ (k : Nat) (x : Ex), k < 2 ^ 60 → ExOk k x → (nodesN k x).length ≤ 2 ^ 40 → PCall Tryz.prog 80 [.agg (exC x), i64V k] (exsV (nodesN k x)) := by
  intro k
  induction k with
  | zero =>
    intro x _ _ _
    refine scall_of (live := [15]) (ords := []) Tryz.func80 rfl (by kernel_rfl) (by kernel_rfl) (Nat.le_of_ble_eq_true rfl) ?_
    (conv=>arg 2;whnf);refine wp_ite (fun h1 => ?_) (fun h1 => ?_)
    · (repeat ((conv=>arg 2;whnf);first|refine wp_it rfl ?_|refine wp_if rfl ?_))
      (conv=>arg 2;whnf);refine w_retp rfl (exsV_nil rfl)
    · (repeat ((conv=>arg 2;whnf);first|refine wp_it rfl ?_|refine wp_if rfl ?_))
      (conv=>arg 2;whnf);refine w_retp rfl (exsV_nil rfl)
  | succ k ih =>
    intro x hk hok hn
    refine scall_of (live := [15]) (ords := []) Tryz.func80 rfl (by kernel_rfl) (by kernel_rfl) (Nat.le_of_ble_eq_true rfl) ?_
    (conv=>arg 2;whnf);refine wp_ite (fun h1 => ?_) (fun h1 => ?_)
    · have h1 : x.op = 0 := by simpa using h1
      (repeat ((conv=>arg 2;whnf);first|refine wp_it rfl ?_|refine wp_if rfl ?_))
      (conv=>arg 2;whnf);refine w_retp rfl (exsV_nil (nodesN_op h1))
    have h1 : x.op ≠ 0 := by simpa using h1
    (conv=>arg 2;whnf);refine wp_ite (fun h2 => ?_) (fun h2 => ?_)
    · have h2 : ((k + 1 : Nat) : Int) = 0 := by simpa using h2
      omega
    rw [nodesN_kids h1] at hn ⊢
    rw [List.length_cons] at hn
    have hl := hok.2.2.2.1
    (conv=>arg 2;whnf);refine wp_made fun t => ?_
    (conv=>arg 2;whnf);refine wp_loop (fun m fr R => ∃ n t, m = x.kids.length - n ∧ n ≤ x.kids.length ∧ R = [.tok t (some 7)] ∧ fr = frL [(1, i64V (k + 1 : Nat)), (2, .pt (some 7) (.agg (exC x)) 0), (5, .sl (some 7) ((x :: (x.kids.take n).flatMap (nodesN k)).map exV) (.t t)), (6, i64V (n : Nat))])
      x.kids.length _ _ (.cons (.refl _) (.cons (.refl _) (.cons (Vle.of (.sl (some 7) [.agg (exC x)] (.t t)) rfl ?_) (.cons (.refl _) (.nil _))))) (List.Sublist.refl _) ⟨0, t, rfl, Nat.zero_le _, rfl, rfl⟩ ?_
    · rw [← exV_eq]; rfl
    rintro m fr R ⟨n, t, rfl, hn2, rfl, rfl⟩
    (conv=>arg 2;whnf);refine wp_ite (fun h => ?_) (fun h => ?_)
    · have h : n < x.kids.length := by
        have := of_decide_eq_true h
        rw [List.length_map] at this; omega
      obtain ⟨y, hy⟩ : ∃ y, x.kids[n]? = some y := ⟨_, List.getElem?_eq_getElem h⟩
      have hft := flat_take (f := nodesN k) hy
      have hle := flat_pos (f := nodesN k) x.kids (n + 1)
      have hc := ih y (by omega) (exOk_kid hok hy) (by omega)
      (conv=>arg 2;whnf);refine wp_elem n (.agg (exC y)) rfl (kid_at hy) (Vle.refl _) ?_
      (conv=>arg 2;whnf);refine wp_pcallV (.cons (.refl _) (.cons (Vle.i64 _ rfl (wsub (by omega : ((k + 1 : Nat) : Int) - 1 = (k : Int)) (by omega) (by omega))) .nil)) hc ?_
      (conv=>arg 2;whnf);refine wp_append_tok 0 rfl (okE_ex (nodesN k y)) ?_ (fun t' => ?_)
      · rw [List.length_map, List.length_map, List.length_cons]
        show (_ + _) * 96 ≤ _
        omega
      (conv=>arg 2;whnf)
      refine wp_leaf (loop_next (x.kids.length - (n + 1)) _ _ (by omega) (.cons (.refl _) (.cons (.refl _) (.cons (Vle.of (.sl (some 7) ((x :: (x.kids.take n).flatMap (nodesN k)).map exV ++ (nodesN k y).map exV) (.t t')) rfl ?_) (.cons (Vle.inc n rfl (by omega)) (.nil _))))) (List.Sublist.refl _) ⟨n + 1, t', rfl, h, rfl, rfl⟩)
      rw [List.take_add_one, hy, List.flatMap_append, ← List.map_append]
      simp
    · have h : n = x.kids.length := by
        have := of_decide_eq_false h
        rw [List.length_map] at this; omega
      subst h
      (conv=>arg 2;whnf)
      refine wp_leaf (loop_exit ?_)
      (conv=>arg 2;whnf);refine w_retp rfl ?_
      rw [List.take_length]
      exact Vle.sl _ _ _
set_option maxRecDepth 100000 in
theorem refNodes_call (x : Ex) (hok : ExOk 20 x) (hn : (nodesN 20 x).length ≤ 2 ^ 40) : PCall Tryz.prog 66 [.agg (exC x)] (exsV (nodesN 20 x)) := by
  have hc := refnodes_call 20 x (by omega) hok hn
  refine scall_of (live := []) (ords := []) Tryz.func66 rfl (by kernel_rfl) (by kernel_rfl) (Nat.le_of_ble_eq_true rfl) ?_
  (conv=>arg 2;whnf);refine wp_pcall hc ?_
  (conv=>arg 2;whnf);refine w_retp rfl (Vle.refl _)
end Go.Sv
namespace Go.Sv
open Go Go.Proofs
set_option maxRecDepth 100000 in
theorem plain_call (s : List UInt8) (hs : s.length < 2 ^ 60) : PCall Tryz.prog 64 [str s] (bV (isTextB s)) := by
  refine scall_of (live := []) (ords := []) Tryz.func64 rfl (by kernel_rfl) (by kernel_rfl) (Nat.le_of_ble_eq_true rfl) ?_
  (conv=>arg 2;whnf);refine wp_loop (fun m fr R => ∃ n : Nat, m = s.length - n ∧ n ≤ s.length ∧ R = [] ∧ (s.take n).all okCh = true ∧ fr = frL [(0, str s), (3, i64V n)])
    s.length _ _ (.cons (.refl _) (.cons (.refl _) (.nil _))) (List.Sublist.refl _) ⟨0, rfl, Nat.zero_le _, rfl, rfl, rfl⟩ ?_
  rintro m fr R ⟨n, rfl, hn, rfl, ha, rfl⟩
  (conv=>arg 2;whnf);refine wp_ite (fun h => ?_) (fun h => ?_)
  · have h : n < s.length := by have := of_decide_eq_true h; rw [S_size] at this; omega
    obtain ⟨c, hc⟩ : ∃ c, s[n]? = some c := ⟨_, List.getElem?_eq_getElem h⟩
    have hb : byteAt (S s) (Int.toNat (n : Int)) = c := byte_at hc
    have hsplit : s = s.take n ++ c :: s.drop (n + 1) := by rw [← drop_at hc, List.take_append_drop]
    (conv=>arg 2;whnf);refine wp_need (by rw [S_size]; omega) ?_
    rw [hb]
    (conv=>arg 2;whnf);refine wp_ite (fun h1 => ?_) (fun h1 => ?_)
    · have h1 : c.toNat < 32 := by have := of_decide_eq_true h1; omega
      (repeat ((conv=>arg 2;whnf);first|refine wp_it rfl ?_|refine wp_if rfl ?_))
      (conv=>arg 2;whnf)
      refine wp_leaf (loop_ret ?_)
      (conv=>arg 2;whnf);refine w_retp rfl (Vle.eq (cBool ?_))
      rw [hsplit, isTextB]
      have : okCh c = false := by rw [okCh, decide_eq_false (by omega : ¬ 32 ≤ c.toNat), Bool.false_and]
      simp [this]
    · have h1 : 32 ≤ c.toNat := by have := of_decide_eq_false h1; omega
      (conv=>arg 2;whnf);refine wp_need (by rw [S_size]; omega) ?_
      rw [hb]
      (conv=>arg 2;whnf);refine wp_ite (fun h2 => ?_) (fun h2 => ?_)
      · have h2 : 126 < c.toNat := by have := of_decide_eq_true h2; omega
        (repeat ((conv=>arg 2;whnf);first|refine wp_it rfl ?_|refine wp_if rfl ?_))
        (conv=>arg 2;whnf)
        refine wp_leaf (loop_ret ?_)
        (conv=>arg 2;whnf);refine w_retp rfl (Vle.eq (cBool ?_))
        rw [hsplit, isTextB]
        have : okCh c = false := by rw [okCh, decide_eq_false (by omega : ¬ c.toNat ≤ 126), Bool.and_false]
        simp [this]
      · have h2 : c.toNat ≤ 126 := by have := of_decide_eq_false h2; omega
        (repeat ((conv=>arg 2;whnf);first|refine wp_it rfl ?_|refine wp_if rfl ?_))
        (conv=>arg 2;whnf)
        refine wp_leaf (loop_next (s.length - (n + 1)) _ _ (by omega) (.cons (.refl _) (.cons (Vle.inc n rfl (by omega)) (.nil _))) (List.Sublist.refl _) ⟨n + 1, rfl, h, rfl, ?_, rfl⟩)
        rw [List.take_add_one, hc, List.all_append, ha]
        have : okCh c = true := by rw [okCh, decide_eq_true h1, decide_eq_true h2]; rfl
        simp [this]
  · have h : n = s.length := by have := of_decide_eq_false h; rw [S_size] at this; omega
    subst h
    rw [List.take_length] at ha
    (repeat ((conv=>arg 2;whnf);first|refine wp_it rfl ?_|refine wp_if rfl ?_))
    (conv=>arg 2;whnf)
    refine wp_leaf (loop_exit ?_)
    (conv=>arg 2;whnf);refine w_retp rfl (Vle.eq (cBool ?_))
    rw [isTextB, ha, Bool.true_and]
    exact decide_eq_decide.2 (by rw [S_size]; omega)
set_option maxRecDepth 100000 in
theorem refvalue_call (v : Val) (hs : v.s.length < 2 ^ 60) : PCall Tryz.prog 39 [valV v] (bV (valIs v)) := by
  obtain ⟨k, n, s⟩ := v
  refine scall_of (live := []) (ords := []) Tryz.func39 rfl (by kernel_rfl) (by kernel_rfl) (Nat.le_of_ble_eq_true rfl) ?_
  (conv=>arg 2;whnf);refine wp_ite (fun h1 => ?_) (fun h1 => ?_)
  · have h1 : k = 1 := by simpa using h1
    (conv=>arg 2;whnf);refine w_retp rfl (Vle.eq (cBool ?_))
    rw [valIs, if_pos h1]; exact nilS
  have h1 : k ≠ 1 := by simpa using h1
  (conv=>arg 2;whnf);refine wp_ite (fun h2 => ?_) (fun h2 => ?_)
  · have h2 : k = 2 := by simpa using h2
    (conv=>arg 2;whnf);refine wp_ite (fun h3 => ?_) (fun h3 => ?_)
    · have h3 : n = 0 := by simpa using h3
      (conv=>arg 2;whnf);refine wp_pcall (plain_call s hs) ?_
      (conv=>arg 2;whnf);refine w_retp rfl (Vle.eq (cBool ?_))
      rw [valIs, if_neg h1, if_pos h2, decide_eq_true h3]; rfl
    · have h3 : n ≠ 0 := by simpa using h3
      (conv=>arg 2;whnf);refine w_retp rfl (Vle.eq (cBool ?_))
      rw [valIs, if_neg h1, if_pos h2, decide_eq_false h3]; rfl
  have h2 : k ≠ 2 := by simpa using h2
  (conv=>arg 2;whnf);refine wp_ite (fun h3 => ?_) (fun h3 => ?_)
  · have h3 : k = 3 := by simpa using h3
    (conv=>arg 2;whnf);refine wp_ite (fun h4 => ?_) (fun h4 => ?_)
    · have h4 : n = 0 := by simpa using h4
      (repeat ((conv=>arg 2;whnf);first|refine wp_it rfl ?_|refine wp_if rfl ?_))
      (conv=>arg 2;whnf);refine w_retp rfl (Vle.eq (cBool ?_))
      rw [valIs, if_neg h1, if_neg h2, if_pos h3, decide_eq_true h4]; exact nilS
    · have h4 : n ≠ 0 := by simpa using h4
      (conv=>arg 2;whnf);refine wp_ite (fun h5 => ?_) (fun h5 => ?_)
      · have h5 : n = 1 := by simpa using h5
        (conv=>arg 2;whnf);refine w_retp rfl (Vle.eq (cBool ?_))
        rw [valIs, if_neg h1, if_neg h2, if_pos h3, decide_eq_false h4, decide_eq_true h5]; exact nilS
      · have h5 : n ≠ 1 := by simpa using h5
        (conv=>arg 2;whnf);refine w_retp rfl (Vle.eq (cBool ?_))
        rw [valIs, if_neg h1, if_neg h2, if_pos h3, decide_eq_false h4, decide_eq_false h5]; rfl
  have h3 : k ≠ 3 := by simpa using h3
  (conv=>arg 2;whnf);refine w_retp rfl (Vle.eq (cBool ?_))
  rw [valIs, if_neg h1, if_neg h2, if_neg h3]
end Go.Sv
namespace Go.Sv
open Go Go.Proofs
theorem str_eq (s : List UInt8) : ((S s).toList == (⟨#[]⟩ : ByteArray).toList) = decide (s = []) := nilS
theorem val_e0 (x : Ex) : (x.val.kind == 0 && (x.val.n == 0 && ((S x.val.s).toList == (⟨#[]⟩ : ByteArray).toList && true))) = !hasV x := by
  rw [val_eq0, hasV]; simp
theorem shapedN_bad {k : Nat} {x : Ex} (h : x.op < 1 ∨ 12 < x.op ∨ x.kids.length ≠ kidsN x.op) : shapedN k x = false := by
  cases k with
  | zero => rfl
  | succ k => rw [shapedN, if_pos h]
theorem shapedN_lit {k : Nat} {x : Ex} (h : ¬ (x.op < 1 ∨ 12 < x.op ∨ x.kids.length ≠ kidsN x.op)) (h2 : x.op = 1) : shapedN (k + 1) x = (valIs x.val && !hasF x) := by
  rw [shapedN, if_neg h, if_pos h2]
theorem shapedN_fld {k : Nat} {x : Ex} (h : ¬ (x.op < 1 ∨ 12 < x.op ∨ x.kids.length ≠ kidsN x.op)) (h2 : x.op = 2) : shapedN (k + 1) x = (!hasV x && (isNm x.al && isNm x.fd)) := by
  rw [shapedN, if_neg h, if_neg (by omega), if_pos h2]
theorem shapedN_in {k : Nat} {x : Ex} (h : ¬ (x.op < 1 ∨ 12 < x.op ∨ x.kids.length ≠ kidsN x.op)) (h2 : x.op ≠ 1) (h3 : x.op ≠ 2) : shapedN (k + 1) x = (x.kids.all (shapedN k) && (!hasV x && !hasF x)) := by
  rw [shapedN, if_neg h, if_neg h2, if_neg h3]
set_option maxRecDepth 100000 in
theorem refshaped_call : ∀ (k : Nat) (x : Ex) (at_ : Nat), at_ + k = 6 → ExOk (k + 1) x → PCall Tryz.prog 65 [.agg (exC x), i64V at_] (bV (shapedN k x)) := by
  intro k
  induction k with
  | zero =>
    intro x at_ hat hok
    have fk := refkids_call x.op
    refine scall_of (live := []) (ords := []) Tryz.func65 rfl (by kernel_rfl) (by kernel_rfl) (Nat.le_of_ble_eq_true rfl) ?_
    (conv=>arg 2;whnf);refine wp_ite (fun h1 => ?_) (fun h1 => ?_)
    · (repeat ((conv=>arg 2;whnf);first|refine wp_it rfl ?_|refine wp_if rfl ?_))
      (conv=>arg 2;whnf);refine w_retp rfl (.refl _)
    (conv=>arg 2;whnf);refine wp_ite (fun h2 => ?_) (fun h2 => ?_)
    · (repeat ((conv=>arg 2;whnf);first|refine wp_it rfl ?_|refine wp_if rfl ?_))
      (conv=>arg 2;whnf);refine w_retp rfl (.refl _)
    (conv=>arg 2;whnf);refine wp_pc fk ?_
    (conv=>arg 2;whnf);refine wp_ite (fun h3 => ?_) (fun h3 => ?_)
    · (repeat ((conv=>arg 2;whnf);first|refine wp_it rfl ?_|refine wp_if rfl ?_))
      (conv=>arg 2;whnf);refine w_retp rfl (.refl _)
    (conv=>arg 2;whnf);refine wp_ite (fun h4 => ?_) (fun h4 => ?_)
    · (conv=>arg 2;whnf);refine w_retp rfl (.refl _)
    · have h4 : ¬ (5 < (at_ : Int)) := of_decide_eq_false h4
      omega
  | succ k ih =>
    intro x at_ hat hok
    have fk := refkids_call x.op
    have fv := refvalue_call x.val hok.1
    have fa := refname_call x.al hok.2.1
    have ff := refname_call x.fd hok.2.2.1
    have hl := hok.2.2.2.1
    have hv := val_e0 x
    have ha0 := str_eq x.al
    have hf0 := str_eq x.fd
    have hF1 : decide (x.al = []) = false → (!hasF x) = false := fun h => by rw [hasF, h]; rfl
    have hF2 : decide (x.al = []) = true → (!hasF x) = decide (x.fd = []) := fun h => by rw [hasF, h]; simp
    refine scall_of (live := []) (ords := [(4, [])]) Tryz.func65 rfl (by kernel_rfl) (by kernel_rfl) (Nat.le_of_ble_eq_true rfl) ?_
    (conv=>arg 2;whnf);refine wp_ite (fun h1 => ?_) (fun h1 => ?_)
    · have h1 : x.op < 1 := of_decide_eq_true h1
      (repeat ((conv=>arg 2;whnf);first|refine wp_it rfl ?_|refine wp_if rfl ?_))
      (conv=>arg 2;whnf);refine w_retp rfl (Vle.eq (cBool (shapedN_bad (.inl h1)).symm))
    have h1 : ¬ x.op < 1 := of_decide_eq_false h1
    (conv=>arg 2;whnf);refine wp_ite (fun h2 => ?_) (fun h2 => ?_)
    · have h2 : 12 < x.op := of_decide_eq_true h2
      (repeat ((conv=>arg 2;whnf);first|refine wp_it rfl ?_|refine wp_if rfl ?_))
      (conv=>arg 2;whnf);refine w_retp rfl (Vle.eq (cBool (shapedN_bad (.inr (.inl h2))).symm))
    have h2 : ¬ 12 < x.op := of_decide_eq_false h2
    (conv=>arg 2;whnf);refine wp_pc fk ?_
    (conv=>arg 2;whnf);refine wp_ite (fun h3 => ?_) (fun h3 => ?_)
    · have h3 : x.kids.length ≠ kidsN x.op := by
        intro e
        simp [e] at h3
      (repeat ((conv=>arg 2;whnf);first|refine wp_it rfl ?_|refine wp_if rfl ?_))
      (conv=>arg 2;whnf);refine w_retp rfl (Vle.eq (cBool (shapedN_bad (.inr (.inr h3))).symm))
    have h3 : x.kids.length = kidsN x.op := by
      simp at h3
      omega
    have hb : ¬ (x.op < 1 ∨ 12 < x.op ∨ x.kids.length ≠ kidsN x.op) := by omega
    (conv=>arg 2;whnf);refine wp_ite (fun h4 => ?_) (fun h4 => ?_)
    · have h4 : 5 < (at_ : Int) := of_decide_eq_true h4
      omega
    (conv=>arg 2;whnf);refine wp_need valEqB ?_
    apply wp_joinT
    case h1 =>
      intro rest
      (conv=>arg 2;whnf);refine wp_ite (fun h5 => ?_) (fun h5 => ?_)
      · (conv=>arg 2;whnf)
        exact wp_cutR (frL [(1, i64V at_), (2, .pt (some 7) (.agg (exC x)) 0), (5, bV (!hasV x)), (6, bV (!hasF x))]) [] (.cons (.refl _) (.cons (.refl _) (.cons (Vle.eq (cBool hv)) (.cons (Vle.eq (cBool (hf0.trans (hF2 (ha0.symm.trans h5)).symm))) (.nil _))))) (List.Sublist.refl _) rest
      · (repeat ((conv=>arg 2;whnf);first|refine wp_it rfl ?_|refine wp_if rfl ?_))
        (conv=>arg 2;whnf)
        exact wp_cutR (frL [(1, i64V at_), (2, .pt (some 7) (.agg (exC x)) 0), (5, bV (!hasV x)), (6, bV (!hasF x))]) [] (.cons (.refl _) (.cons (.refl _) (.cons (Vle.eq (cBool hv)) (.cons (Vle.eq (cBool (hF1 (ha0.symm.trans h5)).symm)) (.nil _))))) (List.Sublist.refl _) rest
    case rest =>
      (conv=>arg 2;whnf);refine wp_ite (fun h5 => ?_) (fun h5 => ?_)
      · have h5 : x.op = 1 := by simpa using h5
        (conv=>arg 2;whnf);refine wp_pcall fv ?_
        (conv=>arg 2;whnf);refine wp_ite (fun h6 => ?_) (fun h6 => ?_)
        · (conv=>arg 2;whnf);refine w_retp rfl (Vle.eq (cBool ?_))
          rw [shapedN_lit hb h5, h6]; rfl
        · (conv=>arg 2;whnf);refine w_retp rfl (Vle.eq (cBool ?_))
          rw [shapedN_lit hb h5, h6]; rfl
      have h5 : x.op ≠ 1 := by simpa using h5
      (conv=>arg 2;whnf);refine wp_ite (fun h6 => ?_) (fun h6 => ?_)
      · have h6 : x.op = 2 := by simpa using h6
        (conv=>arg 2;whnf);refine wp_ite (fun h7 => ?_) (fun h7 => ?_)
        · (conv=>arg 2;whnf);refine wp_pcall fa ?_
          (conv=>arg 2;whnf);refine wp_ite (fun h8 => ?_) (fun h8 => ?_)
          · (conv=>arg 2;whnf);refine wp_pcall ff ?_
            (conv=>arg 2;whnf);refine w_retp rfl (Vle.eq (cBool ?_))
            rw [shapedN_fld hb h6, h7, h8]; rfl
          · (repeat ((conv=>arg 2;whnf);first|refine wp_it rfl ?_|refine wp_if rfl ?_))
            (conv=>arg 2;whnf);refine w_retp rfl (Vle.eq (cBool ?_))
            rw [shapedN_fld hb h6, h7, h8]; rfl
        · (repeat ((conv=>arg 2;whnf);first|refine wp_it rfl ?_|refine wp_if rfl ?_))
          (conv=>arg 2;whnf);refine w_retp rfl (Vle.eq (cBool ?_))
          rw [shapedN_fld hb h6, h7]; rfl
      have h6 : x.op ≠ 2 := by simpa using h6
      have hin := shapedN_in (k := k) hb h5 h6
      (conv=>arg 2;whnf);refine wp_loop (fun m fr R => ∃ n : Nat, m = x.kids.length - n ∧ n ≤ x.kids.length ∧ R = [] ∧ (x.kids.take n).all (shapedN k) = true ∧ fr = frL [(1, i64V at_), (2, .pt (some 7) (.agg (exC x)) 0), (5, bV (!hasV x)), (6, bV (!hasF x)), (7, i64V n)])
        x.kids.length _ _ (.cons (.refl _) (.cons (.refl _) (.cons (.refl _) (.cons (.refl _) (.cons (.refl _) (.nil _)))))) (List.Sublist.refl _) ⟨0, rfl, Nat.zero_le _, rfl, rfl, rfl⟩ ?_
      rintro m fr R ⟨n, rfl, hn, rfl, hall, rfl⟩
      (conv=>arg 2;whnf);refine wp_ite (fun h => ?_) (fun h => ?_)
      · have h : n < x.kids.length := by
          have := of_decide_eq_true h
          rw [List.length_map] at this; omega
        obtain ⟨y, hy⟩ : ∃ y, x.kids[n]? = some y := ⟨_, List.getElem?_eq_getElem h⟩
        have hc := ih y (at_ + 1) (by omega) (exOk_kid hok hy)
        (conv=>arg 2;whnf);refine wp_elem n (.agg (exC y)) rfl (kid_at hy) (Vle.refl _) ?_
        (conv=>arg 2;whnf);refine wp_pcallV (.cons (.refl _) (.cons (Vle.i64 _ rfl (wadd (by omega : (at_ : Int) + 1 = ((at_ + 1 : Nat) : Int)) (by omega) (by omega))) .nil)) hc ?_
        (conv=>arg 2;whnf);refine wp_ite (fun h7 => ?_) (fun h7 => ?_)
        · have h7 : shapedN k y = false := by simpa using h7
          (conv=>arg 2;whnf)
          refine wp_leaf (loop_ret ?_)
          (conv=>arg 2;whnf);refine w_retp rfl (Vle.eq (cBool ?_))
          rw [hin]
          have : x.kids.all (shapedN k) = false := by rw [List.all_eq_false]; exact ⟨y, List.mem_of_getElem? hy, by simp [h7]⟩
          rw [this]; rfl
        · have h7 : shapedN k y = true := by simpa using h7
          (conv=>arg 2;whnf)
          refine wp_leaf (loop_next (x.kids.length - (n + 1)) _ _ (by omega) (.cons (.refl _) (.cons (.refl _) (.cons (.refl _) (.cons (.refl _) (.cons (Vle.inc n rfl (by omega)) (.nil _)))))) (List.Sublist.refl _) ⟨n + 1, rfl, h, rfl, ?_, rfl⟩)
          rw [List.take_add_one, hy, List.all_append, hall]
          simp [h7]
      · have h : n = x.kids.length := by
          have := of_decide_eq_false h
          rw [List.length_map] at this; omega
        subst h
        rw [List.take_length] at hall
        rw [hall, Bool.true_and] at hin
        (conv=>arg 2;whnf)
        refine wp_leaf (loop_exit ?_)
        (conv=>arg 2;whnf);refine wp_ite (fun h7 => ?_) (fun h7 => ?_)
        · (conv=>arg 2;whnf);refine w_retp rfl (Vle.eq (cBool ?_))
          rw [hin, h7]; rfl
        · (conv=>arg 2;whnf);refine w_retp rfl (Vle.eq (cBool ?_))
          rw [hin, h7]; rfl
set_option maxRecDepth 100000 in
theorem refisexpr_call (x : Ex) (hok : ExOk 20 x) (hok6 : ExOk 6 x) (hn : (nodesN 20 x).length ≤ 2 ^ 40) : PCall Tryz.prog 44 [.agg (exC x)] (bV (isExR x)) := by
  have hc := refshaped_call 5 x 1 rfl hok6
  have hd := refNodes_call x hok hn
  refine scall_of (live := []) (ords := []) Tryz.func44 rfl (by kernel_rfl) (by kernel_rfl) (Nat.le_of_ble_eq_true rfl) ?_
  (conv=>arg 2;whnf);refine wp_pcall hc ?_
  (conv=>arg 2;whnf);refine wp_ite (fun h1 => ?_) (fun h1 => ?_)
  · (conv=>arg 2;whnf);refine wp_pcall hd ?_
    (conv=>arg 2;whnf);refine w_retp rfl (Vle.eq (cBool ?_))
    rw [isExR, h1, Bool.true_and]
    exact decide_eq_decide.2 (by rw [List.length_map]; omega)
  · (repeat ((conv=>arg 2;whnf);first|refine wp_it rfl ?_|refine wp_if rfl ?_))
    (conv=>arg 2;whnf);refine w_retp rfl (Vle.eq (cBool ?_))
    rw [isExR, h1]; rfl
end Go.Sv
namespace Go.Sv
open Go Go.Proofs
theorem shapedN_op {k : Nat} {x : Ex} (h : shapedN k x = true) : x.op ≠ 0 := by
  intro e
  rw [shapedN_bad (.inl (by omega))] at h
  cases h
theorem le_foldl_max : ∀ (l : List Nat) (b : Nat), b ≤ l.foldl max b
  | [], _ => Nat.le_refl _
  | a :: l, b => Nat.le_trans (Nat.le_max_left b a) (le_foldl_max l _)
theorem mem_foldl_max : ∀ (l : List Nat) (b a : Nat), a ∈ l → a ≤ l.foldl max b
  | c :: l, b, a, h => by
    rcases List.mem_cons.1 h with rfl | h
    · exact Nat.le_trans (Nat.le_max_right b a) (le_foldl_max l _)
    · exact mem_foldl_max l _ a h
theorem maxL_le_iff {l : List Nat} {k : Nat} : maxL l ≤ k ↔ ∀ a ∈ l, a ≤ k :=
  ⟨fun h a ha => Nat.le_trans (mem_foldl_max l 0 a ha) h, maxL_le⟩
theorem nodes_all {j : Nat} {x : Ex} (h : x.op ≠ 0) : (nodesN (j + 1) x).all nodeB = true ↔ nodeB x = true ∧ ∀ y ∈ x.kids, (nodesN j y).all nodeB = true := by
  rw [nodesN_kids h, List.all_cons, Bool.and_eq_true, List.all_flatMap, List.all_eq_true]
theorem depth_iff {j k : Nat} {x : Ex} (h : x.op ≠ 0) : depthN (j + 1) x ≤ k + 1 ↔ ∀ y ∈ x.kids, depthN j y ≤ k := by
  rw [depthN_kids h, Nat.add_le_add_iff_right, maxL_le_iff]
  simp
theorem shaped_iff : ∀ (k j : Nat), k < j → ∀ x : Ex, x.op ≠ 0 → (shapedN k x = true ↔ depthN j x ≤ k ∧ (nodesN j x).all nodeB = true)
  | 0, j + 1, _, x, h0 => by
    refine ⟨fun h => (Bool.noConfusion h), fun h => ?_⟩
    have := h.1
    rw [depthN_kids h0] at this
    omega
  | k + 1, j + 1, hj, x, h0 => by
    rw [depth_iff h0, nodes_all h0]
    by_cases hb : x.op < 1 ∨ 12 < x.op ∨ x.kids.length ≠ kidsN x.op
    · rw [shapedN_bad hb, nodeB_bad hb]; simp
    have hlen : x.kids.length = kidsN x.op := by omega
    by_cases h1 : x.op = 1
    · have hk : x.kids = [] := List.length_eq_zero_iff.1 (by rw [hlen, h1]; rfl)
      rw [shapedN_lit hb h1, nodeB_lit hb (by rw [hk]; rfl) h1, hk]; simp
    by_cases h2 : x.op = 2
    · have hk : x.kids = [] := List.length_eq_zero_iff.1 (by rw [hlen, h2]; rfl)
      rw [shapedN_fld hb h2, nodeB_fld hb (by rw [hk]; rfl) h2, hk]; simp
    have ih := shaped_iff k j (by omega)
    rw [shapedN_in hb h1 h2]
    cases hany : x.kids.any (fun k => decide (k.op = 0)) with
    | true =>
      rw [nodeB_kid hany]
      obtain ⟨y, hy, hy0⟩ := List.any_eq_true.1 hany
      have hy0 : y.op = 0 := of_decide_eq_true hy0
      have : x.kids.all (shapedN k) = false := by
        rw [List.all_eq_false]; exact ⟨y, hy, fun h => shapedN_op h hy0⟩
      rw [this]; simp
    | false =>
      rw [nodeB_in hb hany h1 h2, Bool.and_eq_true, List.all_eq_true]
      have hne : ∀ y ∈ x.kids, y.op ≠ 0 := fun y hy e => by
        have := List.any_eq_false.1 hany y hy
        exact this (decide_eq_true e)
      constructor
      · rintro ⟨ha, hn⟩
        exact ⟨fun y hy => ((ih y (hne y hy)).1 (ha y hy)).1, hn, fun y hy => ((ih y (hne y hy)).1 (ha y hy)).2⟩
      · rintro ⟨ha, hn, hc⟩
        exact ⟨fun y hy => (ih y (hne y hy)).2 ⟨ha y hy, hc y hy⟩, hn⟩
theorem isEx_same (x : Ex) : isExR x = isExB x := by
  rw [Bool.eq_iff_iff, isExR, isExB]
  by_cases h0 : x.op = 0
  · rw [shapedN_bad (.inl (by omega)), nodesN_op h0]; simp
  have hpos : 0 < (nodesN 20 x).length := by rw [nodesN_kids h0]; simp
  simp only [Bool.and_eq_true, decide_eq_true_eq]
  rw [shaped_iff 5 20 (by omega) x h0]
  constructor
  · rintro ⟨⟨h1, h2⟩, h3⟩; exact ⟨⟨⟨h1, h3⟩, h2⟩, hpos⟩
  · rintro ⟨⟨⟨h1, h3⟩, h2⟩, _⟩; exact ⟨⟨h1, h2⟩, h3⟩
end Go.Sv
namespace Go.Sv
open Go Go.Proofs
theorem shape_cases {k : Nat} {o : Int} {v : Val} {a f : List UInt8} {l : List Ex} (h : shapedN (k + 1) (.mk o v a f l) = true) :
    o = 1 ∨ o = 2 ∨ (o = 12 ∧ ∃ x, l = [x] ∧ shapedN k x = true) ∨ (3 ≤ o ∧ o ≤ 11 ∧ ∃ x y, l = [x, y] ∧ shapedN k x = true ∧ shapedN k y = true) := by
  by_cases h1 : o = 1
  · exact .inl h1
  by_cases h2 : o = 2
  · exact .inr (.inl h2)
  have hb : ¬ (o < 1 ∨ 12 < o ∨ l.length ≠ kidsN o) := fun hb => by
    rw [shapedN_bad (x := .mk o v a f l) hb] at h; cases h
  rw [shapedN_in (x := .mk o v a f l) hb h1 h2, Bool.and_eq_true, List.all_eq_true] at h
  have hl : l.length = kidsN o := by omega
  have hs : ∀ x ∈ l, shapedN k x = true := h.1
  by_cases h3 : o = 12
  · rw [kidsN_12 h3] at hl
    obtain ⟨x, rfl⟩ := List.length_eq_one_iff.1 hl
    exact .inr (.inr (.inl ⟨h3, x, rfl, hs x (by simp)⟩))
  · rw [kidsN_2 (by omega) (by omega)] at hl
    obtain ⟨x, y, rfl⟩ : ∃ x y, l = [x, y] := by
      rcases l with _ | ⟨x, _ | ⟨y, _ | ⟨z, l⟩⟩⟩
      · cases hl
      · cases hl
      · exact ⟨x, y, rfl⟩
      · simp at hl
    exact .inr (.inr (.inr ⟨by omega, by omega, x, y, rfl, hs x (by simp), hs y (by simp)⟩))
theorem map1 (x : Ex) : ([x].map exV)[0]? = some (.agg (exC x)) := by rw [← exV_eq]; rfl
theorem map20 (x y : Ex) : ([x, y].map exV)[0]? = some (.agg (exC x)) := by rw [← exV_eq]; rfl
theorem map21 (x y : Ex) : ([x, y].map exV)[1]? = some (.agg (exC y)) := by rw [← exV_eq]; rfl
def ValSm (v : Val) : Prop := v.s.length < 2 ^ 40 ∧ -9223372036854775808 ≤ v.n ∧ v.n < 9223372036854775808
def ExSm : Nat → Ex → Prop
  | 0, _ => True
  | k + 1, x => ValSm x.val ∧ x.al.length < 2 ^ 40 ∧ x.fd.length < 2 ^ 40 ∧ ∀ y ∈ x.kids, ExSm k y
end Go.Sv
namespace Go.Sv
open Go Go.Proofs
theorem val_eqD (u v : Val) : (u.kind == v.kind && (u.n == v.n && ((S u.s).toList == (S v.s).toList && true))) = decide (u = v) := by
  rw [strEq]
  cases u with
  | mk k n s =>
    cases v with
    | mk k' n' s' => rw [Bool.eq_iff_iff]; simp
def headB (a b : Ex) : Bool := decide (a.op = b.op) && (decide (a.val = b.val) && (decide (a.al = b.al) && (decide (a.fd = b.fd) && decide (a.kids.length = b.kids.length))))
theorem headB_false {a b : Ex} (h : a.op ≠ b.op ∨ a.val ≠ b.val ∨ a.al ≠ b.al ∨ a.fd ≠ b.fd ∨ a.kids.length ≠ b.kids.length) : headB a b = false := by
  rw [headB]
  rcases h with h | h | h | h | h <;> simp [h]
theorem headB_true {a b : Ex} (h1 : a.op = b.op) (h2 : a.val = b.val) (h3 : a.al = b.al) (h4 : a.fd = b.fd) (h5 : a.kids.length = b.kids.length) : headB a b = true := by
  rw [headB]; simp [h1, h2, h3, h4, h5]
set_option maxRecDepth 100000 in
theorem refsame_step (a b : Ex) (r : Nat → Bool) (hl : a.kids.length < 2 ^ 60)
    (hr : ∀ n y z, a.kids[n]? = some y → b.kids[n]? = some z → PCall Tryz.prog 43 [.agg (exC y), .agg (exC z)] (bV (r n))) :
    PCall Tryz.prog 43 [.agg (exC a), .agg (exC b)] (bV (headB a b && (List.range a.kids.length).all r)) := by
  have hv := val_eqD a.val b.val
  have hal := strEq a.al b.al
  have hfd := strEq a.fd b.fd
  refine scall_of (live := []) (ords := []) Tryz.func43 rfl (by kernel_rfl) (by kernel_rfl) (Nat.le_of_ble_eq_true rfl) ?_
  (conv=>arg 2;whnf);refine wp_ite (fun h1 => ?_) (fun h1 => ?_)
  · have h1 : a.op ≠ b.op := by simpa using h1
    (repeat ((conv=>arg 2;whnf);first|refine wp_it rfl ?_|refine wp_if rfl ?_))
    (conv=>arg 2;whnf);refine w_retp rfl (Vle.eq (cBool ?_))
    rw [headB_false (.inl h1)]; rfl
  have h1 : a.op = b.op := by simpa using h1
  (conv=>arg 2;whnf);refine wp_need valEqB ?_
  (conv=>arg 2;whnf);refine wp_ite (fun h2 => ?_) (fun h2 => ?_)
  · have h2 : a.val ≠ b.val := by
      rw [hv] at h2; simpa using h2
    (repeat ((conv=>arg 2;whnf);first|refine wp_it rfl ?_|refine wp_if rfl ?_))
    (conv=>arg 2;whnf);refine w_retp rfl (Vle.eq (cBool ?_))
    rw [headB_false (.inr (.inl h2))]; rfl
  have h2 : a.val = b.val := by
    rw [hv] at h2; simpa using h2
  (conv=>arg 2;whnf);refine wp_ite (fun h3 => ?_) (fun h3 => ?_)
  · have h3 : a.al ≠ b.al := by
      rw [hal] at h3; simpa using h3
    (repeat ((conv=>arg 2;whnf);first|refine wp_it rfl ?_|refine wp_if rfl ?_))
    (conv=>arg 2;whnf);refine w_retp rfl (Vle.eq (cBool ?_))
    rw [headB_false (.inr (.inr (.inl h3)))]; rfl
  have h3 : a.al = b.al := by
    rw [hal] at h3; simpa using h3
  (conv=>arg 2;whnf);refine wp_ite (fun h4 => ?_) (fun h4 => ?_)
  · have h4 : a.fd ≠ b.fd := by
      rw [hfd] at h4; simpa using h4
    (repeat ((conv=>arg 2;whnf);first|refine wp_it rfl ?_|refine wp_if rfl ?_))
    (conv=>arg 2;whnf);refine w_retp rfl (Vle.eq (cBool ?_))
    rw [headB_false (.inr (.inr (.inr (.inl h4))))]; rfl
  have h4 : a.fd = b.fd := by
    rw [hfd] at h4; simpa using h4
  (conv=>arg 2;whnf);refine wp_ite (fun h5 => ?_) (fun h5 => ?_)
  · have h5 : a.kids.length ≠ b.kids.length := by
      intro e
      simp [e] at h5
    (conv=>arg 2;whnf);refine w_retp rfl (Vle.eq (cBool ?_))
    rw [headB_false (.inr (.inr (.inr (.inr h5))))]; rfl
  have h5 : a.kids.length = b.kids.length := by
    simp at h5
    omega
  rw [headB_true h1 h2 h3 h4 h5, Bool.true_and]
  (conv=>arg 2;whnf);refine wp_loop (fun m fr R => ∃ n : Nat, m = a.kids.length - n ∧ n ≤ a.kids.length ∧ R = [] ∧ (List.range n).all r = true ∧ fr = frL [(2, .pt (some 7) (.agg (exC a)) 0), (3, .pt (some 7) (.agg (exC b)) 0), (5, i64V n)])
    a.kids.length _ _ (.cons (.refl _) (.cons (.refl _) (.cons (.refl _) (.nil _)))) (List.Sublist.refl _) ⟨0, rfl, Nat.zero_le _, rfl, rfl, rfl⟩ ?_
  rintro m fr R ⟨n, rfl, hn, rfl, hall, rfl⟩
  (conv=>arg 2;whnf);refine wp_ite (fun h => ?_) (fun h => ?_)
  · have h : n < a.kids.length := by
      have := of_decide_eq_true h
      rw [List.length_map] at this; omega
    obtain ⟨y, hy⟩ : ∃ y, a.kids[n]? = some y := ⟨_, List.getElem?_eq_getElem h⟩
    obtain ⟨z, hz⟩ : ∃ z, b.kids[n]? = some z := ⟨_, List.getElem?_eq_getElem (by omega)⟩
    have hc := hr n y z hy hz
    (conv=>arg 2;whnf);refine wp_elem n (.agg (exC y)) rfl (kid_at hy) (Vle.refl _) ?_
    (conv=>arg 2;whnf);refine wp_elem n (.agg (exC z)) rfl (kid_at hz) (Vle.refl _) ?_
    (conv=>arg 2;whnf);refine wp_pc hc ?_
    (conv=>arg 2;whnf);refine wp_ite (fun h6 => ?_) (fun h6 => ?_)
    · have h6 : r n = false := by simpa using h6
      (conv=>arg 2;whnf)
      refine wp_leaf (loop_ret ?_)
      (conv=>arg 2;whnf);refine w_retp rfl (Vle.eq (cBool ?_))
      symm
      rw [List.all_eq_false]; exact ⟨n, List.mem_range.2 h, by simp [h6]⟩
    · have h6 : r n = true := by simpa using h6
      (conv=>arg 2;whnf)
      refine wp_leaf (loop_next (a.kids.length - (n + 1)) _ _ (by omega) (.cons (.refl _) (.cons (.refl _) (.cons (Vle.inc n rfl (by omega)) (.nil _)))) (List.Sublist.refl _) ⟨n + 1, rfl, h, rfl, ?_, rfl⟩)
      rw [List.range_succ, List.all_append, hall]
      simp [h6]
  · have h : n = a.kids.length := by
      have := of_decide_eq_false h
      rw [List.length_map] at this; omega
    subst h
    (conv=>arg 2;whnf)
    refine wp_leaf (loop_exit ?_)
    (conv=>arg 2;whnf);refine w_retp rfl (Vle.eq (cBool hall.symm))
end Go.Sv
namespace Go.Sv
open Go Go.Proofs
theorem exs_at {l : List Ex} {y : Ex} {n : Nat} (h : l[n]? = some y) : (l.map exV)[n]? = some (.agg (exC y)) := by rw [List.getElem?_map, h, ← exV_eq]; rfl
set_option maxRecDepth 100000 in
theorem equalfn_call (l l' : List Ex) (r : Nat → Bool) (hl : l.length < 2 ^ 60)
    (hr : ∀ n y z, l[n]? = some y → l'[n]? = some z → PCall Tryz.prog 126 [.agg (exC y), .agg (exC z)] (bV (r n))) :
    PCall Tryz.prog 132 [exsV l, exsV l', .fn (.func 126) [] []] (bV (decide (l.length = l'.length) && (List.range l.length).all r)) := by
  refine scall_of (live := []) (ords := []) Tryz.func132 rfl (by kernel_rfl) (by kernel_rfl) (Nat.le_of_ble_eq_true rfl) ?_
  (conv=>arg 2;whnf);refine wp_ite (fun h1 => ?_) (fun h1 => ?_)
  · have h1 : l.length ≠ l'.length := by
      intro e
      simp [e] at h1
    (conv=>arg 2;whnf);refine w_retp rfl (Vle.eq (cBool ?_))
    rw [decide_eq_false h1]; rfl
  have h1 : l.length = l'.length := by
    simp at h1
    omega
  rw [decide_eq_true h1, Bool.true_and]
  (conv=>arg 2;whnf);refine wp_loop (fun m fr R => ∃ n : Nat, m = l.length - n ∧ n ≤ l.length ∧ R = [] ∧ (List.range n).all r = true ∧ fr = frL [(1, exsV l'), (2, .fn (.func 126) [] []), (15, exsV l), (16, i64V l.length), (17, i64V n)])
    l.length _ _ (.cons (.refl _) (.cons (.refl _) (.cons (.refl _) (.cons (Vle.eq ?_) (.cons (.refl _) (.nil _)))))) (List.Sublist.refl _) ⟨0, rfl, Nat.zero_le _, rfl, rfl, rfl⟩ ?_
  · show V.c (.int .i64 (l.map exV).length) = _
    rw [List.length_map]; rfl
  rintro m fr R ⟨n, rfl, hn, rfl, hall, rfl⟩
  (conv=>arg 2;whnf);refine wp_ite (fun h => ?_) (fun h => ?_)
  · have h : n < l.length := by have := of_decide_eq_true h; omega
    obtain ⟨y, hy⟩ : ∃ y, l[n]? = some y := ⟨_, List.getElem?_eq_getElem h⟩
    obtain ⟨z, hz⟩ : ∃ z, l'[n]? = some z := ⟨_, List.getElem?_eq_getElem (by omega)⟩
    have hc := hr n y z hy hz
    (conv=>arg 2;whnf);refine wp_elem n (.agg (exC y)) rfl (exs_at hy) (Vle.refl _) ?_
    (conv=>arg 2;whnf);refine wp_allocE exZ rfl fun b => ?_
    (conv=>arg 2;whnf);refine wp_storeE (cs := exZ) 0 0 (exC y) rfl rfl (VleL.refl _) (Nat.le_refl _) rfl (R' := [.obj b (exC y)]) rfl ?_
    (conv=>arg 2;whnf);refine wp_elem n (.agg (exC z)) rfl (exs_at hz) (Vle.refl _) ?_
    (conv=>arg 2;whnf);refine wp_allocE exZ rfl fun c => ?_
    (conv=>arg 2;whnf);refine wp_storeE (cs := exZ) 1 0 (exC z) rfl rfl (VleL.refl _) (Nat.le_refl _) rfl (R' := [.obj b (exC y), .obj c (exC z)]) rfl ?_
    (conv=>arg 2;whnf);refine wp_load (cs := exC y) 0 rfl rfl ?_
    (conv=>arg 2;whnf);refine wp_load (cs := exC z) 1 rfl rfl ?_
    (conv=>arg 2;whnf);refine wp_pcall hc ?_
    (conv=>arg 2;whnf);refine wp_ite (fun h6 => ?_) (fun h6 => ?_)
    · have h6 : r n = false := by simpa using h6
      (conv=>arg 2;whnf)
      refine wp_leaf (loop_ret ?_)
      (conv=>arg 2;whnf);refine w_retp rfl (Vle.eq (cBool ?_))
      symm
      rw [List.all_eq_false]; exact ⟨n, List.mem_range.2 h, by simp [h6]⟩
    · have h6 : r n = true := by simpa using h6
      (conv=>arg 2;whnf)
      refine wp_leaf (loop_next (l.length - (n + 1)) _ _ (by omega) (.cons (.refl _) (.cons (.refl _) (.cons (.refl _) (.cons (.refl _) (.cons (Vle.inc n rfl (by omega)) (.nil _)))))) (List.nil_sublist _) ⟨n + 1, rfl, h, rfl, ?_, rfl⟩)
      rw [List.range_succ, List.all_append, hall]
      simp [h6]
  · have h : n = l.length := by have := of_decide_eq_false h; omega
    subst h
    (conv=>arg 2;whnf)
    refine wp_leaf (loop_exit ?_)
    (conv=>arg 2;whnf);refine w_retp rfl (Vle.eq (cBool hall.symm))
theorem headB_split {a b : Ex} (h1 : a.op = b.op) (h2 : a.val = b.val) (h3 : a.al = b.al) (h4 : a.fd = b.fd) : headB a b = decide (a.kids.length = b.kids.length) := by
  rw [headB]; simp [h1, h2, h3, h4]
set_option maxRecDepth 100000 in
theorem same_step (a b : Ex) (r : Nat → Bool) (hl : a.kids.length < 2 ^ 60)
    (hr : ∀ n y z, a.kids[n]? = some y → b.kids[n]? = some z → PCall Tryz.prog 126 [.agg (exC y), .agg (exC z)] (bV (r n))) :
    PCall Tryz.prog 126 [.agg (exC a), .agg (exC b)] (bV (headB a b && (List.range a.kids.length).all r)) := by
  have hv := val_eqD a.val b.val
  have hal := strEq a.al b.al
  have hfd := strEq a.fd b.fd
  have he := equalfn_call a.kids b.kids r hl hr
  refine scall_of (live := []) (ords := []) Tryz.func126 rfl (by kernel_rfl) (by kernel_rfl) (Nat.le_of_ble_eq_true rfl) ?_
  (conv=>arg 2;whnf);refine wp_ite (fun h1 => ?_) (fun h1 => ?no1)
  case no1 =>
    have h1 : a.op ≠ b.op := by simpa using h1
    (repeat ((conv=>arg 2;whnf);first|refine wp_it rfl ?_|refine wp_if rfl ?_))
    (conv=>arg 2;whnf);refine w_retp rfl (Vle.eq (cBool ?_))
    rw [headB_false (.inl h1)]; rfl
  have h1 : a.op = b.op := by simpa using h1
  (conv=>arg 2;whnf);refine wp_need valEqB ?_
  (conv=>arg 2;whnf);refine wp_ite (fun h2 => ?_) (fun h2 => ?no2)
  case no2 =>
    have h2 : a.val ≠ b.val := by
      rw [hv] at h2; simpa using h2
    (repeat ((conv=>arg 2;whnf);first|refine wp_it rfl ?_|refine wp_if rfl ?_))
    (conv=>arg 2;whnf);refine w_retp rfl (Vle.eq (cBool ?_))
    rw [headB_false (.inr (.inl h2))]; rfl
  have h2 : a.val = b.val := by
    rw [hv] at h2; simpa using h2
  (conv=>arg 2;whnf);refine wp_ite (fun h3 => ?_) (fun h3 => ?no3)
  case no3 =>
    have h3 : a.al ≠ b.al := by
      rw [hal] at h3; simpa using h3
    (repeat ((conv=>arg 2;whnf);first|refine wp_it rfl ?_|refine wp_if rfl ?_))
    (conv=>arg 2;whnf);refine w_retp rfl (Vle.eq (cBool ?_))
    rw [headB_false (.inr (.inr (.inl h3)))]; rfl
  have h3 : a.al = b.al := by
    rw [hal] at h3; simpa using h3
  (conv=>arg 2;whnf);refine wp_ite (fun h4 => ?_) (fun h4 => ?no4)
  case no4 =>
    have h4 : a.fd ≠ b.fd := by
      rw [hfd] at h4; simpa using h4
    (repeat ((conv=>arg 2;whnf);first|refine wp_it rfl ?_|refine wp_if rfl ?_))
    (conv=>arg 2;whnf);refine w_retp rfl (Vle.eq (cBool ?_))
    rw [headB_false (.inr (.inr (.inr (.inl h4))))]; rfl
  have h4 : a.fd = b.fd := by
    rw [hfd] at h4; simpa using h4
  (conv=>arg 2;whnf);refine wp_pcall he ?_
  (conv=>arg 2;whnf);refine w_retp rfl (Vle.eq (cBool ?_))
  rw [headB_split h1 h2 h3 h4]
end Go.Sv
