/- Parts of the proof, one behind the other. -/
import Derived.Test.YtjmkgippihpkoaaGreatDoorMgRowPTells3
import Derived.ProofKit
import Derived.Deep.Grids
import Derived.Test.YtjmkgippihpkoaaGreatDoorTie
import Derived.Test.YtjmkgippihpkoaaGreatDoorCards
import Derived.ChangeVars
import Derived.LaidLaws
import Derived.LaidMore
import Derived.Lib.LaidU8
import Derived.Lib.LaidTab
import Derived.Lib.ItoaNum
import Derived.Stop.Joined
import Derived.SevenTiedAt
import Derived.Shelf.Vars
import Derived.Lay
import Derived.Deep.DeepHandedRow
import Derived.Deep.DeepWitnessRowRef
import Derived.LaidHandle
import Derived.Lib.ParseIntB
import Derived.Lib.Strings
import Derived.Lib.Bytealg
import Derived.Below
import Derived.Test.YtjmkgippihpkoaaGreatDoorProg
/- The rules, as they are used. -/
namespace Go.Sv
open Go

/-- A frame written out. -/
def frL : List (Nat × V) → Fr
  | [], _ => .undef
  | (k, v) :: l, t => bif Nat.beq t k then v else frL l t

theorem Vle.eq {a b : V} (h : a = b) : Vle a b := by subst h; exact Vle.refl _
theorem Weak.refl (fr : Fr) : Weak fr fr := fun _ => Vle.refl _
theorem Weak.nil (fr : Fr) : Weak fr (frL []) := fun _ => Vle.undef _
theorem Weak.cons {fr : Fr} {k : Nat} {v : V} {l : List (Nat × V)} (h : Vle (fr k) v) (hs : Weak fr (frL l)) : Weak fr (frL ((k, v) :: l)) := fun t => by
  simp only [frL]
  cases e : Nat.beq t k with
  | true => rw [Nat.eq_of_beq_eq_true e]; exact h
  | false => exact hs t

section
variable {P : Program} {R : List Res} {Q : Exit → Fr → List Res → Prop}

theorem wp_ite {b : Bool} {t f : Tree} (h1 : b = true → t.wp P R Q) (h2 : b = false → f.wp P R Q) : (Tree.ite b t f).wp P R Q := ⟨h1, h2⟩
theorem wp_need {p : Prop} {t : Tree} (h1 : p) (h2 : t.wp P R Q) : (Tree.need p t).wp P R Q := ⟨h1, h2⟩
theorem wp_load {b off : Nat} {sh : Option Nat} {k : V → Tree} (i : Nat) {cs : List V} {v : V} (h1 : R[i]? = some (.obj b cs)) (h2 : partOf sh cs off = some v) (h3 : (k v).wp P R Q) : (Tree.load b off sh k).wp P R Q := ⟨i, cs, v, h1, h2, h3⟩
theorem wp_store {b off : Nat} {vs : List V} {t : Tree} (i : Nat) {cs us : List V} (h1 : R[i]? = some (.obj b cs)) (h2 : VleL vs us) (h3 : off + us.length ≤ cs.length) (h4 : vs.all oneV = true) (h5 : t.wp P (R.set i (.obj b (splice cs off us))) Q) :
    (Tree.store b off vs t).wp P R Q := ⟨i, cs, us, h1, h2, h3, fun v hv => List.all_eq_true.1 h4 v hv, h5⟩
theorem wp_store' {b off : Nat} {vs : List V} {t : Tree} (i : Nat) {cs : List V} (h1 : R[i]? = some (.obj b cs)) (h3 : off + vs.length ≤ cs.length) (h4 : vs.all oneV = true) (h5 : t.wp P (R.set i (.obj b (splice cs off vs))) Q) :
    (Tree.store b off vs t).wp P R Q := wp_store i h1 (VleL.refl _) h3 h4 h5
theorem wp_alloc {cs : List V} {k : V → Tree} (h : ∀ b, (k (.loc b 0)).wp P (R ++ [.obj b cs]) Q) : (Tree.alloc cs k).wp P R Q := fun b _ => h b
theorem wp_allocE {cs : List V} {k : V → Tree} (cs' : List V) (hc : cs = cs') (h : ∀ b, (k (.loc b 0)).wp P (R ++ [.obj b cs']) Q) : (Tree.alloc cs k).wp P R Q := by subst hc; exact fun b _ => h b
theorem wp_allocD {cs : List V} {k : V → Tree} (cs' : List V) (hc : cs = cs') (h : ∀ b, Fresh R b → (k (.loc b 0)).wp P (R ++ [.obj b cs']) Q) : (Tree.alloc cs k).wp P R Q := by subst hc; exact h
theorem wp_append_nil {sh sh' : Option Nat} {by_ : Nat} {ys : List V} {k : V → Tree} (hok : ∀ y ∈ ys, okE sh y) (hle : ys.length * by_ ≤ 140737488355328) (h : ∀ t, (k (.sl sh ys (.t t))).wp P (R ++ [.tok t sh]) Q) :
    (Tree.append sh by_ (.sl sh' [] .zero) ys k).wp P R Q := ⟨ys, VleL.refl _, hok, .inl ⟨sh', rfl, hle, h⟩⟩
theorem wp_append_tok {sh : Option Nat} {by_ t : Nat} {xs ys : List V} {k : V → Tree} (i : Nat) (hR : R[i]? = some (.tok t sh)) (hok : ∀ y ∈ ys, okE sh y) (hle : (xs.length + ys.length) * by_ ≤ 140737488355328) (h : ∀ t', (k (.sl sh (xs ++ ys) (.t t'))).wp P (R.set i (.tok t' sh)) Q) :
    (Tree.append sh by_ (.sl sh xs (.t t)) ys k).wp P R Q := ⟨ys, VleL.refl _, hok, .inr ⟨i, t, xs, rfl, hR, hle, h⟩⟩
theorem wp_call {f : FuncId} {args : List V} {k : V → Tree} {K : V → List Res → Prop} (h : SCall P f args R K) (hk : ∀ v R', K v R' → (k v).wp P R' Q) : (Tree.call f args k).wp P R Q := ⟨args, VleL.refl _, h.mono hk⟩
theorem wp_callF {f : FuncId} {args : List V} {k : V → Tree} {K : V → List Res → Prop} (A R0 B : List Res) (hR : R = A ++ R0 ++ B) (h : SCall P f args R0 K) (hk : ∀ v R1, K v R1 → (k v).wp P (A ++ R1 ++ B) Q) : (Tree.call f args k).wp P R Q := by
  subst hR
  refine ⟨args, VleL.refl _, h.frame.mono ?_⟩
  rintro v R' ⟨R1, hK, rfl⟩
  exact hk v R1 hK
theorem wp_pcall {f : FuncId} {args : List V} {k : V → Tree} {v : V} (h : PCall P f args v) (hk : (k v).wp P R Q) : (Tree.call f args k).wp P R Q :=
  ⟨args, VleL.refl _, (h.any R).mono fun u R' ⟨h1, h2⟩ => by subst h1; subst h2; exact hk⟩
theorem wp_nilcmp {e : Bool} {xs : List V} {k : V → Tree} (h : ∀ b : Bool, (b = true → xs = []) → (k (.c (.bool (bif e then b else !b)))).wp P R Q) : (Tree.nilcmp e xs k).wp P R Q := h
theorem wp_loop {body : Fr → Tree} {fr : Fr} {k : Exit → Fr → Tree} (I : Nat → Fr → List Res → Prop) (n : Nat) (fr1 : Fr) (R1 : List Res) (h1 : Weak fr fr1) (h2 : R1.Sublist R) (h3 : I n fr1 R1)
    (h : ∀ n fr R, I n fr R → (body fr).wp P R (loopPost I n fun e fr' R' => (k e fr').wp P R' Q)) : (Tree.loop body fr k).wp P R Q := ⟨I, ⟨n, fr1, R1, UpdF.weak h1 h2, h3⟩, h⟩
theorem wp_cut {fr : Fr} {k : Fr → Tree} (fr1 : Fr) (h1 : Weak fr fr1) (h : (k fr1).wp P R Q) : (Tree.cut fr k).wp P R Q := ⟨fr1, R, UpdF.weak h1 (List.Sublist.refl _), h⟩
theorem wp_cutR {fr : Fr} {k : Fr → Tree} (fr1 : Fr) (R1 : List Res) (h1 : Weak fr fr1) (h2 : R1.Sublist R) (h : (k fr1).wp P R1 Q) : (Tree.cut fr k).wp P R Q := ⟨fr1, R1, UpdF.weak h1 h2, h⟩
theorem wp_cutU {fr : Fr} {k : Fr → Tree} (fr1 : Fr) (R1 : List Res) (h1 : UpdF fr R fr1 R1) (h : (k fr1).wp P R1 Q) : (Tree.cut fr k).wp P R Q := ⟨fr1, R1, h1, h⟩
theorem wp_loopU {body : Fr → Tree} {fr : Fr} {k : Exit → Fr → Tree} (I : Nat → Fr → List Res → Prop) (n : Nat) (fr1 : Fr) (R1 : List Res) (h1 : UpdF fr R fr1 R1) (h3 : I n fr1 R1)
    (h : ∀ n fr R, I n fr R → (body fr).wp P R (loopPost I n fun e fr' R' => (k e fr').wp P R' Q)) : (Tree.loop body fr k).wp P R Q := ⟨I, ⟨n, fr1, R1, h1, h3⟩, h⟩
theorem wp_eff {e : Eff} {k : V → Tree} (h : e.W R fun v R' => (k v).wp P R' Q) : (Tree.eff e k).wp P R Q := h
theorem wp_leaf {e : Exit} {fr : Fr} (h : Q e fr R) : (Tree.leaf e fr).wp P R Q := h

theorem loop_next {I : Nat → Fr → List Res → Prop} {n : Nat} {K : Exit → Fr → List Res → Prop} {fr' : Fr} {R' : List Res} (n' : Nat) (fr1 : Fr) (R1 : List Res) (h1 : n' < n) (h2 : Weak fr' fr1) (h3 : R1.Sublist R') (h4 : I n' fr1 R1) : loopPost I n K .normal fr' R' :=
  ⟨n', fr1, R1, h1, UpdF.weak h2 h3, h4⟩
theorem loop_nextU {I : Nat → Fr → List Res → Prop} {n : Nat} {K : Exit → Fr → List Res → Prop} {fr' : Fr} {R' : List Res} (n' : Nat) (fr1 : Fr) (R1 : List Res) (h1 : n' < n) (h2 : UpdF fr' R' fr1 R1) (h4 : I n' fr1 R1) : loopPost I n K .normal fr' R' :=
  ⟨n', fr1, R1, h1, h2, h4⟩

theorem loop_exit {I : Nat → Fr → List Res → Prop} {n id : Nat} {K : Exit → Fr → List Res → Prop} {fr' : Fr} {R' : List Res} (h : K (.exit id) fr' R') : loopPost I n K (.exit id) fr' R' := h
theorem loop_ret {I : Nat → Fr → List Res → Prop} {n : Nat} {K : Exit → Fr → List Res → Prop} {fr' : Fr} {R' : List Res} (h : K .ret fr' R') : loopPost I n K .ret fr' R' := h

theorem ends_ret {fn : Func} {K : V → List Res → Prop} {fr : Fr} {vs : List V} {v : V} {R' : List Res} (h1 : ResV P fr R fn.results.toList vs) (h2 : Vle (oneOr vs) v) (h3 : R'.Sublist R) (h4 : K v R') : Ends P fn K .ret fr R := ⟨.inr rfl, vs, v, R', h1, UpdV.vle h2 h3, h4⟩
theorem ends_retU {fn : Func} {K : V → List Res → Prop} {fr : Fr} {vs : List V} {v : V} {R' : List Res} (h1 : ResV P fr R fn.results.toList vs) (h2 : UpdV (oneOr vs) R v R') (h4 : K v R') : Ends P fn K .ret fr R := ⟨.inr rfl, vs, v, R', h1, h2, h4⟩
theorem ends_norm {fn : Func} {K : V → List Res → Prop} {fr : Fr} {vs : List V} {v : V} {R' : List Res} (h1 : ResV P fr R fn.results.toList vs) (h2 : Vle (oneOr vs) v) (h3 : R'.Sublist R) (h4 : K v R') : Ends P fn K .normal fr R := ⟨.inl rfl, vs, v, R', h1, UpdV.vle h2 h3, h4⟩
theorem resV_tmp {fr : Fr} {t : Tmp} {rs : List ResultVar} {us : List V} (h : ResV P fr R rs us) : ResV P fr R (.tmp t :: rs) (fr t :: us) := ⟨us, rfl, h⟩
theorem resV_nil {fr : Fr} : ResV P fr R [] [] := rfl
theorem wp_elem {sh : Option Nat} {xs : List V} {n : Int} {k : V → Tree} (i : Nat) {u' : V} (u : V) (h1 : n = i) (h2 : xs[i]? = some u') (h3 : Vle u' u) (h4 : (k (.pt sh u 0)).wp P R Q) : (Tree.elem sh xs n k).wp P R Q := ⟨i, u', u, h1, h2, h3, h4⟩
theorem wp_pc {f : FuncId} {args : List V} {k : V → Tree} {v : V} (h : PCall P f args v) (hk : (k v).wp P R Q) : (Tree.pcall f args k).wp P R Q := ⟨args, v, VleL.refl _, h, hk⟩
theorem wp_storeE {b off : Nat} {vs : List V} {t : Tree} (i off' : Nat) {cs : List V} (us : List V) {R' : List Res} (h1 : R[i]? = some (.obj b cs)) (ho : off = off') (h2 : VleL vs us) (h3 : off' + us.length ≤ cs.length) (h4 : vs.all oneV = true) (hR : R.set i (.obj b (splice cs off' us)) = R') (h5 : t.wp P R' Q) :
    (Tree.store b off vs t).wp P R Q := by subst ho; exact ⟨i, cs, us, h1, h2, h3, fun v hv => List.all_eq_true.1 h4 v hv, hR ▸ h5⟩
theorem wp_pcV {f : FuncId} {args args' : List V} {k : V → Tree} {v : V} (ha : VleL args args') (h : PCall P f args' v) (hk : (k v).wp P R Q) : (Tree.pcall f args k).wp P R Q := ⟨args', v, ha, h, hk⟩
theorem wp_pcallV {f : FuncId} {args args' : List V} {k : V → Tree} {v : V} (ha : VleL args args') (h : PCall P f args' v) (hk : (k v).wp P R Q) : (Tree.call f args k).wp P R Q :=
  ⟨args', ha, (h.any R).mono fun u R' ⟨h1, h2⟩ => by subst h1; subst h2; exact hk⟩
theorem wp_callV {f : FuncId} {args args' : List V} {k : V → Tree} {K : V → List Res → Prop} (A R0 B : List Res) (hR : R = A ++ R0 ++ B) (ha : VleL args args') (h : SCall P f args' R0 K) (hk : ∀ v R1, K v R1 → (k v).wp P (A ++ R1 ++ B) Q) : (Tree.call f args k).wp P R Q :=
  wp_callF A R0 B hR (h.vle ha) hk
/-- A call of a drawn region that is marked as looking at what some slots point to alone. -/
theorem wp_dcall {ok : Nat → Prop} {f : FuncId} {args : List V} {k : V → Tree} {K : V → List Res → Prop} (A R0 B : List Res) (hR : R = A ++ R0 ++ B) (hb : ∀ c cs, Res.obj c cs ∈ R0 → ok c) (h : SCall P f args R0 K) (hk : ∀ v R1, K v R1 → (k v).wp P (A ++ R1 ++ B) Q) : (Tree.dcall ok f args k).wp P R Q :=
  ⟨args, A, R0, B, VleL.refl _, hR, hb, h.mono hk⟩
theorem wp_dcallV {ok : Nat → Prop} {f : FuncId} {args args' : List V} {k : V → Tree} {K : V → List Res → Prop} (A R0 B : List Res) (hR : R = A ++ R0 ++ B) (hb : ∀ c cs, Res.obj c cs ∈ R0 → ok c) (ha : VleL args args') (h : SCall P f args' R0 K) (hk : ∀ v R1, K v R1 → (k v).wp P (A ++ R1 ++ B) Q) : (Tree.dcall ok f args k).wp P R Q :=
  ⟨args', A, R0, B, ha, hR, hb, h.mono hk⟩
/-- One object, which a slot points to. -/
theorem okq1 {fr : Fr} {qs : List Nat} {b off : Nat} {cs : List V} (q : Nat) (hq : q ∈ qs) (h : fr q = .loc b off) : ∀ c cs', Res.obj c cs' ∈ [Res.obj b cs] → okq fr qs c := by
  intro c cs' hm
  rw [List.mem_singleton] at hm
  cases hm
  exact ⟨q, hq, off, h⟩
theorem wp_yld {l : Nat} {args : List V} {k : V → Tree} {K : Bool → List Res → Prop} (h : YCall P l args R K) (hk : ∀ b R', K b R' → (k (.c (.bool b))).wp P R' Q) : (Tree.yld l args k).wp P R Q := ⟨args, VleL.refl _, h.mono hk⟩

/-- Tokens that are there or aren't. -/
def tkOf : Option Nat → Tk
  | none => .zero
  | some t => .t t
def tokR (sh : Option Nat) : Option Nat → List Res
  | none => []
  | some t => [.tok t sh]

theorem wp_append_w {A : List Res} {sh sh' : Option Nat} {by_ : Nat} {t : Option Nat} {xs ys : List V} {k : V → Tree} (hx : t = none → xs = []) (hsh : t ≠ none → sh' = sh) (hok : ∀ y ∈ ys, okE sh y) (hle : (xs.length + ys.length) * by_ ≤ 140737488355328)
    (h : ∀ t', (k (.sl sh (xs ++ ys) (.t t'))).wp P (A ++ [.tok t' sh]) Q) : (Tree.append sh by_ (.sl sh' xs (tkOf t)) ys k).wp P (A ++ tokR sh t) Q := by
  cases t with
  | none =>
    have := hx rfl; subst this
    simpa [tkOf, tokR] using wp_append_nil (P := P) (R := A) (sh' := sh') (k := k) (Q := Q) hok (by simpa using hle) (by simpa using h)
  | some t =>
    have := hsh (by simp); subst this
    refine wp_append_tok A.length (t := t) (by simp [tokR]) hok hle fun t' => ?_
    have : (A ++ tokR sh' (some t)).set A.length (.tok t' sh') = A ++ [.tok t' sh'] := by simp [tokR]
    rw [this]; exact h t'

/-- What a call of a function that makes rounds of a loop does: it hands over xs, one behind the other, as long as it is told to go on. -/
def Iter (P : Program) (gf : FuncId) (first caps : List V) (xs : List (List V)) : Prop :=
  isFn P gf ∧ ∀ (l : Nat) (I : Nat → List Res → Prop) (E : List Res → Prop) (R0 : List Res), I 0 R0 →
    (∀ (i : Nat) (args : List V) (R : List Res), xs[i]? = some args → I i R → YCall P l args R fun b R' => (b = true ∧ I (i + 1) R') ∨ (b = false ∧ E R')) →
    SCall P gf (first ++ [.fn (.yield l) [] []] ++ caps) R0 fun _ R' => I xs.length R' ∨ E R'

theorem wp_range {gf : FuncId} {first caps : List V} {xs : List (List V)} {ps : List Nat} {body : Fr → Tree} {fr : Fr} {k : Exit → Fr → Tree} (h : Iter P gf first caps xs) (J : Nat → List Res → Prop) (h0 : J 0 R) (hlen : ∀ (i : Nat) (args : List V), xs[i]? = some args → args.length = ps.length)
    (hb : ∀ (i : Nat) (args : List V) (R1 : List Res), xs[i]? = some args → J i R1 → (body (putAll fr ps args)).wp P R1 (roundEnd (J (i + 1)) fun e R' => (k e fr).wp P R' Q)) (hk : ∀ R1, J xs.length R1 → (k .normal fr).wp P R1 Q) :
    (Tree.range (.fn (.func gf) first caps) ps body fr k).wp P R Q := by
  refine ⟨gf, first, caps, rfl, h.1, fun l lp hY => ?_⟩
  refine (h.2 l (fun i R' => ∃ R1, R' = R1 ++ [.lop l lp fr] ∧ J i R1) (fun R' => ∃ e R1, (e = .ret ∨ ∃ id, e = .exit id) ∧ R' = R1 ++ [.lop l (lp.left e) fr] ∧ (k e fr).wp P R1 Q) _ ⟨R, rfl, h0⟩ ?_).mono ?_
  · rintro i args R' hi ⟨R1, rfl, hJ⟩
    refine (hY args R1 (J (i + 1)) (fun e R' => (k e fr).wp P R' Q) (hlen i args hi) (hb i args R1 hi hJ)).mono ?_
    rintro b R' (⟨hb, R2, rfl, hJ⟩ | ⟨hb, e, R2, he, rfl, hE⟩)
    · exact .inl ⟨hb, R2, rfl, hJ⟩
    · exact .inr ⟨hb, e, R2, he, rfl, hE⟩
  · rintro v R' (⟨R1, rfl, hJ⟩ | ⟨e, R1, he, rfl, hE⟩)
    · exact .inl ⟨R1, rfl, hk R1 hJ⟩
    · exact .inr ⟨e, R1, he, rfl, hE⟩

/-- The same, of a function that looks at what is owned (A) while it makes its rounds. -/
def IterR (P : Program) (A : List Res) (gf : FuncId) (first caps : List V) (xs : List (List V)) : Prop :=
  isFn P gf ∧ ∀ (l : Nat) (I : Nat → List Res → Prop) (E : List Res → Prop) (R0 : List Res), I 0 R0 →
    (∀ (i : Nat) (args : List V) (R : List Res), xs[i]? = some args → I i R → YCall P l args R fun b R' => (b = true ∧ I (i + 1) R') ∨ (b = false ∧ E R')) →
    SCall P gf (first ++ [.fn (.yield l) [] []] ++ caps) (A ++ R0) fun _ R' => ∃ R1, R' = A ++ R1 ∧ (I xs.length R1 ∨ E R1)

theorem wp_rangeR {A R0 : List Res} {gf : FuncId} {first caps : List V} {xs : List (List V)} {ps : List Nat} {body : Fr → Tree} {fr : Fr} {k : Exit → Fr → Tree} (h : IterR P A gf first caps xs) (hR : R = A ++ R0) (J : Nat → List Res → Prop) (h0 : J 0 R0) (hlen : ∀ (i : Nat) (args : List V), xs[i]? = some args → args.length = ps.length)
    (hb : ∀ (i : Nat) (args : List V) (R1 : List Res), xs[i]? = some args → J i R1 → (body (putAll fr ps args)).wp P R1 (roundEnd (J (i + 1)) fun e R' => (k e fr).wp P (A ++ R') Q)) (hk : ∀ R1, J xs.length R1 → (k .normal fr).wp P (A ++ R1) Q) :
    (Tree.range (.fn (.func gf) first caps) ps body fr k).wp P R Q := by
  subst hR
  refine ⟨gf, first, caps, rfl, h.1, fun l lp hY => ?_⟩
  rw [show A ++ R0 ++ [Res.lop l lp fr] = A ++ (R0 ++ [Res.lop l lp fr]) from List.append_assoc _ _ _]
  refine (h.2 l (fun i R' => ∃ R1, R' = R1 ++ [.lop l lp fr] ∧ J i R1) (fun R' => ∃ e R1, (e = .ret ∨ ∃ id, e = .exit id) ∧ R' = R1 ++ [.lop l (lp.left e) fr] ∧ (k e fr).wp P (A ++ R1) Q) _ ⟨R0, rfl, h0⟩ ?_).mono ?_
  · rintro i args R' hi ⟨R1, rfl, hJ⟩
    refine (hY args R1 (J (i + 1)) (fun e R' => (k e fr).wp P (A ++ R') Q) (hlen i args hi) (hb i args R1 hi hJ)).mono ?_
    rintro b R' (⟨hb, R2, rfl, hJ⟩ | ⟨hb, e, R2, he, rfl, hE⟩)
    · exact .inl ⟨hb, R2, rfl, hJ⟩
    · exact .inr ⟨hb, e, R2, he, rfl, hE⟩
  · rintro v R' ⟨R2, rfl, ⟨R1, rfl, hJ⟩ | ⟨e, R1, he, rfl, hE⟩⟩
    · exact .inl ⟨A ++ R1, by simp, hk R1 hJ⟩
    · exact .inr ⟨e, A ++ R1, he, by simp, hE⟩

theorem w_ret0 {fn : Func} {K : V → List Res → Prop} {fr : Fr} {R' : List Res} (h : fn.results.toList = []) (hs : R'.Sublist R) (hK : K (.tup []) R') : (Tree.leaf .ret fr).wp P R (Ends P fn K) :=
  ⟨.inr rfl, [], .tup [], R', by rw [h]; rfl, UpdV.vle (Vle.refl _) hs, hK⟩
theorem w_norm0 {fn : Func} {K : V → List Res → Prop} {fr : Fr} {R' : List Res} (h : fn.results.toList = []) (hs : R'.Sublist R) (hK : K (.tup []) R') : (Tree.leaf .normal fr).wp P R (Ends P fn K) :=
  ⟨.inl rfl, [], .tup [], R', by rw [h]; rfl, UpdV.vle (Vle.refl _) hs, hK⟩
theorem w_ret1 {fn : Func} {K : V → List Res → Prop} {fr : Fr} {t : Tmp} {v : V} {R' : List Res} (h : fn.results.toList = [.tmp t]) (hv : Vle (fr t) v) (hs : R'.Sublist R) (hK : K v R') : (Tree.leaf .ret fr).wp P R (Ends P fn K) :=
  ⟨.inr rfl, [fr t], v, R', by rw [h]; exact ⟨[], rfl, rfl⟩, UpdV.vle hv hs, hK⟩
theorem w_retp {fn : Func} {fr : Fr} {t : Tmp} {v : V} (h : fn.results.toList = [.tmp t]) (hv : Vle (fr t) v) : (Tree.leaf .ret fr).wp P R (Ends P fn fun u _ => u = v) :=
  w_ret1 h hv (List.nil_sublist _) rfl
theorem w_ret2 {fn : Func} {K : V → List Res → Prop} {fr : Fr} {t u : Tmp} {a b : V} {R' : List Res} (h : fn.results.toList = [.tmp t, .tmp u]) (ha : Vle (fr t) a) (hb : Vle (fr u) b) (hs : R'.Sublist R) (hK : K (.tup [a, b]) R') : (Tree.leaf .ret fr).wp P R (Ends P fn K) :=
  ⟨.inr rfl, [fr t, fr u], .tup [a, b], R', by rw [h]; exact ⟨_, rfl, _, rfl, rfl⟩, UpdV.vle (Vle.tup (.cons ha (.cons hb .nil))) hs, hK⟩

/-- A rest of what is owned may be left aside. -/
theorem YCall.frame {l : Nat} {args : List V} {R A B : List Res} {K : Bool → List Res → Prop} (h : YCall P l args R K) : YCall P l args (A ++ R ++ B) fun b R' => ∃ R1, K b R1 ∧ R' = A ++ R1 ++ B := by
  intro g w xs hw hx hr
  obtain ⟨f, tmps, assign, body, hy, hR⟩ := h g w xs hw hx (hr.sub (by simp))
  refine ⟨f, tmps, assign, body, hy, hR.mono ?_⟩
  rintro e w' ⟨b, g', R1, he, hK, hA⟩
  exact ⟨b, g', A ++ R1 ++ B, he, ⟨R1, hK, rfl⟩, After.frame hr hA⟩

theorem pcall_of_calls {f : FuncId} {args : List V} {v : V} (hf : isFn P f) (h : ∀ (g : Gh) (w : World) (xs : List Value), Wf g w → RelL g w args xs → Calls P f xs.toArray w fun e w' => ∃ x, e = .returned x ∧ w' = w ∧ RelV g w v x) : PCall P f args v := by
  intro g w xs hw hx hr
  obtain ⟨fn, c, h1, h2, h3⟩ := hf
  have hrun : (callFunc f xs.toArray).run P w = .ok (.enter f xs.toArray) w := by
    have hn' : ¬ fn.name = "runtime.NumGoroutine" := by simpa using h3
    simp [callFunc, h1, h2, hn']
  refine .inr (.inl ⟨f, xs.toArray, w, hrun, callsIn_wide.2 (Calls.mono (h g w xs hw hx) ?_)⟩)
  rintro e w' ⟨x, rfl, rfl, hv⟩
  exact ⟨x, rfl, v, g, [], rfl, After.refl hw hr, hv⟩
end
end Go.Sv

/-! ### Strings as rows of bytes -/
namespace Go.Sv
open Go
def S (l : List UInt8) : ByteArray := ⟨l.toArray⟩
def str (l : List UInt8) : V := .c (.string (S l))
def byteV (b : UInt8) : V := .c (.int .u8 b.toNat)
@[simp] theorem S_size (l : List UInt8) : (S l).size = l.length := rfl
@[simp] theorem S_inj {l m : List UInt8} : S l = S m ↔ l = m := by simp [S]
@[simp] theorem S_byteAt (l : List UInt8) (i : Nat) : byteAt (S l) i = l.getD i 0 := rfl
@[simp] theorem S_list (l : List UInt8) : (S l).data.toList = l := rfl
@[simp] theorem S_extract (l : List UInt8) (a b : Nat) : (S l).extract a b = S ((l.take b).drop a) := by
  apply ByteArray.ext
  simp [S, ByteArray.data_extract, List.extract_eq_take_drop, List.drop_take]
@[simp] theorem S_append (l m : List UInt8) : S l ++ S m = S (l ++ m) := by
  apply ByteArray.ext
  simp [S]
theorem S_of (s : ByteArray) : s = S s.data.toList := by cases s; simp [S]
end Go.Sv
/- Numbers: what the machine's operations are. -/
namespace Go.Sv
open Go

theorem w_u8 (n : Int) : IntKind.u8.wrap n = n % 256 := by simp [IntKind.wrap, IntKind.bits, IntKind.signed]
theorem w_u16 (n : Int) : IntKind.u16.wrap n = n % 65536 := by simp [IntKind.wrap, IntKind.bits, IntKind.signed]
theorem w_u32 (n : Int) : IntKind.u32.wrap n = n % 4294967296 := by simp [IntKind.wrap, IntKind.bits, IntKind.signed]
theorem w_u64 (n : Int) : IntKind.u64.wrap n = n % 18446744073709551616 := by simp [IntKind.wrap, IntKind.bits, IntKind.signed]
theorem w_i64 (n : Int) : IntKind.i64.wrap n = (n + 9223372036854775808) % 18446744073709551616 - 9223372036854775808 := by
  simp [IntKind.wrap, IntKind.bits, IntKind.signed]; omega
theorem w_i64_small {n : Int} (h : -9223372036854775808 ≤ n) (h' : n < 9223372036854775808) : IntKind.i64.wrap n = n := by rw [w_i64]; omega
theorem w_u64_small {n : Int} (h : 0 ≤ n) (h' : n < 18446744073709551616) : IntKind.u64.wrap n = n := by rw [w_u64]; omega

theorem ofInt32 (c : BitVec 32) : BitVec.ofInt IntKind.u32.bits (c.toNat : Int) = c := by
  apply BitVec.eq_of_toNat_eq
  have := c.isLt
  show (BitVec.ofInt 32 (c.toNat : Int)).toNat = c.toNat
  simp
theorem w_u32_toNat (c : BitVec 32) : IntKind.u32.wrap (c.toNat : Int) = c.toNat := by
  have := c.isLt
  rw [w_u32]; omega
theorem ofInt64 (c : BitVec 64) : BitVec.ofInt IntKind.u64.bits (c.toNat : Int) = c := by
  apply BitVec.eq_of_toNat_eq
  have := c.isLt
  show (BitVec.ofInt 64 (c.toNat : Int)).toNat = c.toNat
  simp
theorem w_u64_toNat (c : BitVec 64) : IntKind.u64.wrap (c.toNat : Int) = c.toNat := by
  have := c.isLt
  rw [w_u64]; omega
theorem u8_lt (b : UInt8) : b.toNat < 256 := b.toNat_lt
end Go.Sv
namespace Go.Sv
open Go
def u64V (n : Nat) : V := .c (.int .u64 n)
def i64V (n : Int) : V := .c (.int .i64 n)
def u8V (n : Nat) : V := .c (.int .u8 n)
def bV (b : Bool) : V := .c (.bool b)

theorem or_u64 {a b : Nat} (ha : a < 18446744073709551616) (hb : b < 18446744073709551616) : IntKind.u64.wrap ((BitVec.ofInt IntKind.u64.bits (a : Int) ||| BitVec.ofInt IntKind.u64.bits (b : Int)).toNat : Int) = ((a ||| b : Nat) : Int) := by
  have e1 : BitVec.ofInt IntKind.u64.bits (a : Int) = BitVec.ofNat 64 a := by
    show BitVec.ofInt 64 (a : Int) = _; simp
  have e2 : BitVec.ofInt IntKind.u64.bits (b : Int) = BitVec.ofNat 64 b := by
    show BitVec.ofInt 64 (b : Int) = _; simp
  rw [e1, e2]
  refine (w_u64_toNat (BitVec.ofNat 64 a ||| BitVec.ofNat 64 b)).trans ?_
  rw [BitVec.toNat_or]
  simp only [BitVec.toNat_ofNat]
  rw [Nat.mod_eq_of_lt (by omega), Nat.mod_eq_of_lt (by omega)]
theorem and_u64 {a b : Nat} (ha : a < 18446744073709551616) (hb : b < 18446744073709551616) : IntKind.u64.wrap ((BitVec.ofInt IntKind.u64.bits (a : Int) &&& BitVec.ofInt IntKind.u64.bits (b : Int)).toNat : Int) = ((a &&& b : Nat) : Int) := by
  have e1 : BitVec.ofInt IntKind.u64.bits (a : Int) = BitVec.ofNat 64 a := by
    show BitVec.ofInt 64 (a : Int) = _; simp
  have e2 : BitVec.ofInt IntKind.u64.bits (b : Int) = BitVec.ofNat 64 b := by
    show BitVec.ofInt 64 (b : Int) = _; simp
  rw [e1, e2]
  refine (w_u64_toNat (BitVec.ofNat 64 a &&& BitVec.ofNat 64 b)).trans ?_
  rw [BitVec.toNat_and]
  simp only [BitVec.toNat_ofNat]
  rw [Nat.mod_eq_of_lt (by omega), Nat.mod_eq_of_lt (by omega)]
end Go.Sv
namespace Go.Sv
open Go
theorem cU64 {x : Int} {n : Nat} (h : x = n) : V.c (.int .u64 x) = u64V n := by subst h; rfl
theorem cI64 {x n : Int} (h : x = n) : V.c (.int .i64 x) = V.c (.int .i64 n) := by subst h; rfl
theorem cU8 {x : Int} {n : Nat} (h : x = n) : V.c (.int .u8 x) = u8V n := by subst h; rfl
theorem cStr {s : ByteArray} {l : List UInt8} (h : s = S l) : V.c (.string s) = str l := by subst h; rfl
theorem cBool {a b : Bool} (h : a = b) : V.c (.bool a) = V.c (.bool b) := by subst h; rfl
end Go.Sv
namespace Go.Sv
open Go
theorem S_toList (l : List UInt8) : (S l).toList = l := ByteArray.toList_mk l
theorem emp_toList : (⟨#[]⟩ : ByteArray).toList = [] := ByteArray.toList_mk []
end Go.Sv
/- From a contract to a row of the claim. -/
namespace Go.Sv
open Go Go.RowKit Go.ChangeShapes Go.WideShapes

/-- Where a call begins: nothing that is there changes. -/
def Gh.start (W : World) : Gh := { cm := fun b => match W.heap[b]? with | some (.cells vals _ _) => vals.size | _ => 0, nt := 0, th := fun _ => undef }
/-- What is told of the library's variables holds at the start. -/
def statOk (W : World) : Prop := (∀ p ∈ statics, ∃ v, cell W p.1 p.2.1 = some v ∧ p.2.2 v) ∧ ∀ p ∈ sized, (cell W p.1 0).isSome ∧ cell W p.1 p.2 = none
theorem wf_start (W : World) (hst : statOk W) : Wf (Gh.start W) W := by
  have hcm : ∀ b o v, cell W b o = some v → o < (Gh.start W).cm b := fun b o v h1 => by
    unfold cell World.cell? at h1
    simp only [Gh.start]
    cases hh : W.heap[b]? with
    | none => simp [hh] at h1
    | some ob =>
      cases ob <;> simp [hh] at h1
      rename_i vals e f
      simp only
      exact (Array.getElem?_eq_some_iff.1 h1).1
  refine ⟨fun b hb => ?_, fun b o ho => ?_, fun p hp => ?_, fun p hp => ?_⟩
  · simp only [Gh.start]; rw [Array.getElem?_eq_none hb]
  · simp only [Gh.start] at ho
    unfold cell World.cell?
    split at ho
    · rename_i vals e f h
      simp only [h]
      simp [ho]
    · omega
  · obtain ⟨v, h1, h2⟩ := hst.1 p hp
    exact ⟨v, h1, h2, hcm _ _ _ h1⟩
  · obtain ⟨h1, h2⟩ := hst.2 p hp
    obtain ⟨v, h1⟩ := Option.isSome_iff_exists.1 h1
    exact ⟨hcm _ _ _ h1, h2⟩

variable {P : Program}

theorem calls_of_pcall {f : FuncId} {args : List V} {v : V} {W : World} {xs : List Value} (hst : statOk W) (hf : isFn P f) (h : PCall P f args v) (hx : RelL (Gh.start W) W args xs) :
    Calls P f xs.toArray W fun e W' => ∃ x, e = .returned x ∧ Below W.heap.size W W' ∧ ∃ g', RelV g' W' v x := by
  obtain ⟨fn, c, h1, h2, h3⟩ := hf
  have hrun : (callFunc f xs.toArray).run P W = .ok (.enter f xs.toArray) W := by
    have hn' : ¬ fn.name = "runtime.NumGoroutine" := by simpa using h3
    simp [callFunc, h1, h2, hn']
  rcases h (Gh.start W) W xs (wf_start W hst) hx ⟨by simp, by simp [blocks]⟩ with ⟨y, w', e1, _⟩ | ⟨f', args', w', e1, hc⟩ | ⟨row, args', w', e1, _⟩
  · rw [hrun] at e1; cases e1
  · rw [hrun] at e1; cases e1
    refine (callsIn_wide.1 hc).mono ?_
    rintro e W' ⟨x, rfl, u, g', R', hu, hA, hv⟩
    subst hu
    refine ⟨x, rfl, ⟨hA.ext.os, hA.ext.tape, hA.ext.output, hA.ext.size, fun k hk => hA.ext.frame k hk (by simp [blocks])⟩, g', hv⟩
  · rw [hrun] at e1; cases e1

theorem trodAll_below {H : Type} {enc : TypeId × Value → H} {W W' : World} (hl : laidOutB P = true) (hb : Below W.heap.size W W') : ∀ (ts : List TypeId) (vs : List Value) (ds : List (DataW H)) (ps : List MemPlace), (∀ t ∈ ts, P.readableRec t = true ∧ t < P.types.size) →
    (∀ x ∈ ps, x.block < W.heap.size) → DataW.TrodAll enc P W 0 (fun _ => true) true ts vs ds ps → DataW.TrodAll enc P W' 0 (fun b => decide (b < W.heap.size)) true ts vs ds ps
  | [], vs, ds, ps, _, _, h => by
    cases vs with
    | nil => cases ds with
      | nil => exact h
      | cons => exact h.elim
    | cons => cases ds <;> exact h.elim
  | t :: ts, vs, ds, ps, hr, hlt, h => by
    cases vs with
    | nil => cases ds <;> exact h.elim
    | cons v vs => cases ds with
      | nil => exact h.elim
      | cons d ds =>
        obtain ⟨p, q, h1, h2, rfl⟩ := h
        exact ⟨p, q, Below.trod hl (hr t (by simp)).1 (hr t (by simp)).2 h1 hb (fun x hx => hlt x (by simp [hx])), trodAll_below hl hb ts vs ds q (fun t ht => hr t (by simp [ht])) (fun x hx => hlt x (by simp [hx])) h2, rfl⟩

/-- Every law's answer: true; the arguments read as they did. -/
theorem post_true {H : Type} {enc : TypeId × Value → H} {f : Func} {s : ChangeSpec} {W W' : World} {args : Array Value} {ds gs : List (DataW H)} {before : List MemPlace} (hl : laidOutB P = true) (hW : DataW.Whole enc P f.params.toList s.vars false W args.toList ds gs before) (hb : Below W.heap.size W W') {tb : TypeId}
    (hr : f.params.toList.all (fun t => P.readableRec t && decide (t < P.types.size)) = true) (hres : f.resultTypes = #[tb]) (htb : P.underlying tb = some .bool) (hvars : s.vars = []) (hfn : s.fn H (ds ++ gs) = { results := [.lit (.bool true)], args := ds }) :
    s.post enc P f false true false false W args (.bool true) W' := by
  have hlt : ∀ x ∈ before, x.block < W.heap.size := fun x hx => by simpa using hW.lt x hx
  have hW' := hW
  obtain ⟨p, q, hA, hV, rfl, hfz, hnd⟩ := hW
  rw [hvars] at hV
  refine ⟨ds, gs, p ++ q, [], p, q, hW', ?_, ?_, ?_, hb.frame _, by simp⟩
  · rw [hfn, hres]
    exact trodAll_mk1 (shut_bool htb true)
  · rw [hfn]
    refine trodAll_below hl hb _ _ _ _ (fun t ht => ?_) (fun x hx => hlt x (by simp [hx])) hA
    have := List.all_eq_true.1 hr t ht
    simpa using this
  · rw [hfn, hvars]
    obtain ⟨rfl, rfl⟩ := trodVars_none hV
    exact hV
end Go.Sv
/- Slices among a row's arguments. -/
namespace Go.Sv
open Go Go.RowKit Go.ChangeShapes Go.WideShapes

theorem cell_spot {W : World} {a : Addr} {y : Value} (h : W.cell? a = some y) : a = ⟨a.block, a.off, none⟩ := by
  obtain ⟨b, o, s⟩ := a
  cases s with
  | none => rfl
  | some k =>
    exfalso
    unfold World.cell? at h
    cases hh : W.heap[b]? with
    | none => simp [hh] at h
    | some ob => cases ob <;> simp [hh] at h

theorem start_lt {W : World} {b o : Nat} {y : Value} (h : cell W b o = some y) : o < (Gh.start W).cm b := by
  unfold cell World.cell? at h
  simp only [Gh.start]
  cases hh : W.heap[b]? with
  | none => simp [hh] at h
  | some ob =>
    cases ob <;> simp [hh] at h
    rename_i vals e f
    simp only
    exact (Array.getElem?_eq_some_iff.1 h).1

theorem rel_slice {W : World} {a : Addr} {len cap : Nat} {vs : List V} (hlen : vs.length = len) (hcap : len ≤ cap) (h : ∀ (i : Nat) (v : V), vs[i]? = some v → ∃ y, W.cell? (a.add i) = some y ∧ RelV (Gh.start W) W v y) :
    RelV (Gh.start W) W (.sl none vs .no) (.slice (some a) len cap) := by
  simp only [RelV]
  refine ⟨some a, len, cap, rfl, hlen.symm, hcap, trivial, ?_⟩
  cases vs with
  | nil => exact .inl (by trivial)
  | cons v vs =>
    right
    obtain ⟨y, hy, _⟩ := h 0 v rfl
    have ha : a = ⟨a.block, a.off, none⟩ := by
      have := cell_spot hy
      obtain ⟨b, o, s⟩ := a
      simp [Addr.add] at this ⊢
      exact this
    have hadd : ∀ i, a.add i = ⟨a.block, a.off + i, none⟩ := fun i => by rw [ha]; simp [Addr.add]
    refine ⟨a.block, a.off, by rw [← ha], ?_, relXs_of_get fun i u hu => ?_⟩
    · obtain ⟨u, hi⟩ : ∃ u, (v :: vs)[len - 1]? = some u := ⟨_, List.getElem?_eq_getElem (by rw [hlen]; simp at hlen; omega)⟩
      obtain ⟨z, hz, _⟩ := h (len - 1) _ hi
      rw [hadd] at hz
      have := start_lt (W := W) (b := a.block) (o := a.off + (len - 1)) hz
      subst hlen
      simp [width] at this ⊢; omega
    · obtain ⟨z, hz, hr⟩ := h i u hu
      rw [hadd] at hz
      exact ⟨z, by simp only [width, Nat.mul_one, Nat.add_zero]; exact hz, hr⟩
theorem rel_nil {W : World} : RelV (Gh.start W) W (.sl none [] .no) (.slice none 0 0) := by
  simp only [RelV]
  exact ⟨none, 0, 0, rfl, rfl, Nat.le_refl _, trivial, .inl (by trivial)⟩
section
variable {H : Type} {enc : TypeId × Value → H} {P : Program} {W : World} {base b0 : Nat} {spare : Nat → Bool} {held : Bool} {r : Reach}
theorem open_slI {t e : TypeId} {k : IntKind} {v : Value} {d : DataW H} {ps : List MemPlace} (ht : P.underlying t = some (.slice e)) (he : P.underlying e = some (.int k)) (hc : P.cellsOf e = 1) (hval : Value.okWide P W r b0 t v)
    (h : DataW.Trod enc P W base spare held t v d ps) : ∃ zs : List Int, RelV (Gh.start W) W (.sl none (zs.map fun z => .c (.int k z)) .no) v ∧ ∀ n ∈ zs, (Lit.int k n).wf = true := by
  obtain ⟨a0, len, cap, rfl⟩ := okWide_slice ht hval
  obtain ⟨fuel, hf⟩ := h
  rcases open_ints ht he hc hf with ⟨hcs, _⟩ | ⟨a, len', cap', zs, hcs, _, hl, hm, hz, _, hcell, hwf⟩
  · simp [Value.cells] at hcs
    obtain ⟨rfl, rfl, rfl⟩ := hcs
    exact ⟨[], rel_nil, by simp⟩
  · simp [Value.cells] at hcs
    obtain ⟨rfl, rfl, rfl⟩ := hcs
    have hle : len ≤ zs.length := by rw [hz]; split <;> omega
    refine ⟨zs.take len, rel_slice (by simp; omega) hl fun i u hu => ?_, fun n hn => hwf n (List.mem_of_mem_take hn)⟩
    have hi := (List.getElem?_eq_some_iff.1 hu).1
    simp at hi
    rw [List.getElem?_map, List.getElem?_take, if_pos (by omega), List.getElem?_eq_getElem (by omega)] at hu
    simp at hu; subst hu
    exact ⟨_, hcell i (by omega), by simp only [RelV]; rw [List.getD_eq_getElem?_getD, List.getElem?_eq_getElem (by omega), Option.getD_some]⟩
theorem open_slS {t e : TypeId} {v : Value} {d : DataW H} {ps : List MemPlace} (ht : P.underlying t = some (.slice e)) (he : P.underlying e = some .string) (hc : P.cellsOf e = 1) (hval : Value.okWide P W r b0 t v)
    (h : DataW.Trod enc P W base spare held t v d ps) : ∃ zs : List (List UInt8), RelV (Gh.start W) W (.sl none (zs.map str) .no) v := by
  obtain ⟨a0, len, cap, rfl⟩ := okWide_slice ht hval
  obtain ⟨fuel, hf⟩ := h
  rcases open_strings ht he hc hf with ⟨hcs, _⟩ | ⟨a, len', cap', zs, hcs, _, hl, hm, hz, _, hcell, _⟩
  · simp [Value.cells] at hcs
    obtain ⟨rfl, rfl, rfl⟩ := hcs
    exact ⟨[], rel_nil⟩
  · simp [Value.cells] at hcs
    obtain ⟨rfl, rfl, rfl⟩ := hcs
    have hle : len ≤ zs.length := by rw [hz]; split <;> omega
    refine ⟨(zs.take len).map fun s => s.data.toList, rel_slice (by simp; omega) hl fun i u hu => ?_⟩
    have hi := (List.getElem?_eq_some_iff.1 hu).1
    simp at hi
    rw [List.map_map, List.getElem?_map, List.getElem?_take, if_pos (by omega), List.getElem?_eq_getElem (by omega)] at hu
    simp at hu; subst hu
    exact ⟨_, hcell i (by omega), by simp only [RelV, str]; rw [List.getD_eq_getElem?_getD, List.getElem?_eq_getElem (by omega), Option.getD_some, ← S_of]⟩
end
end Go.Sv
/- Slices of bools among a row's arguments. -/
namespace Go.Sv
open Go Go.RowKit Go.ChangeShapes Go.WideShapes
section
variable {H : Type} {enc : TypeId × Value → H} {P : Program} {W : World} {base b0 : Nat} {held : Bool} {r : Reach}
theorem open_slB {t e : TypeId} {v : Value} {d : DataW H} {ps : List MemPlace} (ht : P.underlying t = some (.slice e)) (he : P.underlying e = some .bool) (hc : P.cellsOf e = 1) (hval : Value.okWide P W r b0 t v)
    (h : DataW.Trod enc P W base (fun _ => true) held t v d ps) : ∃ zs : List Bool, RelV (Gh.start W) W (.sl none (zs.map fun b => .c (.bool b)) .no) v := by
  obtain ⟨a0, len, cap, rfl⟩ := okWide_slice ht hval
  obtain ⟨fuel, hf⟩ := h
  rcases Go.Deep.open_bools ht he hc hf with ⟨hcs, _⟩ | ⟨a, len', cap', B, hcs, _, hl, hm, _, hcell⟩
  · simp [Value.cells] at hcs
    obtain ⟨rfl, rfl, rfl⟩ := hcs
    exact ⟨[], rel_nil⟩
  · simp [Value.cells] at hcs
    obtain ⟨rfl, rfl, rfl⟩ := hcs
    refine ⟨(List.range len).map B, rel_slice (by simp) hl fun i u hu => ?_⟩
    have hi := (List.getElem?_eq_some_iff.1 hu).1
    simp at hi
    rw [List.map_map, List.getElem?_map, List.getElem?_range hi] at hu
    simp at hu; subst hu
    exact ⟨_, hcell i (by omega), by simp only [RelV]⟩
end
end Go.Sv
/- Slices of bytes among a row's arguments. -/
namespace Go.Sv
open Go Go.RowKit Go.ChangeShapes Go.WideShapes
section
variable {H : Type} {enc : TypeId × Value → H} {P : Program} {W : World} {base b0 : Nat} {held : Bool} {r : Reach}
theorem open_slU8 {t e : TypeId} {v : Value} {d : DataW H} {ps : List MemPlace} (ht : P.underlying t = some (.slice e)) (he : P.underlying e = some (.int .u8)) (hc : P.cellsOf e = 1) (hval : Value.okWide P W r b0 t v)
    (h : DataW.Trod enc P W base (fun _ => true) held t v d ps) : ∃ zs : List UInt8, RelV (Gh.start W) W (.sl none (zs.map byteV) .no) v := by
  obtain ⟨zs, h1, h2⟩ := open_slI ht he hc hval h
  refine ⟨zs.map fun z => UInt8.ofNat z.toNat, ?_⟩
  have e : (zs.map fun z => UInt8.ofNat z.toNat).map byteV = zs.map fun z => V.c (.int .u8 z) := by
    rw [List.map_map]
    refine List.map_congr_left fun z hz => ?_
    have h3 : 0 ≤ z ∧ z ≤ 255 := by simpa [Lit.wf, IntKind.min, IntKind.max, IntKind.signed, IntKind.bits] using h2 z hz
    simp only [Function.comp, byteV]
    congr 2
    simp [UInt8.toNat_ofNat']; omega
  rw [e]; exact h1
end
end Go.Sv
/- What the listed tables of the library, and the shapes of the rest, give: one by one. -/
namespace Go.Sv
open Go Go.Proofs Go.RowKit Go.ChangeShapes Go.WideShapes

theorem reads_in {P : Program} {l : List (String × DataW Unit)} {w : World} (h : laidMetH P l w) {n : String} {d : DataW Unit} (hm : (n, d) ∈ l) (hn : d.handleName? = none) : Lib.VarReads P w n d := by
  unfold laidMetH at h
  split at h
  · exact Lib.laidMet.reads h hm
  · exact Lib.laidMet.reads h.1 (List.mem_filter.2 ⟨hm, by simp [hn]⟩)

theorem gPow10 : Tryz.prog.globalNamed "internal/strconv.uint64pow10" = some 1 := by kernel_rfl
theorem tPow10 : (Tryz.prog.globals[1]?).map (·.type) = some 192 := by kernel_rfl
theorem cPow10 : Tryz.prog.cellsOf 192 = 20 := by kernel_rfl
theorem cU64_1 : Tryz.prog.cellsOf 99 = 1 := by kernel_rfl
theorem pow10_is {W : World} (h : Lib.VarReads Tryz.prog W "internal/strconv.uint64pow10" Go.Proofs.YtjmkgippihpkoaaGreatDoor.Rows.laid_internal_strconv_uint64pow10) : W.var? Tryz.prog "internal/strconv.uint64pow10" = some (Lib.pow10Tab.map fun z => Value.int .u64 z).toArray := by
  obtain ⟨g', t', cs, fuel, p, hg', ht', hvar, hd⟩ := h
  obtain rfl := Option.some.inj (gPow10.symm.trans hg')
  obtain rfl := Option.some.inj (tPow10.symm.trans ht')
  have e : (Go.Proofs.YtjmkgippihpkoaaGreatDoor.Rows.laid_internal_strconv_uint64pow10 : DataW Unit) = Lib.tabData .u64 Lib.pow10Tab := by kernel_rfl
  rw [e] at hd
  have := Lib.cells_of_tab Tryz.underlying192 Tryz.underlying99 cU64_1 cPow10 hd
  rw [hvar, ← this]
theorem maxLen_is {W : World} (hs : W.ShapedOpen Tryz.prog) : ∃ m, W.cell? ⟨4, 0, none⟩ = some (.int .i64 m) :=
  cell_of_shapedOpen_int (t := 3) (zero := #[.int .i64 0]) hs (of_decide_eq_true (by kernel_rfl)) (by kernel_rfl) rfl (by kernel_rfl) (by kernel_rfl) Tryz.underlying3

end Go.Sv
/- What the listed variables of the library give the walks; what a tied row wants. -/
namespace Go.Sv
open Go Go.Proofs Go.RowKit Go.ChangeShapes Go.WideShapes

theorem reads_of_laid {P : Program} {l : List (String × DataW Unit)} {w : World} (h : laidMetH P l w) {n : String} {d : DataW Unit} (hm : (n, d) ∈ l) (hn : d.handleName? = none) : Lib.VarReads P w n d := by
  unfold laidMetH at h
  split at h
  · exact Lib.laidMet.reads h hm
  · exact Lib.laidMet.reads h.1 (List.mem_filter.2 ⟨hm, by simp [hn]⟩)

theorem stat_of_reads {P : Program} {w : World} {n nm : String} {d : DataW Unit} {g : Nat} {ti : TypeId} {ms : Array (String × TypeId)} (h : Lib.VarReads P w n (.iface nm d)) (hg : P.globalNamed n = some g) (ht : (P.globals[g]?).map (·.type) = some ti) (hi : P.underlying ti = some (.interface ms)) :
    ∃ v, cell w g 0 = some v ∧ (v = .nilIface ∨ ∃ te pe, v = .iface te pe) := by
  obtain ⟨g0, t0, cs, fuel, p, hg0, ht0, hv, hd⟩ := h
  obtain rfl := Option.some.inj (hg.symm.trans hg0)
  obtain rfl := Option.some.inj (ht.symm.trans ht0)
  obtain ⟨f', u, v, hcs, _, _⟩ := iface_of_trod hi hd
  refine ⟨.iface u v, ?_, .inr ⟨u, v, rfl⟩⟩
  have := World.var?_cell hg hv 0
  unfold cell
  rw [this]
  obtain ⟨l⟩ := cs
  simp only at hcs; subst hcs; rfl

theorem gErrRange : Tryz.prog.globalNamed "strconv.ErrRange" = some 3 := by kernel_rfl
theorem gErrSyntax : Tryz.prog.globalNamed "strconv.ErrSyntax" = some 2 := by kernel_rfl
theorem tErrRange : (Tryz.prog.globals[3]?).map (·.type) = some 27 := by kernel_rfl
theorem tErrSyntax : (Tryz.prog.globals[2]?).map (·.type) = some 27 := by kernel_rfl

end Go.Sv
/- The handle of the type 'error' among the listed variables. -/
namespace Go.Sv
open Go Go.Proofs Go.RowKit Go.ChangeShapes Go.WideShapes

theorem gErrorType : Tryz.prog.globalNamed "errors.errorType" = some 0 := by kernel_rfl
theorem rtCut : (Tryz.prog.cutTypes.find? (·.1 == "internal/reflectlite.rtype")).map (·.2) = some 106 := by kernel_rfl
theorem oneRow : ((List.range Tryz.prog.types.size).filter fun t => Tryz.prog.rowNamed t [101, 114, 114, 111, 114]) = [27] := by kernel_rfl
theorem handle_of_laid {l : List (String × DataW Unit)} {W : World} (h : laidMetH Tryz.prog l W) (hm : ("errors.errorType", Go.Proofs.YtjmkgippihpkoaaGreatDoor.Rows.laid_errors_errorType) ∈ l) :
    cell W 0 0 = some (.iface 106 (.agg #[.pointer (some ⟨9, 27, none⟩)])) := by
  unfold laidMetH at h
  split at h
  · rename_i he
    have : ("errors.errorType", Go.Proofs.YtjmkgippihpkoaaGreatDoor.Rows.laid_errors_errorType) ∈ l.filter fun x => x.2.handleName?.isSome := List.mem_filter.2 ⟨hm, rfl⟩
    rw [he] at this; cases this
  · rename_i x xs he
    have hin : ("errors.errorType", Go.Proofs.YtjmkgippihpkoaaGreatDoor.Rows.laid_errors_errorType) ∈ x :: xs := by rw [← he]; exact List.mem_filter.2 ⟨hm, rfl⟩
    obtain ⟨name, u, ty, e1, e2, e3, e4, e5⟩ := h.2 _ hin
    have en : name = [101, 114, 114, 111, 114] := (Option.some.inj e1).symm
    subst en
    obtain rfl := Option.some.inj (rtCut.symm.trans e2)
    have hmm : ty ∈ (List.range Tryz.prog.types.size).filter fun t => Tryz.prog.rowNamed t [101, 114, 114, 111, 114] := List.mem_filter.2 ⟨List.mem_range.2 e3, e4⟩
    rw [oneRow] at hmm
    obtain rfl := List.mem_singleton.1 hmm
    have hh : typeHandle Tryz.prog 27 = .pointer (some ⟨9, 27, none⟩) := by kernel_rfl
    rw [hh] at e5
    have h6 := World.var?_cell gErrorType e5 0
    unfold cell
    rw [h6]; rfl

end Go.Sv
/- What the listed variables of the library, and the shapes of the rest, give the walks of the rows that read and write numbers (STATS=all). -/
namespace Go.Sv
open Go Go.Proofs Go.RowKit Go.ChangeShapes Go.WideShapes

theorem statOk6 {l : List (String × DataW Unit)} {W : World} (h : laidMetH Tryz.prog l W) (hm : ("internal/strconv.uint64pow10", Go.Proofs.YtjmkgippihpkoaaGreatDoor.Rows.laid_internal_strconv_uint64pow10) ∈ l) (hr : ("strconv.ErrRange", Go.Proofs.YtjmkgippihpkoaaGreatDoor.Rows.laid_strconv_ErrRange) ∈ l) (hy : ("strconv.ErrSyntax", Go.Proofs.YtjmkgippihpkoaaGreatDoor.Rows.laid_strconv_ErrSyntax) ∈ l) (he : ("errors.errorType", Go.Proofs.YtjmkgippihpkoaaGreatDoor.Rows.laid_errors_errorType) ∈ l) (hs : W.ShapedOpen Tryz.prog) : statOk W := by
  have a1 := stat_of_reads (reads_of_laid h hr rfl) gErrRange tErrRange Tryz.underlying27
  have a2 := stat_of_reads (reads_of_laid h hy rfl) gErrSyntax tErrSyntax Tryz.underlying27
  have h1 := pow10_is (reads_in h hm rfl)
  have hcell := fun i => World.var?_cell gPow10 h1 i
  obtain ⟨m, h2⟩ := maxLen_is hs
  have hget : ∀ i, i < 20 → cell W 1 i = some (.int .u64 ((10 ^ i : Nat) : Int)) := fun i hi => by
    unfold cell
    rw [hcell i]
    simp [Lib.pow10Tab, hi]
  refine ⟨fun p hp => ?_, fun p hp => ?_⟩
  · rcases List.mem_append.1 hp with hp | hp
    · simp only [List.mem_cons, List.not_mem_nil, or_false] at hp
      rcases hp with rfl | rfl | rfl | rfl
      · first | exact a1 | exact a2
      · first | exact a1 | exact a2
      · exact ⟨_, handle_of_laid h he, rfl⟩
      · exact ⟨_, h2, m, rfl⟩
    · obtain ⟨i, hi, rfl⟩ := List.mem_map.1 hp
      exact ⟨_, hget i (List.mem_range.1 hi), rfl⟩
  · rw [List.mem_singleton.1 hp]
    refine ⟨by rw [hget 0 (by omega)]; rfl, ?_⟩
    unfold cell
    rw [hcell 20]
    simp [Lib.pow10Tab]
end Go.Sv
/- A witness for rows that list the handle of the type 'error' and a pinned table: all is laid by the function, the handle by hand. -/
namespace Go.Sv
open Go Go.Proofs Go.RowKit Go.ChangeShapes Go.WideShapes

/-- The world with the handle in its row. -/
noncomputable def worldH (os : Os) : World :=
  { World.holding Tryz.prog os ⟨#[], #[], []⟩ with heap := ⟨Lay.setRows (World.holding Tryz.prog os ⟨#[], #[], []⟩).heap.toList [(0, [.iface 106 (.agg #[.pointer (some ⟨9, 27, none⟩)])])]⟩ }
noncomputable def laidAllH (os : Os) (laid : List (String × DataW Unit)) : World := (worldH os).layVars Tryz.prog (laid.filter fun x => x.2.handleName?.isNone)
theorem laidAllH_os (os : Os) (laid : List (String × DataW Unit)) : (laidAllH os laid).os = os := World.layVars_os _ _ _
theorem laidMetH_laidAllH {os : Os} {laid : List (String × DataW Unit)} (args : Array Value)
    (hf : (worldH os).layFits Tryz.prog (laid.filter fun x => x.2.handleName?.isNone) [] = true)
    (hi : (worldH os).layIfaces Tryz.prog (laid.filter fun x => x.2.handleName?.isNone) (laidAllH os laid) = true)
    (hh : (laid.filter fun x => x.2.handleName?.isSome).all (handleAtB Tryz.prog ((laidAllH os laid).forCall (fun _ _ => 0) ⟨#[], args, []⟩).memory) = true) :
    laidMetH Tryz.prog laid ((laidAllH os laid).forCall (fun _ _ => 0) ⟨#[], args, []⟩).memory := by
  obtain ⟨l, hl⟩ : ∃ l, l = laid.filter fun x => x.2.handleName?.isNone := ⟨_, rfl⟩
  have e1 : (l.filter fun x => (l.map (·.1)).contains x.1) = l := List.filter_eq_self.2 fun x hx => List.contains_iff_mem.2 (List.mem_map.2 ⟨x, hx, rfl⟩)
  have e2 : (l.filter fun x => !(l.map (·.1)).contains x.1) = [] := List.filter_eq_nil_iff.2 fun x hx => by rw [List.contains_iff_mem.2 (List.mem_map.2 ⟨x, hx, rfl⟩)]; simp
  rw [← hl] at hf hi
  have h : laidMet Tryz.prog l (laidAllH os laid) := laidMet_layVars (w0 := worldH os) (l.map (·.1)) [] (by rw [e1, hl]; rfl) (by rw [e1]; exact hf) (by rw [e1]; exact hi) (by rw [e2]; exact LaidIn.none)
  refine laidMetH_of_parts ?_ hh
  rw [← hl]
  exact h.of_heap (by simp [World.memory, World.forCall, Input.heap])
end Go.Sv
/- The package word, as plain functions. -/
namespace Go.Sv
open Go

def isSm (c : UInt8) : Bool := decide (97 ≤ c.toNat) && decide (c.toNat ≤ 122)
def isGr (c : UInt8) : Bool := decide (65 ≤ c.toNat) && decide (c.toNat ≤ 90)
def isDg (c : UInt8) : Bool := decide (48 ≤ c.toNat) && decide (c.toNat ≤ 57)
def spanN (p : UInt8 → Bool) (l : List UInt8) : Nat := (l.takeWhile p).length

structure Wd where
  kind : Nat
  text : List UInt8
  n : Int
  at_ : Nat
  deriving DecidableEq
def wd0 : Wd := ⟨0, [], 0, 0⟩
def wdV (w : Wd) : V := .agg [i64V w.kind, str w.text, i64V w.n, i64V w.at_]
/-- A word but for its place; how many bytes it has. -/
structure Nx where
  kind : Nat
  text : List UInt8
  n : Int
  len : Nat
  deriving DecidableEq
def Nx.wd (x : Nx) (at_ : Nat) : Wd := ⟨x.kind, x.text, x.n, at_⟩

def addN (k : Nat) : Except Nat (List UInt8 × Nat) → Except Nat (List UInt8 × Nat)
  | .ok (t, n) => .ok (t, n + k)
  | .error e => .error e
theorem addN_addN (a b : Nat) (r : Except Nat (List UInt8 × Nat)) : addN a (addN b r) = addN (b + a) r := by
  cases r with
  | error e => rfl
  | ok p => simp [addN, Nat.add_assoc]
theorem addN_zero (r : Except Nat (List UInt8 × Nat)) : addN 0 r = r := by
  cases r with
  | error e => rfl
  | ok p => rfl
/-- What stands behind the opening quote, how many bytes it takes with the closing one. -/
def textR (out : List UInt8) : List UInt8 → Except Nat (List UInt8 × Nat)
  | [] => .error 21
  | c :: r =>
    if c = 34 then (if 16 < out.length then .error 12 else .ok (out, 1))
    else if c = 92 then (match r with
      | [] => .error 21
      | d :: r' => if d = 34 ∨ d = 92 then addN 2 (textR (out ++ [d]) r') else .error 21)
    else if 32 ≤ c.toNat ∧ c.toNat ≤ 126 then addN 1 (textR (out ++ [c]) r) else .error 21

def letR (kind : Nat) (p : UInt8 → Bool) (l : List UInt8) : Except Nat Nx :=
  if 8 < spanN p l then .error 12 else .ok ⟨kind, l.take (spanN p l), 0, spanN p l⟩
def numE (n : Nat) : Lib.NumEnd Int → Except Nat Nx
  | .ok v => .ok ⟨2, [], v, n⟩
  | _ => .error 12
def numR (l : List UInt8) : Except Nat Nx := numE (1 + spanN isDg (l.drop 1)) (Lib.parseIntB 64 (l.take (1 + spanN isDg (l.drop 1))))
def textE : Except Nat (List UInt8 × Nat) → Except Nat Nx
  | .ok (t, k) => .ok ⟨3, t, 0, k + 1⟩
  | .error e => .error e
def textN (l : List UInt8) : Except Nat Nx := textE (textR [] (l.drop 1))
theorem textR_34 (out r : List UInt8) : textR out (34 :: r) = if 16 < out.length then .error 12 else .ok (out, 1) := by rw [textR.eq_def]; rfl
theorem textR_92 (out r : List UInt8) (d : UInt8) : textR out (92 :: d :: r) = if d = 34 ∨ d = 92 then addN 2 (textR (out ++ [d]) r) else .error 21 := by rw [textR.eq_def]; rfl
theorem textR_end (out : List UInt8) : textR out [92] = .error 21 := by rw [textR.eq_def]; rfl
theorem textR_c (out r : List UInt8) {c : UInt8} (h1 : c ≠ 34) (h2 : c ≠ 92) : textR out (c :: r) = if 32 ≤ c.toNat ∧ c.toNat ≤ 126 then addN 1 (textR (out ++ [c]) r) else .error 21 := by
  rw [textR.eq_def]; simp only; rw [if_neg h1, if_neg h2]
def signsL : List UInt8 := [40, 41, 91, 93, 58, 124, 44, 43, 33, 46, 45, 42, 61, 60]
def signR (l : List UInt8) : Except Nat Nx :=
  if [33, 61].isPrefixOf l then .ok ⟨5, [33, 61], 0, 2⟩
  else if [60, 61].isPrefixOf l then .ok ⟨5, [60, 61], 0, 2⟩
  else if decide (Lib.indexByte signsL (l.headD 0) < 0) then .error 21
  else .ok ⟨5, l.take 1, 0, 1⟩
def nextR (l : List UInt8) : Except Nat Nx :=
  if isSm (l.headD 0) then letR 1 isSm l
  else if isGr (l.headD 0) then letR 4 isGr l
  else if isDg (l.headD 0) || (l.headD 0 == 45 && decide (1 < l.length) && isDg ((l.drop 1).headD 0)) then numR l
  else if l.headD 0 == 34 then textN l
  else signR l

/-- All words, up to the first error, and that. -/
def itemsF : Nat → Nat → List UInt8 → List (Wd × Option Nat)
  | 0, _, _ => []
  | _ + 1, _, [] => []
  | f + 1, at_, c :: r => if c = 32 then itemsF f (at_ + 1) r else
    match nextR (c :: r) with
    | .error e => [(wd0, some e)]
    | .ok x => (x.wd at_, none) :: itemsF f (at_ + x.len) ((c :: r).drop x.len)
def collect : List Wd → List (Wd × Option Nat) → Except Nat (List Wd)
  | out, [] => .ok out
  | _, (_, some e) :: _ => .error e
  | out, (w, none) :: l => if 500 < (out ++ [w]).length then .error 12 else collect (out ++ [w]) l
def cutW (s : List UInt8) : Except Nat (List Wd) := collect [] (itemsF s.length 0 s)

theorem spanN_le (p : UInt8 → Bool) (l : List UInt8) : spanN p l ≤ l.length := by
  induction l with
  | nil => simp [spanN]
  | cons c l ih =>
    simp only [spanN, List.takeWhile_cons]
    split
    · simp [spanN] at ih ⊢; omega
    · simp
theorem spanN_cons {p : UInt8 → Bool} {c : UInt8} {l : List UInt8} (h : p c = true) : spanN p (c :: l) = spanN p l + 1 := by simp [spanN, h]
theorem spanN_stop {p : UInt8 → Bool} {c : UInt8} {l : List UInt8} (h : p c = false) : spanN p (c :: l) = 0 := by simp [spanN, h]
theorem textR_le : ∀ (n : Nat) (l out : List UInt8) {t : List UInt8} {k : Nat}, l.length ≤ n → textR out l = .ok (t, k) → 1 ≤ k ∧ k ≤ l.length
  | _, [], out, t, k, _, h => by simp [textR] at h
  | 0, c :: l, out, t, k, hn, h => by simp at hn
  | n + 1, c :: l, out, t, k, hn, h => by
    have hn' : l.length ≤ n := by simpa using hn
    rw [textR.eq_def] at h
    simp only at h
    split at h
    · split at h
      · cases h
      · cases h; simp
    · split at h
      · cases l with
        | nil => cases h
        | cons d l' =>
          simp only at h
          split at h
          · cases e : textR (out ++ [d]) l' with
            | error x => rw [e] at h; cases h
            | ok p =>
              obtain ⟨t', k'⟩ := p
              rw [e] at h
              cases h
              have := textR_le n l' (out ++ [d]) (by simp at hn'; omega) e
              simp; omega
          · cases h
      · split at h
        · cases e : textR (out ++ [c]) l with
          | error x => rw [e] at h; cases h
          | ok p =>
            obtain ⟨t', k'⟩ := p
            rw [e] at h
            cases h
            have := textR_le n l (out ++ [c]) hn' e
            simp; omega
        · cases h
theorem nextR_cons (c : UInt8) (r : List UInt8) : nextR (c :: r) = if isSm c then letR 1 isSm (c :: r) else if isGr c then letR 4 isGr (c :: r)
    else if isDg c || (c == 45 && decide (1 < (c :: r).length) && isDg (r.headD 0)) then numR (c :: r) else if c == 34 then textN (c :: r) else signR (c :: r) := rfl
/-- A word takes a byte at least, and none that isn't there. -/
theorem nextR_len {l : List UInt8} {x : Nx} (hl : l ≠ []) (h : nextR l = .ok x) : 1 ≤ x.len ∧ x.len ≤ l.length := by
  cases l with
  | nil => exact absurd rfl hl
  | cons c r =>
  rw [nextR_cons] at h
  have hlet : ∀ (kind : Nat) (p : UInt8 → Bool), p c = true → letR kind p (c :: r) = .ok x → 1 ≤ x.len ∧ x.len ≤ (c :: r).length := by
    intro kind p hp h
    unfold letR at h
    split at h
    · cases h
    · cases h
      exact ⟨by simp only [spanN_cons hp]; omega, spanN_le p _⟩
  split at h
  · rename_i h1; exact hlet _ _ h1 h
  · split at h
    · rename_i h1; exact hlet _ _ h1 h
    · split at h
      · unfold numR at h
        unfold numE at h
        split at h
        · cases h
          have := spanN_le isDg r
          simp only [List.drop_succ_cons, List.drop_zero, List.length_cons]
          omega
        · cases h
      · split at h
        · unfold textN textE at h
          split at h
          · rename_i t k e
            cases h
            have := textR_le _ _ _ (Nat.le_refl _) e
            simp only [List.drop_succ_cons, List.drop_zero, List.length_cons] at this ⊢
            omega
          · cases h
        · unfold signR at h
          split at h
          · rename_i h1
            cases h
            have := List.IsPrefix.length_le (List.isPrefixOf_iff_prefix.1 h1)
            simp at this ⊢; omega
          · split at h
            · rename_i h1
              cases h
              have := List.IsPrefix.length_le (List.isPrefixOf_iff_prefix.1 h1)
              simp at this ⊢; omega
            · split at h
              · cases h
              · cases h; simp
end Go.Sv
/- What was made may stay as it is from some place on: rows whose elements could change are rows that never change again. -/
namespace Go.Sv
open Go

/-- The elements of a row, as its cells say. -/
def Rows (sh : Option Nat) (cs : List V) : Nat → List V → Prop
  | _, [] => True
  | o, x :: xs => (∃ u, partOf sh cs o = some u ∧ Vle u x) ∧ Rows sh cs (o + width sh) xs

mutual
inductive Frz (b : Nat) (cs : List V) : V → V → Prop
  | vle {v v' : V} (h : Vle v v') : Frz b cs v v'
  | row {sh : Option Nat} {o n cap : Nat} {xs : List V} (hn : xs.length = n) (hw : 0 < width sh) (hle : o + n * width sh ≤ cs.length) (h : Rows sh cs o xs) : Frz b cs (.lsl sh b o n cap) (.sl sh xs .no)
  | agg {ds es : List V} (h : FrzL b cs ds es) : Frz b cs (.agg ds) (.agg es)
  | tup {ds es : List V} (h : FrzL b cs ds es) : Frz b cs (.tup ds) (.tup es)
inductive FrzL (b : Nat) (cs : List V) : List V → List V → Prop
  | nil : FrzL b cs [] []
  | cons {v v' : V} {vs vs' : List V} (h : Frz b cs v v') (hs : FrzL b cs vs vs') : FrzL b cs (v :: vs) (v' :: vs')
end
theorem Frz.refl {b : Nat} {cs : List V} (v : V) : Frz b cs v v := .vle (Vle.refl v)
theorem FrzL.refl {b : Nat} {cs : List V} : ∀ vs : List V, FrzL b cs vs vs
  | [] => .nil
  | v :: vs => .cons (Frz.refl v) (FrzL.refl vs)

inductive FrzR (b : Nat) (cs : List V) : List Res → List Res → Prop
  | nil : FrzR b cs [] []
  | keep (x : Res) {l l' : List Res} (h : FrzR b cs l l') : FrzR b cs (x :: l) (x :: l')
  | drop (x : Res) {l l' : List Res} (h : FrzR b cs l l') : FrzR b cs (x :: l) l'
  | obj (c : Nat) {ds es : List V} (hd : FrzL b cs ds es) {l l' : List Res} (h : FrzR b cs l l') : FrzR b cs (.obj c ds :: l) (.obj c es :: l')
theorem FrzR.refl {b : Nat} {cs : List V} : ∀ l : List Res, FrzR b cs l l
  | [] => .nil
  | x :: l => .keep x (FrzR.refl l)

section
variable {g g' : Gh} {w : World} {b : Nat} {cs : List V} {R : List Res}

theorem rows_rel {sh : Option Nat} {vals : List Value} (hl : RelL g w cs vals) : ∀ {xs : List V} {o : Nat}, Rows sh cs o xs → RelXs g w sh xs (fun i => vals[o + i]?)
  | [], _, _ => by simp [RelXs]
  | x :: xs, o, h => by
    obtain ⟨⟨u, hu, hle⟩, h2⟩ := h
    rw [relXs_cons]
    have h1 := relE_part (l := vals.toArray) (by simpa using hl) hu
    refine ⟨RelE.vle hle (relE_congr h1 fun i _ => by simp), ?_⟩
    have := rows_rel (vals := vals) hl h2
    have e : (fun i => vals[o + (i + width sh)]?) = (fun i => vals[o + width sh + i]?) := by
      funext i; congr 1; omega
    rw [e]; exact this

/-- What it takes to turn values. -/
structure Turned (b : Nat) (cs : List V) (g g' : Gh) (w : World) : Prop where
  pre : Pre g w g' w
  cells : cs = [] ∨ ∃ vals : List Value, RelL g w cs vals ∧ (∀ o, cell w b o = vals[o]?) ∧ vals.length ≤ g'.cm b

mutual
theorem Frz.rel (T : Turned b cs g g' w) : ∀ {v v' : V} {x : Value}, Frz b cs v v' → RelV g w v x → RelV g' w v' x
  | _, _, x, .vle h, hx => RelV.mono T.pre _ _ (h _ _ _ hx)
  | _, _, x, .row (sh := sh) (o := o) (n := n) (cap := cap) (xs := xs) hn hw hle h, hx => by
    simp only [RelV] at hx ⊢
    obtain ⟨a, rfl, hc, ha⟩ := hx
    refine ⟨a, n, cap, rfl, hn.symm, hc, trivial, ?_⟩
    by_cases h0 : n = 0
    · left; exact List.eq_nil_of_length_eq_zero (by omega)
    · right
      have hn1 : 0 < n * width sh := Nat.mul_pos (by omega) hw
      rcases T.cells with hcs | ⟨vals, hl, hcell, hcm⟩
      · subst hcs; simp at hle; omega
      · have hlen := relL_length hl
        refine ⟨b, o, ha.resolve_left (by omega), by omega, ?_⟩
        refine RelXs.mono T.pre sh xs _ _ (fun i _ => ?_) (rows_rel hl h)
        exact hcell (o + i)
  | _, _, x, .agg h, hx => by
    simp only [RelV] at hx ⊢
    obtain ⟨l, rfl, h1⟩ := hx
    exact ⟨l, rfl, FrzL.rel T h h1⟩
  | _, _, x, .tup h, hx => by
    simp only [RelV] at hx ⊢
    obtain ⟨l, rfl, h1⟩ := hx
    exact ⟨l, rfl, FrzL.rel T h h1⟩
theorem FrzL.rel (T : Turned b cs g g' w) : ∀ {vs vs' : List V} {xs : List Value}, FrzL b cs vs vs' → RelL g w vs xs → RelL g' w vs' xs
  | _, _, xs, .nil, hx => hx
  | _, _, xs, .cons h hs, hx => by
    simp only [RelL] at hx ⊢
    obtain ⟨x, ys, rfl, h1, h2⟩ := hx
    exact ⟨x, ys, rfl, Frz.rel T h h1, FrzL.rel T hs h2⟩
end

theorem FrzL.length : ∀ {vs vs' : List V}, FrzL b cs vs vs' → vs'.length = vs.length
  | _, _, .nil => rfl
  | _, _, .cons _ hs => by simp [FrzL.length hs]

theorem frzR_rel (T : Turned b cs g g' w) : ∀ {l l' : List Res}, FrzR b cs l l' → (∀ x ∈ l, RelRes g w x) → (∀ c ∈ blocks g l, g'.cm c = g.cm c) → (∀ x ∈ l', RelRes g' w x) ∧ (blocks g' l').Sublist (blocks g l)
  | _, _, .nil, _, _ => ⟨by simp, List.Sublist.refl _⟩
  | _, _, .keep x (l := l) h, hl, hb => by
    obtain ⟨h1, h2⟩ := frzR_rel T h (fun y hy => hl y (by simp [hy])) fun c hc => hb c (by simp only [blocks, List.flatMap_cons, List.mem_append] at hc ⊢; exact .inr hc)
    obtain ⟨h3, h4⟩ := (hl x (by simp)).kept T.pre fun c hc => ⟨rfl, hb c (by simp only [blocks, List.flatMap_cons, List.mem_append]; exact .inl hc)⟩
    refine ⟨fun y hy => ?_, ?_⟩
    · rcases List.mem_cons.1 hy with rfl | hy
      · exact h3
      · exact h1 y hy
    · simp only [blocks, List.flatMap_cons] at h2 ⊢
      rw [h4]; exact (List.Sublist.refl _).append h2
  | _, _, .drop x (l := l) h, hl, hb => by
    obtain ⟨h1, h2⟩ := frzR_rel T h (fun y hy => hl y (by simp [hy])) fun c hc => hb c (by simp only [blocks, List.flatMap_cons, List.mem_append] at hc ⊢; exact .inr hc)
    refine ⟨h1, ?_⟩
    simp only [blocks, List.flatMap_cons] at h2 ⊢
    exact h2.trans (List.sublist_append_right _ _)
  | _, _, .obj c (ds := ds) (es := es) hd (l := l) h, hl, hb => by
    obtain ⟨h1, h2⟩ := frzR_rel T h (fun y hy => hl y (by simp [hy])) fun c hc => hb c (by simp only [blocks, List.flatMap_cons, List.mem_append] at hc ⊢; exact .inr hc)
    have hbl : Res.blocks g' (.obj c es) = Res.blocks g (.obj c ds) := by
      have := FrzL.length hd
      cases ds <;> cases es <;> simp at this ⊢ <;> rfl
    refine ⟨fun y hy => ?_, ?_⟩
    · rcases List.mem_cons.1 hy with rfl | hy
      · by_cases hn : ds = []
        · subst hn
          cases hd
          exact .inl rfl
        · obtain ⟨vals, e, fz, hh, hz, hlv, hcm⟩ := obj_cons hn (hl (.obj c ds) (by simp))
          refine .inr ⟨vals, e, fz, hh, hz, FrzL.rel T hd hlv, ?_⟩
          rw [hb c (by cases ds with | nil => exact absurd rfl hn | cons _ _ => simp [blocks, Res.blocks])]
          exact hcm
      · exact h1 y hy
    · simp only [blocks, List.flatMap_cons] at h2 ⊢
      rw [hbl]; exact (List.Sublist.refl _).append h2

/-- **FROM HERE ON IT NEVER CHANGES**: the object b, and what is laid of it. -/
theorem frz_core {i : Nat} {R' : List Res} (hw : Wf g w) (hr : RelR g w R) (hR : R[i]? = some (.obj b cs)) (hR' : FrzR b cs (R.eraseIdx i) R') : ∃ g', Turned b cs g g' w ∧ After g w R g' w R' := by
  have hmem : Res.obj b cs ∈ R := List.mem_of_getElem? hR
  have hsub : (R.eraseIdx i).Sublist R := List.eraseIdx_sublist _ _
  by_cases hn : cs = []
  · subst hn
    have T : Turned b [] g g w := ⟨Pre.refl g w, .inl rfl⟩
    obtain ⟨h1, h2⟩ := frzR_rel T hR' (fun x hx => hr.all x (hsub.subset hx)) fun _ _ => rfl
    have h3 := h2.trans (blocks_sub (g := g) hsub)
    exact ⟨g, T, ⟨Ext.refl _ hw, ⟨h1, hr.nodup.sublist h3⟩, fun c hc => .inl (h3.subset hc)⟩⟩
  · obtain ⟨vals, e, fz, hh, hz, hl, hcm⟩ := obj_cons hn (hr.all _ hmem)
    have hb : b ∈ blocks g R := mem_blocks.2 ⟨_, hmem, by cases cs with | nil => exact absurd rfl hn | cons _ _ => simp [Res.blocks]⟩
    have hlt : b < w.heap.size := (Array.getElem?_eq_some_iff.1 hh).1
    have hcell : ∀ o, cell w b o = vals.toList[o]? := fun o => by simp [cell, World.cell?, hh]
    have hpre : Pre g w (g.with b vals.size) w := ⟨fun c => by
        simp only [Gh.with]; split
        · rename_i h; subst h; omega
        · exact Nat.le_refl _, fun _ _ _ => rfl, Nat.le_refl _, fun _ _ => rfl, fun _ _ _ => rfl⟩
    have T : Turned b cs g (g.with b vals.size) w := ⟨hpre, .inr ⟨vals.toList, hl, hcell, by simp [Gh.with]⟩⟩
    -- b lies in nothing else that is owned
    have hnb : ∀ c ∈ blocks g (R.eraseIdx i), c ≠ b := by
      rintro c hc rfl
      obtain ⟨A, B, rfl, _⟩ := split_at hR
      have hnd := hr.nodup
      rw [blocks_append, blocks_append, blocks_obj hn] at hnd
      obtain ⟨x, hx, hxb⟩ := mem_blocks.1 hc
      rw [List.nodup_append] at hnd
      obtain ⟨h1, h2, h3⟩ := hnd
      rw [List.nodup_append] at h1
      obtain ⟨j, hji, hj⟩ := List.mem_eraseIdx_iff_getElem?.1 hx
      -- another place than i
      have hlen : i < (A ++ [Res.obj c cs] ++ B).length := (List.getElem?_eq_some_iff.1 hR).1
      by_cases hjA : j < A.length
      · have hxA : x ∈ A := by
          rw [List.append_assoc, List.getElem?_append_left hjA] at hj
          exact List.mem_of_getElem? hj
        exact h1.2.2 c (mem_blocks.2 ⟨x, hxA, hxb⟩) c (by simp) rfl
      · by_cases hjB : j = A.length
        · subst hjB
          have hiA : i ≠ A.length := fun e => hji e.symm
          by_cases hiA' : i < A.length
          · rw [List.append_assoc, List.getElem?_append_left hiA'] at hR
            exact h1.2.2 c (mem_blocks.2 ⟨_, List.mem_of_getElem? hR, by cases cs with | nil => exact absurd rfl hn | cons _ _ => simp [Res.blocks]⟩) c (by simp) rfl
          · rw [List.getElem?_append_right (by simp; omega)] at hR
            exact h3 c (List.mem_append.2 (.inr (by simp))) c (mem_blocks.2 ⟨_, List.mem_of_getElem? hR, by cases cs with | nil => exact absurd rfl hn | cons _ _ => simp [Res.blocks]⟩) rfl
        · have hxB : x ∈ B := by
            rw [List.getElem?_append_right (by simp; omega)] at hj
            exact List.mem_of_getElem? hj
          exact h3 c (List.mem_append.2 (.inr (by simp))) c (mem_blocks.2 ⟨x, hxB, hxb⟩) rfl
    obtain ⟨h1, h2⟩ := frzR_rel T hR' (fun x hx => hr.all x (hsub.subset hx)) fun c hc => by simp only [Gh.with]; rw [if_neg (hnb c hc)]
    have h3 := h2.trans (blocks_sub (g := g) hsub)
    refine ⟨_, T, ⟨?_, ⟨h1, hr.nodup.sublist h3⟩, fun c hc => .inl (h3.subset hc)⟩⟩
    exact { hpre with
      os := rfl, tape := rfl, output := rfl, size := Nat.le_refl _, frame := fun _ _ _ => rfl
      cmeq := fun c _ hc => by simp only [Gh.with]; rw [if_neg (fun e => hc (by rw [e]; exact hb))]
      wf := ⟨fun c hc => by simp only [Gh.with]; rw [if_neg (by omega)]; exact hw.cm c hc, fun c o ho => by
        simp only [Gh.with] at ho
        split at ho
        · rename_i h; subst h; rw [hcell]; simp; omega
        · exact hw.ex c o ho, hpre.st hw⟩ }

theorem UpdF.frz {fr fr' : Fr} {R' : List Res} (i : Nat) (hR : R[i]? = some (.obj b cs)) (hR' : FrzR b cs (R.eraseIdx i) R') (hf : ∀ t, Frz b cs (fr t) (fr' t)) : UpdF fr R fr' R' := by
  intro g w x hw hx hr
  obtain ⟨g', T, hA⟩ := frz_core hw hr hR hR'
  exact ⟨g', hA, fun t => Frz.rel T (hf t) (hx t)⟩
theorem UpdV.frz {v v' : V} {R' : List Res} (i : Nat) (hR : R[i]? = some (.obj b cs)) (hR' : FrzR b cs (R.eraseIdx i) R') (hf : Frz b cs v v') : UpdV v R v' R' := by
  intro g w x hw hx hr
  obtain ⟨g', T, hA⟩ := frz_core hw hr hR hR'
  exact ⟨g', hA, Frz.rel T hf hx⟩
theorem UpdV.trans {v v' v'' : V} {R R' R'' : List Res} (h : UpdV v R v' R') (h' : UpdV v' R' v'' R'') : UpdV v R v'' R'' := by
  intro g w x hw hx hr
  obtain ⟨g1, h1, h2⟩ := h g w x hw hx hr
  obtain ⟨g2, h3, h4⟩ := h' g1 w x h1.ext.wf h2 h1.res
  exact ⟨g2, h1.trans h3, h4⟩

/-- A frame written out, turned. -/
def FrzF (b : Nat) (cs : List V) (fr : Fr) (fr' : Fr) : Prop := ∀ t, Frz b cs (fr t) (fr' t)
theorem FrzF.nil (fr : Fr) : FrzF b cs fr (frL []) := fun _ => .vle (Vle.undef _)
theorem FrzF.cons {fr : Fr} {k : Nat} {v : V} {l : List (Nat × V)} (h : Frz b cs (fr k) v) (hs : FrzF b cs fr (frL l)) : FrzF b cs fr (frL ((k, v) :: l)) := fun t => by
  simp only [frL]
  cases e : Nat.beq t k with
  | true => rw [Nat.eq_of_beq_eq_true e]; exact h
  | false => exact hs t

/-- Rows of one cell each. -/
theorem rows_none {xs sp : List V} : ∀ {ys : List V} , Rows none (ys ++ xs ++ sp) ys.length xs := by
  induction xs with
  | nil => intro ys; trivial
  | cons x xs ih =>
    intro ys
    refine ⟨⟨x, ?_, Vle.refl x⟩, ?_⟩
    · simp [partOf]
    · have := ih (ys := ys ++ [x])
      simpa [width] using this
theorem rows_some {k : Nat} {sp : List V} : ∀ {xs ys : List V}, (∀ x ∈ xs, ∃ cs, x = .agg cs ∧ cs.length = k) → Rows (some k) (ys ++ rowC (some k) xs ++ sp) ys.length xs
  | [], _, _ => trivial
  | x :: xs, ys, h => by
    obtain ⟨cs, rfl, hk⟩ := h x (by simp)
    refine ⟨⟨.agg cs, ?_, Vle.refl _⟩, ?_⟩
    · simp only [partOf, rowC, List.flatMap_cons, aggC]
      rw [if_pos (by simp; omega)]
      simp [List.append_assoc, List.take_left' hk]
    · have := rows_some (sp := sp) (xs := xs) (ys := ys ++ cs) fun x hx => h x (by simp [hx])
      simpa [width, hk, rowC, aggC, List.append_assoc] using this

/-- A cell of a row's first part, set. -/
theorem splice_one {A sp : List V} {o : Nat} {v : V} (h : o < A.length) : splice (A ++ sp) o [v] = A.set o v ++ sp := by
  simp only [splice, List.length_singleton]
  rw [List.set_eq_take_append_cons_drop, if_pos h, List.take_append_of_le_length (by omega), List.drop_append_of_le_length (by omega)]
  simp

theorem w_ret1F {P : Program} {fn : Func} {K : V → List Res → Prop} {fr : Fr} {t : Tmp} {v : V} {R' : List Res} (i : Nat) (h : fn.results.toList = [.tmp t]) (hR : R[i]? = some (.obj b cs)) (hv : Frz b cs (fr t) v) (hR' : FrzR b cs (R.eraseIdx i) R') (hK : K v R') : (Tree.leaf .ret fr).wp P R (Ends P fn K) :=
  ⟨.inr rfl, [fr t], v, R', by rw [h]; exact ⟨[], rfl, rfl⟩, UpdV.frz i hR hR' hv, hK⟩
/-- All of a row of one cell each. -/
theorem Frz.all1 {xs sp : List V} {cap : Nat} : Frz b (xs ++ sp) (.lsl none b 0 xs.length cap) (.sl none xs .no) :=
  .row rfl (by simp [width]) (by simp [width]) (by have := rows_none (xs := xs) (sp := sp) (ys := []); simpa using this)
theorem Frz.alls {k cap : Nat} {xs sp : List V} (hk : 0 < k) (h : ∀ x ∈ xs, ∃ cs, x = .agg cs ∧ cs.length = k) : Frz b (rowC (some k) xs ++ sp) (.lsl (some k) b 0 xs.length cap) (.sl (some k) xs .no) :=
  .row rfl hk (by
    have : (rowC (some k) xs).length = xs.length * k := by
      clear hk
      induction xs with
      | nil => simp [rowC]
      | cons x xs ih =>
        obtain ⟨ds, rfl, hl⟩ := h x (by simp)
        have := ih fun x hx => h x (by simp [hx])
        simp only [rowC] at this
        simp [rowC, aggC, this, hl, Nat.add_mul]; omega
    simp [width, this]) (by have := rows_some (k := k) (sp := sp) (xs := xs) (ys := []) h; simpa using this)
theorem FrzR.drops : ∀ (l : List Res), FrzR b cs l []
  | [] => .nil
  | x :: l => .drop x (FrzR.drops l)

end
end Go.Sv
/- The library's contracts, as calls of values. -/
namespace Go.Sv
open Go Go.RowKit

section
variable {P : Program} {g : Gh} {w w' : World}

theorem after_below (hw : Wf g w) (h : Below w.heap.size w w') : After g w [] g w' [] := by
  have hc : ∀ b o, b < w.heap.size → cell w' b o = cell w b o := fun b o hb => World.cell?_of_block (w := w) (h.block b hb)
  have hlt : ∀ b o, o < g.cm b → b < w.heap.size := fun b o ho => by
    rcases Nat.lt_or_ge b w.heap.size with h1 | h1
    · exact h1
    · rw [hw.cm b h1] at ho; omega
  have hp : Pre g w g w' := ⟨fun _ => Nat.le_refl _, fun b o ho => hc b o (hlt b o ho), Nat.le_refl _, fun _ _ => rfl, fun b o h0 => by rw [hc b o (hw.lt h0)]⟩
  refine ⟨{ hp with os := h.os, tape := h.tape, output := h.output, size := h.size, frame := fun b hb _ => h.block b hb, cmeq := fun _ _ _ => rfl, wf := ⟨fun b hb => hw.cm b (Nat.le_trans h.size hb), fun b o ho => by rw [hc b o (hlt b o ho)]; exact hw.ex b o ho, hp.st hw⟩ }, ⟨by simp, by simp [blocks]⟩, by simp [blocks]⟩

theorem run_call {f : FuncId} (hf : isFn P f) (xs : Array Value) : (callFunc f xs).run P w = .ok (.enter f xs) w := by
  obtain ⟨fn, c, h1, h2, h3⟩ := hf
  have hn' : ¬ fn.name = "runtime.NumGoroutine" := by simpa using h3
  simp [callFunc, h1, h2, hn']

/-- Whatever makes memory of its own and leaves the rest as it was. -/
theorem pcall_of_below {f : FuncId} {args : List V} {v : V} (hf : isFn P f) (h : ∀ (g : Gh) (w : World) (xs : List Value), Wf g w → RelL g w args xs → Calls P f xs.toArray w fun e w' => ∃ x, e = .returned x ∧ Below w.heap.size w w' ∧ RelV g w' v x) : PCall P f args v := by
  intro g w xs hw hx hr
  refine .inr (.inl ⟨f, xs.toArray, w, run_call hf _, callsIn_wide.2 (Calls.mono (h g w xs hw hx) ?_)⟩)
  rintro e w' ⟨x, rfl, hb, hv⟩
  exact ⟨x, rfl, v, g, [], rfl, after_below hw hb, hv⟩

theorem relL1 {v : V} {xs : List Value} (h : RelL g w [v] xs) : ∃ x, xs = [x] ∧ RelV g w v x := rel_one h
theorem relL2 {u v : V} {xs : List Value} (h : RelL g w [u, v] xs) : ∃ x y, xs = [x, y] ∧ RelV g w u x ∧ RelV g w v y := rel_two h

/-- A row of results that are values alone. -/
theorem pcall_c2 {f : FuncId} {a b x : Value} (hf : isFn P f) (h : ∀ w : World, Calls P f #[a, b] w fun e w' => e = .returned x ∧ Below w.heap.size w w') : PCall P f [.c a, .c b] (.c x) :=
  pcall_of_below hf fun g w xs _ hx => by
    obtain ⟨p, q, rfl, hp, hq⟩ := relL2 hx
    simp only [RelV] at hp hq
    subst hp; subst hq
    exact (h w).mono fun e w' ⟨h1, h2⟩ => ⟨x, h1, h2, by simp only [RelV]⟩
theorem pcall_c1 {f : FuncId} {a x : Value} (hf : isFn P f) (h : ∀ w : World, Calls P f #[a] w fun e w' => e = .returned x ∧ Below w.heap.size w w') : PCall P f [.c a] (.c x) :=
  pcall_of_below hf fun g w xs _ hx => by
    obtain ⟨p, rfl, hp⟩ := relL1 hx
    simp only [RelV] at hp
    subst hp
    exact (h w).mono fun e w' ⟨h1, h2⟩ => ⟨x, h1, h2, by simp only [RelV]⟩
end
end Go.Sv
/- The rules of the operations on live slices, with their outcomes named by the user. -/
namespace Go.Sv
open Go
theorem lates1 {fr : Fr} {o : Oper} {q : Nat} {t : TypeId} {x : Operand} (b o1 c o2 : Nat) (hop : o.op = .load t x) (h1 : ev fr x = .loc b o1) (h2 : fr q = .loc c o2) (hne : b ≠ c) : ∀ p ∈ [q], Apart fr o p := by
  intro p hp
  rw [List.mem_singleton.1 hp]
  unfold Apart
  rw [hop]
  refine ⟨b, o1, h1, fun c' o2' e => ?_⟩
  rw [h2] at e
  cases e
  exact hne
theorem latesV {fr : Fr} {o : Oper} {l : List Nat} {t : TypeId} {x : Operand} (b o1 : Nat) (hop : o.op = .load t x) (h1 : ev fr x = .loc b o1) (h2 : ∀ q ∈ l, ∀ c o2, fr q = .loc c o2 → b ≠ c) : ∀ p ∈ l, Apart fr o p := by
  intro p hp
  unfold Apart
  rw [hop]
  exact ⟨b, o1, h1, h2 p hp⟩

section
variable {P : Program} {R : List Res} {Q : Exit → Fr → List Res → Prop}

theorem wp_makeE {sh : Option Nat} {by_ : Nat} {zero : List V} {n c : Int} {k : V → Tree} (n' c' : Nat) (zs : List V) (hn : n = n') (hc : c = c') (hle : n' ≤ c') (hb : (c' : Int) * by_ ≤ 140737488355328)
    (hz : (List.replicate c' zero).flatten = zs) (h : ∀ b, (k (.lsl sh b 0 n' c')).wp P (R ++ [.obj b zs]) Q) : (Tree.eff (.make sh by_ zero n c) k).wp P R Q := by
  subst hn; subst hc; subst hz
  exact ⟨by omega, by omega, hb, fun b => h b⟩

theorem wp_copyE {sh : Option Nat} {b o n : Nat} {ys : List V} {k : V → Tree} (i o' : Nat) {cs : List V} (src : List V) (cs' : List V) (m : Nat) {R' : List Res} (hR : R[i]? = some (.obj b cs)) (ho : o = o') (hs : VleL (rowC sh (ys.take n)) src) (hok : ∀ y ∈ ys, okE sh y)
    (hfit : o' + n * width sh ≤ cs.length) (hc : splice cs o' src = cs') (hm : min ys.length n = m) (hR' : R.set i (.obj b cs') = R') (h : (k (.c (.int .i64 (m : Nat)))).wp P R' Q) : (Tree.eff (.copy sh b o n ys) k).wp P R Q := by
  subst ho; subst hc; subst hm; subst hR'
  exact ⟨i, cs, src, hs, hok, hR, hfit, h⟩

theorem wp_copyLE {sh : Option Nat} {b o n b' o2 n2 : Nat} {k : V → Tree} (i j oa ob na nb : Nat) {cs cs2 : List V} (src : List V) (cs' : List V) (m : Nat) {R' : List Res} (hR : R[i]? = some (.obj b cs)) (hR2 : R[j]? = some (.obj b' cs2)) (ho : o = oa) (ho2 : o2 = ob) (hn : n = na) (hn2 : n2 = nb)
    (hfit : oa + na * width sh ≤ cs.length) (hfit2 : ob + nb * width sh ≤ cs2.length) (hs : (cs2.drop ob).take (min nb na * width sh) = src) (h1 : ∀ v ∈ src, oneV v = true) (hc : splice cs oa src = cs') (hm : min nb na = m) (hR' : R.set i (.obj b cs') = R') (h : (k (.c (.int .i64 (m : Nat)))).wp P R' Q) : (Tree.eff (.copyL sh b o n b' o2 n2) k).wp P R Q := by
  subst ho; subst ho2; subst hn; subst hn2; subst hc; subst hm; subst hR'
  exact ⟨i, j, cs, cs2, src, hR, hR2, hfit, hfit2, hs.symm, h1, h⟩

theorem wp_clearE {sh : Option Nat} {b o n : Nat} {zero : List V} {k : V → Tree} (i o' n' : Nat) {cs : List V} (cs' : List V) {R' : List Res} (hR : R[i]? = some (.obj b cs)) (ho : o = o') (hn : n = n') (hfit : o' + n' * width sh ≤ cs.length) (h1 : ∀ v ∈ zero, oneV v = true)
    (hc : splice cs o' (List.replicate n' zero).flatten = cs') (hR' : R.set i (.obj b cs') = R') (h : (k (.tup [])).wp P R' Q) : (Tree.eff (.clear sh b o n zero) k).wp P R Q := by
  subst ho; subst hn; subst hc; subst hR'
  exact ⟨i, cs, hR, hfit, h1, h⟩

theorem wp_bytesE {s : ByteArray} {k : V → Tree} (l : List UInt8) (hs : s = S l) (h : ∀ (b : Nat) (sp : List V), (k (.lsl none b 0 l.length (l.length + sp.length))).wp P (R ++ [.obj b (l.map byteV ++ sp)]) Q) : (Tree.eff (.bytes s) k).wp P R Q := by
  subst hs
  intro b cap sp e
  subst e
  exact h b sp

theorem wp_strE {b o n : Nat} {k : V → Tree} (i o' n' : Nat) {cs : List V} (l : List UInt8) (hR : R[i]? = some (.obj b cs)) (ho : o = o') (hn : n = n') (hv : VleL ((cs.drop o').take n') (l.map byteV)) (hl : l.length = n') (h : (k (str l)).wp P R Q) : (Tree.eff (.str b o n) k).wp P R Q := by
  subst ho; subst hn
  exact ⟨i, cs, l, hR, hv, hl, h⟩

/-- Appending to a live slice that begins its object: the object is either the same or a new one. -/
theorem wp_appE {sh : Option Nat} {by_ b n cap : Nat} {ys : List V} {k : V → Tree} (A : List Res) (xs : List V) (src : List V) (n' : Nat) (hn : n = n') (hR : ∃ sp, R = A ++ [.obj b (xs ++ sp)] ∧ (xs ++ sp).length = cap * width sh ∧ n' ≤ cap) (hx : xs.length = n' * width sh)
    (hs : VleL (rowC sh ys) src) (hok : ∀ y ∈ ys, okE sh y) (hle : (n' + ys.length) * by_ ≤ 140737488355328)
    (h : ∀ (b cap : Nat) (sp : List V), (xs ++ src ++ sp).length = cap * width sh → n' + ys.length ≤ cap → (k (.lsl sh b 0 (n' + ys.length) cap)).wp P (A ++ [.obj b (xs ++ src ++ sp)]) Q) : (Tree.eff (.app sh by_ (.lsl sh b 0 n cap) ys) k).wp P R Q := by
  subst hn
  obtain ⟨sp, rfl, hl, hc⟩ := hR
  have hg : (A ++ [Res.obj b (xs ++ sp)])[A.length]? = some (.obj b (xs ++ sp)) := by simp
  have hsl : src.length = ys.length * width sh := by rw [VleL.length hs, rowC_length hok]
  have hset : ∀ x, (A ++ [Res.obj b (xs ++ sp)]).set A.length x = A ++ [x] := by intro x; simp
  by_cases hroom : n + ys.length ≤ cap
  · refine ⟨src, hs, hok, .inr (.inl ⟨A.length, b, 0, n, cap, _, rfl, hg, hroom, by omega, ?_⟩)⟩
    have h1 : (n + ys.length) * width sh ≤ cap * width sh := Nat.mul_le_mul_right _ hroom
    rw [Nat.add_mul, ← hl, ← hx, ← hsl, List.length_append] at h1
    have h2 : splice (xs ++ sp) (0 + n * width sh) src = xs ++ src ++ sp.drop src.length := by
      rw [Nat.zero_add, ← hx, splice, List.take_left, show xs.length + src.length = xs.length + src.length from rfl, ← List.drop_drop, List.drop_left, List.append_assoc]
    rw [h2, hset]
    refine h b cap _ ?_ hroom
    rw [← hl]; simp; omega
  · refine ⟨src, hs, hok, .inr (.inr ⟨A.length, b, n, cap, _, rfl, hg, hl, hle, fun b' cap' sp' e1 e2 => ?_⟩)⟩
    rw [hset, ← hx, List.take_left]
    rw [← hx, List.take_left] at e1
    exact h b' cap' sp' e1 e2

/-- The same, to the slice that's nil. -/
theorem wp_appN {sh sh' : Option Nat} {by_ : Nat} {ys : List V} {k : V → Tree} (src : List V) (hs : VleL (rowC sh ys) src) (hok : ∀ y ∈ ys, okE sh y) (hle : ys.length * by_ ≤ 140737488355328)
    (h : ∀ (b cap : Nat) (sp : List V), (src ++ sp).length = cap * width sh → ys.length ≤ cap → (k (.lsl sh b 0 ys.length cap)).wp P (R ++ [.obj b (src ++ sp)]) Q) : (Tree.eff (.app sh by_ (.sl sh' [] .zero) ys) k).wp P R Q :=
  ⟨src, hs, hok, .inl ⟨sh', rfl, hle, h⟩⟩

end
end Go.Sv
/- Small laws that every walk uses. -/
namespace Go.Sv
open Go

theorem Vle.i64 {v : V} {y : Int} (x : Int) (h : v = .c (.int .i64 x)) (e : x = y) : Vle v (i64V y) := Vle.eq (h.trans (cI64 e))
theorem Vle.inc {v : V} (n : Nat) (h : v = .c (.int .i64 (IntKind.i64.wrap ((n : Int) + 1)))) (hn : n < 2 ^ 62) : Vle v (i64V ((n + 1 : Nat) : Int)) :=
  Vle.eq (h.trans (cI64 (by rw [w_i64]; omega)))
theorem Vle.of {v y : V} (x : V) (h : v = x) (e : x = y) : Vle v y := Vle.eq (h.trans e)
theorem VleL_eq {a b : List V} (h : a = b) : VleL a b := by subst h; exact VleL.refl _
/-- Sums that don't wrap. -/
theorem wadd {a b c : Int} (h : a + b = c) (h1 : -9223372036854775808 ≤ c) (h2 : c < 9223372036854775808) : IntKind.i64.wrap (a + b) = c := by rw [h, w_i64_small h1 h2]
theorem wsub {a b c : Int} (h : a - b = c) (h1 : -9223372036854775808 ≤ c) (h2 : c < 9223372036854775808) : IntKind.i64.wrap (a - b) = c := by rw [h, w_i64_small h1 h2]
theorem tmod_nat (a b : Nat) : ((a : Int).tmod (b : Int)) = ((a % b : Nat) : Int) := by rw [Int.tmod_eq_emod_of_nonneg (by omega)]; exact (Int.natCast_emod a b).symm

/-- Results of which the first lies in a cell: what comes back is told by values alone. -/
theorem w_ret3c {P : Program} {R : List Res} {fn : Func} {fr : Fr} {x t u : Tmp} {ty : TypeId} {cs : List V} {v0 a b c : V} {sh : Option Nat} (bl off i : Nat) (h : fn.results.toList = [.cell x ty, .tmp t, .tmp u]) (hx : fr x = .loc bl off) (hsh : shapeOf P ty = some sh)
    (hR : R[i]? = some (.obj bl cs)) (hp : partOf sh cs off = some v0) (ha : Vle v0 a) (hb : Vle (fr t) b) (hc : Vle (fr u) c) : (Tree.leaf .ret fr).wp P R (Ends P fn fun u _ => u = .tup [a, b, c]) :=
  ⟨.inr rfl, [v0, fr t, fr u], .tup [a, b, c], [], by rw [h]; exact ⟨bl, off, sh, i, cs, v0, _, hx, hsh, hR, hp, rfl, _, rfl, _, rfl, rfl⟩, UpdV.vle (Vle.tup (.cons ha (.cons hb (.cons hc .nil)))) (List.nil_sublist _), rfl⟩
theorem w_ret3cE {P : Program} {R : List Res} {fn : Func} {fr : Fr} {x t u : Tmp} {ty : TypeId} {cs : List V} {v0 a b c v : V} {sh : Option Nat} (bl off i : Nat) (h : fn.results.toList = [.cell x ty, .tmp t, .tmp u]) (hx : fr x = .loc bl off) (hsh : shapeOf P ty = some sh)
    (hR : R[i]? = some (.obj bl cs)) (hp : partOf sh cs off = some v0) (ha : Vle v0 a) (hb : Vle (fr t) b) (hc : Vle (fr u) c) (he : .tup [a, b, c] = v) : (Tree.leaf .ret fr).wp P R (Ends P fn fun u _ => u = v) := by
  subst he; exact w_ret3c bl off i h hx hsh hR hp ha hb hc
/-- Two results, both in cells. -/
theorem w_ret2cc {P : Program} {R : List Res} {fn : Func} {fr : Fr} {x y : Tmp} {tx ty : TypeId} {cs ds : List V} {v0 u0 a b : V} {sh sh' : Option Nat} (bl off i bl' off' j : Nat) (h : fn.results.toList = [.cell x tx, .cell y ty]) (hx : fr x = .loc bl off) (hy : fr y = .loc bl' off') (hsh : shapeOf P tx = some sh) (hsh' : shapeOf P ty = some sh')
    (hR : R[i]? = some (.obj bl cs)) (hR' : R[j]? = some (.obj bl' ds)) (hp : partOf sh cs off = some v0) (hp' : partOf sh' ds off' = some u0) (ha : Vle v0 a) (hb : Vle u0 b) : (Tree.leaf .ret fr).wp P R (Ends P fn fun u _ => u = .tup [a, b]) :=
  ⟨.inr rfl, [v0, u0], .tup [a, b], [], by rw [h]; exact ⟨bl, off, sh, i, cs, v0, _, hx, hsh, hR, hp, rfl, bl', off', sh', j, ds, u0, _, hy, hsh', hR', hp', rfl, rfl⟩, UpdV.vle (Vle.tup (.cons ha (.cons hb .nil))) (List.nil_sublist _), rfl⟩

/-- At a cut: of a truth value it is not told which. -/
theorem wp_cutB {P : Program} {R : List Res} {Q : Exit → Fr → List Res → Prop} {fr : Fr} {k : Fr → Tree} (s : Nat) (l : List (Nat × V)) (R1 : List Res) {b : Bool} (h : fr s = bV b) (h1 : Weak fr (frL l)) (h2 : R1.Sublist R) (h3 : ∀ b, (k (frL ((s, bV b) :: l))).wp P R1 Q) : (Tree.cut fr k).wp P R Q :=
  wp_cutR _ R1 (.cons (Vle.eq h) h1) h2 (h3 b)

theorem byte_at {s : List UInt8} {i : Nat} {c : UInt8} (h : s[i]? = some c) : byteAt (S s) i = c := by rw [S_byteAt, List.getD_eq_getElem?_getD, h]; rfl
theorem drop_at {α : Type} {s : List α} {i : Nat} {c : α} (h : s[i]? = some c) : s.drop i = c :: s.drop (i + 1) := by
  have hi := (List.getElem?_eq_some_iff.1 h).1
  rw [List.drop_eq_getElem_cons hi]
  congr 1
  exact (List.getElem?_eq_some_iff.1 h).2
theorem cByte {n m : Nat} (h : n = m) : V.c (.int .u8 (n : Int)) = V.c (.int .u8 (m : Int)) := by rw [h]
theorem strEq (l m : List UInt8) : ((S l).toList == (S m).toList) = decide (l = m) := by
  rw [S_toList, S_toList, Bool.eq_iff_iff]; simp
theorem dec_str (l m : List UInt8) : ((S l).toList == (S m).toList) = true ↔ l = m := by rw [strEq]; simp
theorem eqT {l m : List UInt8} (h : ((S l).toList == (S m).toList) = false) (e : l = m) : False := by
  rw [strEq, e] at h; simp at h
theorem flat_one {n : Nat} {v : V} : (List.replicate n [v]).flatten = List.replicate n v := by
  induction n with
  | zero => rfl
  | succ n ih => simp [List.replicate_succ]
theorem wp_ite_join {P : Program} {R : List Res} {Q : Exit → Fr → List Res → Prop} {b : Bool} {t f : Tree} {T : Prop} (h1 : T → b = true → t.wp P R Q) (h2 : T → b = false → f.wp P R Q) (rest : T) : (Tree.ite b t f).wp P R Q := ⟨h1 rest, h2 rest⟩
/-- What follows in every case, once. -/
theorem wp_joinT {A T : Prop} (h1 : T → A) (rest : T) : A := h1 rest
theorem map_byteOf (c : List UInt8) : (c.map byteV).map byteOf = c := by
  induction c with
  | nil => rfl
  | cons b c ih =>
    simp only [List.map_cons, ih]
    congr 1
    simp [byteOf, byteV]
theorem bytesStr (c : List UInt8) : V.c (.string ⟨((c.map byteV).map byteOf).toArray⟩) = str c := by rw [map_byteOf]; rfl
/-- One byte as a string. -/
theorem byteStr {v : V} {c : UInt8} (h : v = V.c (.string ⟨([byteV c].map byteOf).toArray⟩)) : Vle v (str [c]) := Vle.eq (h.trans (bytesStr [c]))
theorem addStr {v : V} (a b : List UInt8) (h : v = V.c (.string (S a ++ S b))) : Vle v (str (a ++ b)) := by rw [S_append] at h; exact Vle.eq h
theorem byteStrI {v : V} {x : Int} (c : UInt8) (hx : x = c.toNat) (h : v = V.c (.string ⟨([V.c (.int .u8 x)].map byteOf).toArray⟩)) : Vle v (str [c]) := by subst hx; exact byteStr h
theorem byteNeedI {x : Int} (c : UInt8) (hx : x = c.toNat) : ∀ v ∈ [V.c (.int .u8 x)], ∃ n : UInt8, v = V.c (.int .u8 n.toNat) := by subst hx; exact fun v hv => ⟨c, List.mem_singleton.1 hv⟩
theorem byteNeed (c : UInt8) : ∀ v ∈ [byteV c], ∃ n : UInt8, v = V.c (.int .u8 n.toNat) := fun _ hv => ⟨c, List.mem_singleton.1 hv⟩
theorem c_int_eq (c k : UInt8) (m : Int) (hm : (k.toNat : Int) = m) : ((c.toNat : Int) == m) = decide (c = k) := by
  subst hm
  rw [Bool.eq_iff_iff]
  simp only [beq_iff_eq, decide_eq_true_eq, Int.natCast_inj]
  exact UInt8.toNat_inj
theorem c_int_ne (c k : UInt8) (m : Int) (hm : (k.toNat : Int) = m) : ((c.toNat : Int) != m) = !decide (c = k) := by rw [bne, c_int_eq c k m hm]
/-- What a nil row's elements look like is not told. -/
def shOf (sh : Option Nat) (t : Option Nat) : Option Nat := match t with | none => none | some _ => sh
theorem shOf_eq {sh : Option Nat} {t : Option Nat} (h : t ≠ none) : shOf sh t = sh := by cases t with | none => exact absurd rfl h | some _ => rfl
/-- Appending where other things are owned beside the token. -/
theorem wp_append_x {P : Program} {Q : Exit → Fr → List Res → Prop} {A B : List Res} {sh : Option Nat} {by_ : Nat} {t : Option Nat} {xs ys : List V} {k : V → Tree} (hx : t = none → xs = []) (hok : ∀ y ∈ ys, okE sh y) (hle : (xs.length + ys.length) * by_ ≤ 140737488355328)
    (h : ∀ t' S, [Res.tok t' sh].Sublist S → (k (.sl sh (xs ++ ys) (.t t'))).wp P (A ++ S) Q) : (Tree.append sh by_ (.sl (shOf sh t) xs (tkOf t)) ys k).wp P (A ++ (tokR sh t ++ B)) Q := by
  cases t with
  | none =>
    have := hx rfl; subst this
    refine wp_append_nil hok (by simpa using hle) fun t' => ?_
    rw [List.append_assoc]
    exact h t' _ (List.sublist_append_right _ _)
  | some t =>
    refine wp_append_tok A.length (t := t) (by simp [tokR]) hok hle fun t' => ?_
    have : (A ++ (tokR sh (some t) ++ B)).set A.length (.tok t' sh) = A ++ ([.tok t' sh] ++ B) := by simp [tokR]
    rw [this]; exact h t' _ (List.sublist_append_left _ _)
end Go.Sv
/- The package value, as plain functions: values. -/
namespace Go.Sv
open Go

def okCh (c : UInt8) : Bool := decide (32 ≤ c.toNat) && decide (c.toNat ≤ 126)
def isTextB (s : List UInt8) : Bool := s.all okCh && decide (s.length ≤ 16)
structure Val where
  kind : Int
  n : Int
  s : List UInt8
  deriving DecidableEq
def valL (v : Val) : List V := [i64V v.kind, i64V v.n, str v.s]
def valV (v : Val) : V := .agg (valL v)
def valIs (v : Val) : Bool :=
  if v.kind = 1 then decide (v.s = [])
  else if v.kind = 2 then decide (v.n = 0) && isTextB v.s
  else if v.kind = 3 then (decide (v.n = 0) || decide (v.n = 1)) && decide (v.s = [])
  else false
end Go.Sv
/- Conditions, as plain functions. -/
namespace Go.Sv
open Go

inductive Ex where
  | mk (op : Int) (val : Val) (al fd : List UInt8) (kids : List Ex)
def Ex.op : Ex → Int | .mk o _ _ _ _ => o
def Ex.val : Ex → Val | .mk _ v _ _ _ => v
def Ex.al : Ex → List UInt8 | .mk _ _ a _ _ => a
def Ex.fd : Ex → List UInt8 | .mk _ _ _ f _ => f
def Ex.kids : Ex → List Ex | .mk _ _ _ _ l => l
def val0 : Val := ⟨0, 0, []⟩
def ex0 : Ex := .mk 0 val0 [] [] []

mutual
def exV : Ex → V
  | .mk o v a f l => .agg [i64V o, i64V v.kind, i64V v.n, str v.s, str a, str f, .sl (some 7) (exVs l) .no]
def exVs : List Ex → List V
  | [] => []
  | x :: l => exV x :: exVs l
end
theorem exVs_map (l : List Ex) : exVs l = l.map exV := by
  induction l with
  | nil => rw [exVs]; rfl
  | cons x l ih => rw [exVs, ih]; rfl
def exsV (l : List Ex) : V := .sl (some 7) (l.map exV) .no
def exC (x : Ex) : List V := [i64V x.op, i64V x.val.kind, i64V x.val.n, str x.val.s, str x.al, str x.fd, exsV x.kids]
theorem exV_eq (x : Ex) : exV x = .agg (exC x) := by
  cases x with
  | mk o v a f l => rw [exV, exVs_map]; rfl

/-- A name. -/
def isNm (s : List UInt8) : Bool := s.all isSm && (!decide (s = []) && decide (s.length ≤ 8))
def kidsN (op : Int) : Nat := if op = 12 then 1 else if 3 ≤ op ∧ op ≤ 11 then 2 else 0

/-- What is bounded in a condition of the model: texts, rows; with so many levels told. -/
def ExOk : Nat → Ex → Prop
  | 0, _ => True
  | k + 1, x => x.val.s.length < 2 ^ 60 ∧ x.al.length < 2 ^ 60 ∧ x.fd.length < 2 ^ 60 ∧ x.kids.length < 2 ^ 60 ∧ ∀ y ∈ x.kids, ExOk k y

def maxL (l : List Nat) : Nat := l.foldl max 0
def depthN : Nat → Ex → Nat
  | 0, _ => 0
  | k + 1, x => if x.op = 0 then 0 else maxL (x.kids.map (depthN k)) + 1
def nodesN : Nat → Ex → List Ex
  | 0, _ => []
  | k + 1, x => if x.op = 0 then [] else x :: x.kids.flatMap (nodesN k)

def hasV (x : Ex) : Bool := !decide (x.val = val0)
def hasF (x : Ex) : Bool := !decide (x.al = []) || !decide (x.fd = [])
def nodeB (x : Ex) : Bool :=
  if x.op < 1 ∨ 12 < x.op ∨ x.kids.length ≠ kidsN x.op then false
  else if x.kids.any (fun k => decide (k.op = 0)) then false
  else if x.op = 1 then valIs x.val && !hasF x
  else if x.op = 2 then !hasV x && (isNm x.al && isNm x.fd)
  else !hasV x && !hasF x
def isExB (x : Ex) : Bool := decide (depthN 20 x ≤ 5) && decide ((nodesN 20 x).length ≤ 24) && (nodesN 20 x).all nodeB && decide (0 < (nodesN 20 x).length)

/-- The reference's. -/
def shapedN : Nat → Ex → Bool
  | 0, _ => false
  | k + 1, x =>
    if x.op < 1 ∨ 12 < x.op ∨ x.kids.length ≠ kidsN x.op then false
    else if x.op = 1 then valIs x.val && !hasF x
    else if x.op = 2 then !hasV x && (isNm x.al && isNm x.fd)
    else x.kids.all (shapedN k) && (!hasV x && !hasF x)
def isExR (x : Ex) : Bool := shapedN 5 x && decide ((nodesN 20 x).length ≤ 24)
end Go.Sv
/- The package value: what is one. -/
namespace Go.Sv
open Go Go.Proofs

theorem okCh_false {c : UInt8} (h : okCh c = false) : ¬ (32 ≤ c.toNat ∧ c.toNat ≤ 126) := by
  simpa [okCh] using h

set_option maxRecDepth 100000 in
theorem istext_call (s : List UInt8) (hs : s.length < 2 ^ 60) : PCall Tryz.prog 108 [str s] (bV (isTextB s)) := by
  refine scall_of (live := []) (ords := []) Tryz.func108 rfl (by kernel_rfl) (by kernel_rfl) (Nat.le_of_ble_eq_true rfl) ?_
  (conv => arg 2; whnf); refine wp_loop (fun m fr R => ∃ n : Nat, m = s.length - n ∧ n ≤ s.length ∧ R = [] ∧ (s.take n).all okCh = true ∧ fr = frL [(0, str s), (5, i64V s.length), (6, i64V n)])
    s.length _ _ (.cons (.refl _) (.cons (.refl _) (.cons (.refl _) (.nil _)))) (List.Sublist.refl _) ⟨0, rfl, Nat.zero_le _, rfl, rfl, rfl⟩ ?_
  rintro m fr R ⟨n, rfl, hn, rfl, ha, rfl⟩
  (conv => arg 2; whnf); refine wp_ite (fun h => ?_) (fun h => ?_)
  · have h : n < s.length := by have := of_decide_eq_true h; omega
    obtain ⟨c, hc⟩ : ∃ c, s[n]? = some c := ⟨_, List.getElem?_eq_getElem h⟩
    have hb : byteAt (S s) (Int.toNat (n : Int)) = c := byte_at hc
    have hsplit : s = s.take n ++ c :: s.drop (n + 1) := by rw [← drop_at hc, List.take_append_drop]
    (conv => arg 2; whnf); refine wp_need (by rw [S_size]; omega) ?_
    rw [hb]
    (conv => arg 2; whnf); refine wp_ite (fun h1 => ?_) (fun h1 => ?_)
    · have h1 : c.toNat < 32 := by have := of_decide_eq_true h1; omega
      (repeat ((conv => arg 2; whnf); first | refine wp_ite (fun _ => ?_) (fun h => Bool.noConfusion h) | refine wp_ite (fun h => Bool.noConfusion h) (fun _ => ?_)))
      (conv => arg 2; whnf)
      refine wp_leaf (loop_ret ?_)
      (conv => arg 2; whnf); refine w_retp rfl (Vle.eq (cBool ?_))
      rw [hsplit, isTextB]
      have : okCh c = false := by rw [okCh, decide_eq_false (by omega : ¬ 32 ≤ c.toNat), Bool.false_and]
      simp [this]
    · have h1 : 32 ≤ c.toNat := by have := of_decide_eq_false h1; omega
      (conv => arg 2; whnf); refine wp_need (by rw [S_size]; omega) ?_
      rw [hb]
      (conv => arg 2; whnf); refine wp_ite (fun h2 => ?_) (fun h2 => ?_)
      · have h2 : 126 < c.toNat := by have := of_decide_eq_true h2; omega
        (repeat ((conv => arg 2; whnf); first | refine wp_ite (fun _ => ?_) (fun h => Bool.noConfusion h) | refine wp_ite (fun h => Bool.noConfusion h) (fun _ => ?_)))
        (conv => arg 2; whnf)
        refine wp_leaf (loop_ret ?_)
        (conv => arg 2; whnf); refine w_retp rfl (Vle.eq (cBool ?_))
        rw [hsplit, isTextB]
        have : okCh c = false := by rw [okCh, decide_eq_false (by omega : ¬ c.toNat ≤ 126), Bool.and_false]
        simp [this]
      · have h2 : c.toNat ≤ 126 := by have := of_decide_eq_false h2; omega
        (repeat ((conv => arg 2; whnf); first | refine wp_ite (fun _ => ?_) (fun h => Bool.noConfusion h) | refine wp_ite (fun h => Bool.noConfusion h) (fun _ => ?_)))
        (conv => arg 2; whnf)
        refine wp_leaf (loop_next (s.length - (n + 1)) _ _ (by omega) (.cons (.refl _) (.cons (.refl _) (.cons (Vle.inc n rfl (by omega)) (.nil _)))) (List.Sublist.refl _) ⟨n + 1, rfl, h, rfl, ?_, rfl⟩)
        rw [List.take_add_one, hc, List.all_append, ha]
        have : okCh c = true := by rw [okCh, decide_eq_true h1, decide_eq_true h2]; rfl
        simp [this]
  · have h : n = s.length := by have := of_decide_eq_false h; omega
    subst h
    rw [List.take_length] at ha
    (repeat ((conv => arg 2; whnf); first | refine wp_ite (fun _ => ?_) (fun h => Bool.noConfusion h) | refine wp_ite (fun h => Bool.noConfusion h) (fun _ => ?_)))
    (conv => arg 2; whnf)
    refine wp_leaf (loop_exit ?_)
    (conv => arg 2; whnf); refine w_retp rfl (Vle.eq (cBool ?_))
    rw [isTextB, ha, Bool.true_and]
    exact decide_eq_decide.2 (by rw [S_size]; omega)

theorem nilS {l : List UInt8} : ((S l).toList == (⟨#[]⟩ : ByteArray).toList) = decide (l = []) := strEq l []

set_option maxRecDepth 100000 in
theorem valueis_call (v : Val) (hs : v.s.length < 2 ^ 60) : PCall Tryz.prog 94 [valV v] (bV (valIs v)) := by
  obtain ⟨k, n, s⟩ := v
  refine scall_of (live := []) (ords := []) Tryz.func94 rfl (by kernel_rfl) (by kernel_rfl) (Nat.le_of_ble_eq_true rfl) ?_
  (conv => arg 2; whnf); refine wp_ite (fun h1 => ?_) (fun h1 => ?_)
  · have h1 : k = 1 := by simpa using h1
    (conv => arg 2; whnf); refine w_retp rfl (Vle.eq (cBool ?_))
    rw [valIs, if_pos h1]; exact nilS
  have h1 : k ≠ 1 := by simpa using h1
  (conv => arg 2; whnf); refine wp_ite (fun h2 => ?_) (fun h2 => ?_)
  · have h2 : k = 2 := by simpa using h2
    (conv => arg 2; whnf); refine wp_ite (fun h3 => ?_) (fun h3 => ?_)
    · have h3 : n = 0 := by simpa using h3
      (conv => arg 2; whnf); refine wp_pcall (istext_call s hs) ?_
      (conv => arg 2; whnf); refine w_retp rfl (Vle.eq (cBool ?_))
      rw [valIs, if_neg h1, if_pos h2, decide_eq_true h3]; rfl
    · have h3 : n ≠ 0 := by simpa using h3
      (conv => arg 2; whnf); refine w_retp rfl (Vle.eq (cBool ?_))
      rw [valIs, if_neg h1, if_pos h2, decide_eq_false h3]; rfl
  have h2 : k ≠ 2 := by simpa using h2
  (conv => arg 2; whnf); refine wp_ite (fun h3 => ?_) (fun h3 => ?_)
  · have h3 : k = 3 := by simpa using h3
    (conv => arg 2; whnf); refine wp_ite (fun h4 => ?_) (fun h4 => ?_)
    · have h4 : n = 0 := by simpa using h4
      (repeat ((conv => arg 2; whnf); first | refine wp_ite (fun _ => ?_) (fun h => Bool.noConfusion h) | refine wp_ite (fun h => Bool.noConfusion h) (fun _ => ?_)))
      (conv => arg 2; whnf); refine w_retp rfl (Vle.eq (cBool ?_))
      rw [valIs, if_neg h1, if_neg h2, if_pos h3, decide_eq_true h4]; exact nilS
    · have h4 : n ≠ 0 := by simpa using h4
      (conv => arg 2; whnf); refine wp_ite (fun h5 => ?_) (fun h5 => ?_)
      · have h5 : n = 1 := by simpa using h5
        (conv => arg 2; whnf); refine w_retp rfl (Vle.eq (cBool ?_))
        rw [valIs, if_neg h1, if_neg h2, if_pos h3, decide_eq_false h4, decide_eq_true h5]; exact nilS
      · have h5 : n ≠ 1 := by simpa using h5
        (conv => arg 2; whnf); refine w_retp rfl (Vle.eq (cBool ?_))
        rw [valIs, if_neg h1, if_neg h2, if_pos h3, decide_eq_false h4, decide_eq_false h5]; rfl
  have h3 : k ≠ 3 := by simpa using h3
  (conv => arg 2; whnf); refine w_retp rfl (Vle.eq (cBool ?_))
  rw [valIs, if_neg h1, if_neg h2, if_neg h3]
end Go.Sv
/- Names; how many kids. -/
namespace Go.Sv
open Go Go.Proofs

theorem kidsN_12 {op : Int} (h : op = 12) : kidsN op = 1 := by rw [kidsN, if_pos h]
theorem kidsN_2 {op : Int} (h : 3 ≤ op) (h' : op ≤ 11) : kidsN op = 2 := by rw [kidsN, if_neg (by omega), if_pos ⟨h, h'⟩]
theorem kidsN_0 {op : Int} (h : op ≠ 12) (h' : op < 3 ∨ 11 < op) : kidsN op = 0 := by rw [kidsN, if_neg h, if_neg (by omega)]

set_option maxRecDepth 100000 in
theorem kids_call (op : Int) : PCall Tryz.prog 114 [i64V op] (i64V (kidsN op)) := by
  refine scall_of (live := []) (ords := []) Tryz.func114 rfl (by kernel_rfl) (by kernel_rfl) (Nat.le_of_ble_eq_true rfl) ?_
  (conv => arg 2; whnf); refine wp_ite (fun h1 => ?_) (fun h1 => ?_)
  · have h1 : op = 12 := by simpa using h1
    (conv => arg 2; whnf); refine w_retp rfl (Vle.eq ?_)
    rw [kidsN_12 h1]; rfl
  have h1 : op ≠ 12 := by simpa using h1
  (conv => arg 2; whnf); refine wp_ite (fun h2 => ?_) (fun h2 => ?_)
  · have h2 : 3 ≤ op := by simpa using h2
    (conv => arg 2; whnf); refine wp_ite (fun h3 => ?_) (fun h3 => ?_)
    · have h3 : op ≤ 11 := by simpa using h3
      (conv => arg 2; whnf); refine w_retp rfl (Vle.eq ?_)
      rw [kidsN_2 h2 h3]; rfl
    · have h3 : 11 < op := by simpa using h3
      (conv => arg 2; whnf); refine w_retp rfl (Vle.eq ?_)
      rw [kidsN_0 h1 (.inr h3)]; rfl
  · have h2 : op < 3 := by simpa using h2
    (repeat ((conv => arg 2; whnf); first | refine wp_ite (fun _ => ?_) (fun h => Bool.noConfusion h) | refine wp_ite (fun h => Bool.noConfusion h) (fun _ => ?_)))
    (conv => arg 2; whnf); refine w_retp rfl (Vle.eq ?_)
    rw [kidsN_0 h1 (.inl h2)]; rfl

set_option maxRecDepth 100000 in
theorem refkids_call (op : Int) : PCall Tryz.prog 80 [i64V op] (i64V (kidsN op)) := by
  refine scall_of (live := []) (ords := []) Tryz.func80 rfl (by kernel_rfl) (by kernel_rfl) (Nat.le_of_ble_eq_true rfl) ?_
  (conv => arg 2; whnf); refine wp_ite (fun h1 => ?_) (fun h1 => ?_)
  · have h1 : op = 12 := by simpa using h1
    (conv => arg 2; whnf); refine w_retp rfl (Vle.eq ?_)
    rw [kidsN_12 h1]; rfl
  have h1 : op ≠ 12 := by simpa using h1
  (conv => arg 2; whnf); refine wp_ite (fun h2 => ?_) (fun h2 => ?_)
  · have h2 : 3 ≤ op := by simpa using h2
    (conv => arg 2; whnf); refine wp_ite (fun h3 => ?_) (fun h3 => ?_)
    · have h3 : op ≤ 11 := by simpa using h3
      (conv => arg 2; whnf); refine w_retp rfl (Vle.eq ?_)
      rw [kidsN_2 h2 h3]; rfl
    · have h3 : 11 < op := by simpa using h3
      (conv => arg 2; whnf); refine w_retp rfl (Vle.eq ?_)
      rw [kidsN_0 h1 (.inr h3)]; rfl
  · have h2 : op < 3 := by simpa using h2
    (repeat ((conv => arg 2; whnf); first | refine wp_ite (fun _ => ?_) (fun h => Bool.noConfusion h) | refine wp_ite (fun h => Bool.noConfusion h) (fun _ => ?_)))
    (conv => arg 2; whnf); refine w_retp rfl (Vle.eq ?_)
    rw [kidsN_0 h1 (.inl h2)]; rfl

theorem isSm_false {c : UInt8} (h : c.toNat < 97 ∨ 122 < c.toNat) : isSm c = false := by
  rw [isSm]; rcases h with h | h
  · rw [decide_eq_false (by omega : ¬ 97 ≤ c.toNat), Bool.false_and]
  · rw [decide_eq_false (by omega : ¬ c.toNat ≤ 122), Bool.and_false]
theorem isSm_true {c : UInt8} (h1 : 97 ≤ c.toNat) (h2 : c.toNat ≤ 122) : isSm c = true := by
  rw [isSm, decide_eq_true h1, decide_eq_true h2]; rfl
theorem isNm_bad {s : List UInt8} {n : Nat} {c : UInt8} (h : s[n]? = some c) (hc : isSm c = false) : isNm s = false := by
  have hsplit : s = s.take n ++ c :: s.drop (n + 1) := by rw [← drop_at h, List.take_append_drop]
  rw [isNm, hsplit]; simp [hc]
theorem isSm_next {s : List UInt8} {n : Nat} {c : UInt8} (h : s[n]? = some c) (ha : (s.take n).all isSm = true) (hc : isSm c = true) : (s.take (n + 1)).all isSm = true := by
  rw [List.take_add_one, h, List.all_append, ha]; simp [hc]
theorem isNm_end {s : List UInt8} (ha : s.all isSm = true) (h : 1 ≤ s.length) : decide ((s.length : Int) ≤ 8) = isNm s := by
  rw [isNm, ha, decide_eq_false (by intro e; subst e; simp at h : ¬ s = [])]
  simp only [Bool.true_and, Bool.not_false]
  exact decide_eq_decide.2 (by omega)
theorem isNm_nil : isNm [] = false := rfl

set_option maxRecDepth 100000 in
theorem name_call (s : List UInt8) (hs : s.length < 2 ^ 60) : PCall Tryz.prog 47 [str s] (bV (isNm s)) := by
  refine scall_of (live := []) (ords := []) Tryz.func47 rfl (by kernel_rfl) (by kernel_rfl) (Nat.le_of_ble_eq_true rfl) ?_
  (conv => arg 2; whnf); refine wp_loop (fun m fr R => ∃ n : Nat, m = s.length - n ∧ n ≤ s.length ∧ R = [] ∧ (s.take n).all isSm = true ∧ fr = frL [(0, str s), (5, i64V s.length), (6, i64V n)])
    s.length _ _ (.cons (.refl _) (.cons (.refl _) (.cons (.refl _) (.nil _)))) (List.Sublist.refl _) ⟨0, rfl, Nat.zero_le _, rfl, rfl, rfl⟩ ?_
  rintro m fr R ⟨n, rfl, hn, rfl, ha, rfl⟩
  (conv => arg 2; whnf); refine wp_ite (fun h => ?_) (fun h => ?_)
  · have h : n < s.length := by have := of_decide_eq_true h; omega
    obtain ⟨c, hc⟩ : ∃ c, s[n]? = some c := ⟨_, List.getElem?_eq_getElem h⟩
    have hb : byteAt (S s) (Int.toNat (n : Int)) = c := byte_at hc
    (conv => arg 2; whnf); refine wp_need (by rw [S_size]; omega) ?_
    rw [hb]
    (conv => arg 2; whnf); refine wp_ite (fun h1 => ?_) (fun h1 => ?_)
    · have h1 : c.toNat < 97 := by have := of_decide_eq_true h1; omega
      (repeat ((conv => arg 2; whnf); first | refine wp_ite (fun _ => ?_) (fun h => Bool.noConfusion h) | refine wp_ite (fun h => Bool.noConfusion h) (fun _ => ?_)))
      (conv => arg 2; whnf)
      refine wp_leaf (loop_ret ?_)
      (conv => arg 2; whnf); refine w_retp rfl (Vle.eq (cBool (isNm_bad hc (isSm_false (.inl h1))).symm))
    · have h1 : 97 ≤ c.toNat := by have := of_decide_eq_false h1; omega
      (conv => arg 2; whnf); refine wp_need (by rw [S_size]; omega) ?_
      rw [hb]
      (conv => arg 2; whnf); refine wp_ite (fun h2 => ?_) (fun h2 => ?_)
      · have h2 : 122 < c.toNat := by have := of_decide_eq_true h2; omega
        (repeat ((conv => arg 2; whnf); first | refine wp_ite (fun _ => ?_) (fun h => Bool.noConfusion h) | refine wp_ite (fun h => Bool.noConfusion h) (fun _ => ?_)))
        (conv => arg 2; whnf)
        refine wp_leaf (loop_ret ?_)
        (conv => arg 2; whnf); refine w_retp rfl (Vle.eq (cBool (isNm_bad hc (isSm_false (.inr h2))).symm))
      · have h2 : c.toNat ≤ 122 := by have := of_decide_eq_false h2; omega
        (repeat ((conv => arg 2; whnf); first | refine wp_ite (fun _ => ?_) (fun h => Bool.noConfusion h) | refine wp_ite (fun h => Bool.noConfusion h) (fun _ => ?_)))
        (conv => arg 2; whnf)
        refine wp_leaf (loop_next (s.length - (n + 1)) _ _ (by omega) (.cons (.refl _) (.cons (.refl _) (.cons (Vle.inc n rfl (by omega)) (.nil _)))) (List.Sublist.refl _) ⟨n + 1, rfl, h, rfl, isSm_next hc ha (isSm_true h1 h2), rfl⟩)
  · have h : n = s.length := by have := of_decide_eq_false h; omega
    subst h
    rw [List.take_length] at ha
    (repeat ((conv => arg 2; whnf); first | refine wp_ite (fun _ => ?_) (fun h => Bool.noConfusion h) | refine wp_ite (fun h => Bool.noConfusion h) (fun _ => ?_)))
    (conv => arg 2; whnf)
    refine wp_leaf (loop_exit ?_)
    (conv => arg 2; whnf); refine wp_ite (fun h1 => ?_) (fun h1 => ?_)
    · have h1 : s ≠ [] := by
        intro e
        have : ((S s).toList == (⟨#[]⟩ : ByteArray).toList) = true := (nilS).trans (decide_eq_true e)
        simp_all
      (conv => arg 2; whnf); refine w_retp rfl (Vle.eq (cBool ?_))
      refine Eq.trans ?_ (isNm_end ha (by cases s with | nil => exact absurd rfl h1 | cons _ _ => simp))
      exact decide_eq_decide.2 (by rw [S_size])
    · have h1 : s = [] := by
        have : ((S s).toList == (⟨#[]⟩ : ByteArray).toList) = decide (s = []) := nilS
        simp_all
      subst h1
      (conv => arg 2; whnf); refine w_retp rfl (Vle.eq (cBool isNm_nil.symm))

set_option maxRecDepth 100000 in
theorem refname_call (s : List UInt8) (hs : s.length < 2 ^ 60) : PCall Tryz.prog 25 [str s] (bV (isNm s)) := by
  refine scall_of (live := []) (ords := []) Tryz.func25 rfl (by kernel_rfl) (by kernel_rfl) (Nat.le_of_ble_eq_true rfl) ?_
  (conv => arg 2; whnf); refine wp_loop (fun m fr R => ∃ n : Nat, m = s.length - n ∧ n ≤ s.length ∧ R = [] ∧ (s.take n).all isSm = true ∧ fr = frL [(0, str s), (3, i64V n)])
    s.length _ _ (.cons (.refl _) (.cons (.refl _) (.nil _))) (List.Sublist.refl _) ⟨0, rfl, Nat.zero_le _, rfl, rfl, rfl⟩ ?_
  rintro m fr R ⟨n, rfl, hn, rfl, ha, rfl⟩
  (conv => arg 2; whnf); refine wp_ite (fun h => ?_) (fun h => ?_)
  · have h : n < s.length := by have := of_decide_eq_true h; rw [S_size] at this; omega
    obtain ⟨c, hc⟩ : ∃ c, s[n]? = some c := ⟨_, List.getElem?_eq_getElem h⟩
    have hb : byteAt (S s) (Int.toNat (n : Int)) = c := byte_at hc
    (conv => arg 2; whnf); refine wp_need (by rw [S_size]; omega) ?_
    rw [hb]
    (conv => arg 2; whnf); refine wp_ite (fun h1 => ?_) (fun h1 => ?_)
    · have h1 : c.toNat < 97 := by have := of_decide_eq_true h1; omega
      (repeat ((conv => arg 2; whnf); first | refine wp_ite (fun _ => ?_) (fun h => Bool.noConfusion h) | refine wp_ite (fun h => Bool.noConfusion h) (fun _ => ?_)))
      (conv => arg 2; whnf)
      refine wp_leaf (loop_ret ?_)
      (conv => arg 2; whnf); refine w_retp rfl (Vle.eq (cBool (isNm_bad hc (isSm_false (.inl h1))).symm))
    · have h1 : 97 ≤ c.toNat := by have := of_decide_eq_false h1; omega
      (conv => arg 2; whnf); refine wp_need (by rw [S_size]; omega) ?_
      rw [hb]
      (conv => arg 2; whnf); refine wp_ite (fun h2 => ?_) (fun h2 => ?_)
      · have h2 : 122 < c.toNat := by have := of_decide_eq_true h2; omega
        (repeat ((conv => arg 2; whnf); first | refine wp_ite (fun _ => ?_) (fun h => Bool.noConfusion h) | refine wp_ite (fun h => Bool.noConfusion h) (fun _ => ?_)))
        (conv => arg 2; whnf)
        refine wp_leaf (loop_ret ?_)
        (conv => arg 2; whnf); refine w_retp rfl (Vle.eq (cBool (isNm_bad hc (isSm_false (.inr h2))).symm))
      · have h2 : c.toNat ≤ 122 := by have := of_decide_eq_false h2; omega
        (repeat ((conv => arg 2; whnf); first | refine wp_ite (fun _ => ?_) (fun h => Bool.noConfusion h) | refine wp_ite (fun h => Bool.noConfusion h) (fun _ => ?_)))
        (conv => arg 2; whnf)
        refine wp_leaf (loop_next (s.length - (n + 1)) _ _ (by omega) (.cons (.refl _) (.cons (Vle.inc n rfl (by omega)) (.nil _))) (List.Sublist.refl _) ⟨n + 1, rfl, h, rfl, isSm_next hc ha (isSm_true h1 h2), rfl⟩)
  · have h : n = s.length := by have := of_decide_eq_false h; rw [S_size] at this; omega
    subst h
    rw [List.take_length] at ha
    (repeat ((conv => arg 2; whnf); first | refine wp_ite (fun _ => ?_) (fun h => Bool.noConfusion h) | refine wp_ite (fun h => Bool.noConfusion h) (fun _ => ?_)))
    (conv => arg 2; whnf)
    refine wp_leaf (loop_exit ?_)
    (conv => arg 2; whnf); refine wp_ite (fun h1 => ?_) (fun h1 => ?_)
    · have h1 : 1 ≤ s.length := by have := of_decide_eq_true h1; rw [S_size] at this; omega
      (conv => arg 2; whnf); refine w_retp rfl (Vle.eq (cBool ?_))
      refine Eq.trans ?_ (isNm_end ha h1)
      exact decide_eq_decide.2 (by rw [S_size])
    · have h1 : s = [] := by have := of_decide_eq_false h1; rw [S_size] at this; exact List.length_eq_zero_iff.1 (by omega)
      subst h1
      (conv => arg 2; whnf); refine w_retp rfl (Vle.eq (cBool isNm_nil.symm))
end Go.Sv
/- How deep a condition is; its nodes, one by one. -/
namespace Go.Sv
open Go Go.Proofs

theorem maxL_snoc (l : List Nat) (a : Nat) : maxL (l ++ [a]) = max (maxL l) a := by simp [maxL]
theorem foldl_max_le {k : Nat} : ∀ (l : List Nat) (b : Nat), b ≤ k → (∀ a ∈ l, a ≤ k) → l.foldl max b ≤ k
  | [], b, hb, _ => hb
  | a :: l, b, hb, h => foldl_max_le l _ (Nat.max_le.2 ⟨hb, h a (by simp)⟩) fun c hc => h c (by simp [hc])
theorem maxL_le {k : Nat} {l : List Nat} (h : ∀ a ∈ l, a ≤ k) : maxL l ≤ k := foldl_max_le l 0 (Nat.zero_le _) h
theorem maxL_take {α : Type} {f : α → Nat} {l : List α} {n : Nat} {y : α} (h : l[n]? = some y) : maxL ((l.take (n + 1)).map f) = max (maxL ((l.take n).map f)) (f y) := by
  rw [List.take_add_one, h, List.map_append]; exact maxL_snoc _ _
theorem depthN_le : ∀ (k : Nat) (x : Ex), depthN k x ≤ k
  | 0, _ => Nat.le_refl _
  | k + 1, x => by
    rw [depthN]
    split
    · exact Nat.zero_le _
    · refine Nat.succ_le_succ (maxL_le fun a ha => ?_)
      obtain ⟨y, _, rfl⟩ := List.mem_map.1 ha
      exact depthN_le k y
theorem depthN_op {k : Nat} {x : Ex} (h : x.op = 0) : depthN (k + 1) x = 0 := by rw [depthN, if_pos h]
theorem depthN_kids {k : Nat} {x : Ex} (h : x.op ≠ 0) : depthN (k + 1) x = maxL (x.kids.map (depthN k)) + 1 := by rw [depthN, if_neg h]
theorem nodesN_op {k : Nat} {x : Ex} (h : x.op = 0) : nodesN (k + 1) x = [] := by rw [nodesN, if_pos h]
theorem nodesN_kids {k : Nat} {x : Ex} (h : x.op ≠ 0) : nodesN (k + 1) x = x :: x.kids.flatMap (nodesN k) := by rw [nodesN, if_neg h]
theorem kid_at {x y : Ex} {n : Nat} (h : x.kids[n]? = some y) : (x.kids.map exV)[n]? = some (.agg (exC y)) := by rw [List.getElem?_map, h, ← exV_eq]; rfl
theorem exOk_kid {k n : Nat} {x y : Ex} (h : ExOk (k + 1) x) (hy : x.kids[n]? = some y) : ExOk k y := h.2.2.2.2 y (List.mem_of_getElem? hy)

set_option maxRecDepth 100000 in
theorem depth_call : ∀ (k : Nat) (x : Ex) (at_ : Nat), at_ + k = 21 → ExOk k x → PCall Tryz.prog 112 [exV x, i64V at_] (i64V (depthN k x)) := by
  intro k
  induction k with
  | zero =>
    intro x at_ hat _
    rw [exV_eq]
    refine scall_of (live := []) (ords := []) Tryz.func112 rfl (by kernel_rfl) (by kernel_rfl) (Nat.le_of_ble_eq_true rfl) ?_
    (conv => arg 2; whnf); refine wp_ite (fun h1 => ?_) (fun h1 => ?_)
    · (repeat ((conv => arg 2; whnf); first | refine wp_ite (fun _ => ?_) (fun h => Bool.noConfusion h) | refine wp_ite (fun h => Bool.noConfusion h) (fun _ => ?_)))
      (conv => arg 2; whnf); refine w_retp rfl (Vle.eq rfl)
    · (conv => arg 2; whnf); refine wp_ite (fun h2 => ?_) (fun h2 => ?_)
      · (conv => arg 2; whnf); refine w_retp rfl (Vle.eq rfl)
      · have h2 : ¬ (20 < (at_ : Int)) := of_decide_eq_false h2
        omega
  | succ k ih =>
    intro x at_ hat hok
    rw [exV_eq]
    refine scall_of (live := []) (ords := []) Tryz.func112 rfl (by kernel_rfl) (by kernel_rfl) (Nat.le_of_ble_eq_true rfl) ?_
    (conv => arg 2; whnf); refine wp_ite (fun h1 => ?_) (fun h1 => ?_)
    · have h1 : x.op = 0 := by simpa using h1
      (repeat ((conv => arg 2; whnf); first | refine wp_ite (fun _ => ?_) (fun h => Bool.noConfusion h) | refine wp_ite (fun h => Bool.noConfusion h) (fun _ => ?_)))
      (conv => arg 2; whnf); refine w_retp rfl (Vle.eq ?_)
      rw [depthN_op h1]; rfl
    have h1 : x.op ≠ 0 := by simpa using h1
    (conv => arg 2; whnf); refine wp_ite (fun h2 => ?_) (fun h2 => ?_)
    · have h2 : 20 < (at_ : Int) := of_decide_eq_true h2
      omega
    have hl := hok.2.2.2.1
    (conv => arg 2; whnf); refine wp_loop (fun m fr R => ∃ n : Nat, m = x.kids.length - n ∧ n ≤ x.kids.length ∧ R = [] ∧ fr = frL [(1, i64V at_), (5, i64V (maxL ((x.kids.take n).map (depthN k)) : Nat)), (16, exsV x.kids), (17, i64V x.kids.length), (18, i64V n)])
      x.kids.length _ _ (.cons (.refl _) (.cons (.refl _) (.cons (.refl _) (.cons (Vle.eq ?_) (.cons (.refl _) (.nil _)))))) (List.Sublist.refl _) ⟨0, rfl, Nat.zero_le _, rfl, rfl⟩ ?_
    · show V.c (.int .i64 (x.kids.map exV).length) = _
      rw [List.length_map]; rfl
    rintro m fr R ⟨n, rfl, hn, rfl, rfl⟩
    (conv => arg 2; whnf); refine wp_ite (fun h => ?_) (fun h => ?_)
    · have h : n < x.kids.length := by have := of_decide_eq_true h; omega
      obtain ⟨y, hy⟩ : ∃ y, x.kids[n]? = some y := ⟨_, List.getElem?_eq_getElem h⟩
      have hc := ih y (at_ + 1) (by omega) (exOk_kid hok hy)
      have hd := depthN_le k y
      rw [exV_eq] at hc
      (conv => arg 2; whnf); refine wp_elem n (.agg (exC y)) rfl (kid_at hy) (Vle.refl _) ?_
      (conv => arg 2; whnf); refine wp_allocE _ rfl fun b => ?_
      (conv => arg 2; whnf); refine wp_storeE 0 0 (exC y) rfl rfl (VleL.refl _) (Nat.le_refl _) rfl (R' := [.obj b (exC y)]) rfl ?_
      (conv => arg 2; whnf); refine wp_load 0 rfl rfl ?_
      (conv => arg 2; whnf); refine wp_pcallV (.cons (.refl _) (.cons (Vle.i64 _ rfl (wadd (by omega : (at_ : Int) + 1 = ((at_ + 1 : Nat) : Int)) (by omega) (by omega))) .nil)) hc ?_
      (conv => arg 2; whnf)
      refine wp_leaf (loop_next (x.kids.length - (n + 1)) _ _ (by omega) (.cons (.refl _) (.cons (Vle.i64 _ rfl ?_) (.cons (.refl _) (.cons (.refl _) (.cons (Vle.inc n rfl (by omega)) (.nil _)))))) (List.nil_sublist _) ⟨n + 1, rfl, h, rfl, rfl⟩)
      rw [maxL_take hy]; omega
    · have h : n = x.kids.length := by have := of_decide_eq_false h; omega
      subst h
      (conv => arg 2; whnf)
      refine wp_leaf (loop_exit ?_)
      (conv => arg 2; whnf); refine w_retp rfl (Vle.i64 _ rfl ?_)
      rw [List.take_length]
      have := maxL_le (k := k) (l := x.kids.map (depthN k)) fun a ha => by obtain ⟨y, _, rfl⟩ := List.mem_map.1 ha; exact depthN_le k y
      rw [depthN_kids h1]
      exact wadd (by omega) (by omega) (by omega)

set_option maxRecDepth 100000 in
theorem Depth_call (x : Ex) (hok : ExOk 20 x) : PCall Tryz.prog 100 [exV x] (i64V (depthN 20 x)) := by
  have hc := depth_call 20 x 1 (by omega) hok
  rw [exV_eq] at hc ⊢
  refine scall_of (live := []) (ords := []) Tryz.func100 rfl (by kernel_rfl) (by kernel_rfl) (Nat.le_of_ble_eq_true rfl) ?_
  (conv => arg 2; whnf); refine wp_pcall hc ?_
  (conv => arg 2; whnf); refine w_retp rfl (Vle.refl _)
end Go.Sv
