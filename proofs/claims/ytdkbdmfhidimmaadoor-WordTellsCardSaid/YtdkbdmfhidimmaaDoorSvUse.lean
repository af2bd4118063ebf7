/- The rules, as they are used. -/
import Derived.Test.YtdkbdmfhidimmaaDoorSvFunc
namespace Go.Sv
open Go

/-- A frame written out. -/
def frL : List (Nat × V) → Fr
  | [], _ => .undef
  | (k, v) :: l, t => bif Nat.beq t k then v else frL l t

theorem Vle.eq {a b : V} (h : a = b) : Vle a b := by subst h; exact Vle.refl _
theorem Weak.refl (fr : Fr) : Weak fr fr := fun _ => Vle.refl _
theorem Weak.nil (fr : Fr) : Weak fr (frL []) := fun _ => Vle.undef _
theorem Weak.cons {fr : Fr} {k : Nat} {v : V} {l : List (Nat × V)} (h : Vle (fr k) v) (hs : Weak fr (frL l)) : Weak fr (frL ((k, v) :: l)) := fun t => by
  simp only [frL]
  cases e : Nat.beq t k with
  | true => rw [Nat.eq_of_beq_eq_true e]; exact h
  | false => exact hs t

section
variable {P : Program} {R : List Res} {Q : Exit → Fr → List Res → Prop}

theorem wp_ite {b : Bool} {t f : Tree} (h1 : b = true → t.wp P R Q) (h2 : b = false → f.wp P R Q) : (Tree.ite b t f).wp P R Q := ⟨h1, h2⟩
theorem wp_need {p : Prop} {t : Tree} (h1 : p) (h2 : t.wp P R Q) : (Tree.need p t).wp P R Q := ⟨h1, h2⟩
theorem wp_load {b off : Nat} {sh : Option Nat} {k : V → Tree} (i : Nat) {cs : List V} {v : V} (h1 : R[i]? = some (.obj b cs)) (h2 : partOf sh cs off = some v) (h3 : (k v).wp P R Q) : (Tree.load b off sh k).wp P R Q := ⟨i, cs, v, h1, h2, h3⟩
theorem wp_store {b off : Nat} {vs : List V} {t : Tree} (i : Nat) {cs us : List V} (h1 : R[i]? = some (.obj b cs)) (h2 : VleL vs us) (h3 : off + us.length ≤ cs.length) (h4 : vs.all oneV = true) (h5 : t.wp P (R.set i (.obj b (splice cs off us))) Q) :
    (Tree.store b off vs t).wp P R Q := ⟨i, cs, us, h1, h2, h3, fun v hv => List.all_eq_true.1 h4 v hv, h5⟩
theorem wp_store' {b off : Nat} {vs : List V} {t : Tree} (i : Nat) {cs : List V} (h1 : R[i]? = some (.obj b cs)) (h3 : off + vs.length ≤ cs.length) (h4 : vs.all oneV = true) (h5 : t.wp P (R.set i (.obj b (splice cs off vs))) Q) :
    (Tree.store b off vs t).wp P R Q := wp_store i h1 (VleL.refl _) h3 h4 h5
theorem wp_alloc {cs : List V} {k : V → Tree} (h : ∀ b, (k (.loc b 0)).wp P (R ++ [.obj b cs]) Q) : (Tree.alloc cs k).wp P R Q := fun b _ => h b
theorem wp_allocE {cs : List V} {k : V → Tree} (cs' : List V) (hc : cs = cs') (h : ∀ b, (k (.loc b 0)).wp P (R ++ [.obj b cs']) Q) : (Tree.alloc cs k).wp P R Q := by subst hc; exact fun b _ => h b
theorem wp_allocD {cs : List V} {k : V → Tree} (cs' : List V) (hc : cs = cs') (h : ∀ b, Fresh R b → (k (.loc b 0)).wp P (R ++ [.obj b cs']) Q) : (Tree.alloc cs k).wp P R Q := by subst hc; exact h
theorem wp_append_nil {sh sh' : Option Nat} {by_ : Nat} {ys : List V} {k : V → Tree} (hok : ∀ y ∈ ys, okE sh y) (hle : ys.length * by_ ≤ 140737488355328) (h : ∀ t, (k (.sl sh ys (.t t))).wp P (R ++ [.tok t sh]) Q) :
    (Tree.append sh by_ (.sl sh' [] .zero) ys k).wp P R Q := ⟨ys, VleL.refl _, hok, .inl ⟨sh', rfl, hle, h⟩⟩
theorem wp_append_tok {sh : Option Nat} {by_ t : Nat} {xs ys : List V} {k : V → Tree} (i : Nat) (hR : R[i]? = some (.tok t sh)) (hok : ∀ y ∈ ys, okE sh y) (hle : (xs.length + ys.length) * by_ ≤ 140737488355328) (h : ∀ t', (k (.sl sh (xs ++ ys) (.t t'))).wp P (R.set i (.tok t' sh)) Q) :
    (Tree.append sh by_ (.sl sh xs (.t t)) ys k).wp P R Q := ⟨ys, VleL.refl _, hok, .inr ⟨i, t, xs, rfl, hR, hle, h⟩⟩
theorem wp_call {f : FuncId} {args : List V} {k : V → Tree} {K : V → List Res → Prop} (h : SCall P f args R K) (hk : ∀ v R', K v R' → (k v).wp P R' Q) : (Tree.call f args k).wp P R Q := ⟨args, VleL.refl _, h.mono hk⟩
theorem wp_callF {f : FuncId} {args : List V} {k : V → Tree} {K : V → List Res → Prop} (A R0 B : List Res) (hR : R = A ++ R0 ++ B) (h : SCall P f args R0 K) (hk : ∀ v R1, K v R1 → (k v).wp P (A ++ R1 ++ B) Q) : (Tree.call f args k).wp P R Q := by
  subst hR
  refine ⟨args, VleL.refl _, h.frame.mono ?_⟩
  rintro v R' ⟨R1, hK, rfl⟩
  exact hk v R1 hK
theorem wp_pcall {f : FuncId} {args : List V} {k : V → Tree} {v : V} (h : PCall P f args v) (hk : (k v).wp P R Q) : (Tree.call f args k).wp P R Q :=
  ⟨args, VleL.refl _, (h.any R).mono fun u R' ⟨h1, h2⟩ => by subst h1; subst h2; exact hk⟩
theorem wp_nilcmp {e : Bool} {xs : List V} {k : V → Tree} (h : ∀ b : Bool, (b = true → xs = []) → (k (.c (.bool (bif e then b else !b)))).wp P R Q) : (Tree.nilcmp e xs k).wp P R Q := h
theorem wp_loop {body : Fr → Tree} {fr : Fr} {k : Exit → Fr → Tree} (I : Nat → Fr → List Res → Prop) (n : Nat) (fr1 : Fr) (R1 : List Res) (h1 : Weak fr fr1) (h2 : R1.Sublist R) (h3 : I n fr1 R1)
    (h : ∀ n fr R, I n fr R → (body fr).wp P R (loopPost I n fun e fr' R' => (k e fr').wp P R' Q)) : (Tree.loop body fr k).wp P R Q := ⟨I, ⟨n, fr1, R1, UpdF.weak h1 h2, h3⟩, h⟩
theorem wp_cut {fr : Fr} {k : Fr → Tree} (fr1 : Fr) (h1 : Weak fr fr1) (h : (k fr1).wp P R Q) : (Tree.cut fr k).wp P R Q := ⟨fr1, R, UpdF.weak h1 (List.Sublist.refl _), h⟩
theorem wp_cutR {fr : Fr} {k : Fr → Tree} (fr1 : Fr) (R1 : List Res) (h1 : Weak fr fr1) (h2 : R1.Sublist R) (h : (k fr1).wp P R1 Q) : (Tree.cut fr k).wp P R Q := ⟨fr1, R1, UpdF.weak h1 h2, h⟩
theorem wp_cutU {fr : Fr} {k : Fr → Tree} (fr1 : Fr) (R1 : List Res) (h1 : UpdF fr R fr1 R1) (h : (k fr1).wp P R1 Q) : (Tree.cut fr k).wp P R Q := ⟨fr1, R1, h1, h⟩
theorem wp_loopU {body : Fr → Tree} {fr : Fr} {k : Exit → Fr → Tree} (I : Nat → Fr → List Res → Prop) (n : Nat) (fr1 : Fr) (R1 : List Res) (h1 : UpdF fr R fr1 R1) (h3 : I n fr1 R1)
    (h : ∀ n fr R, I n fr R → (body fr).wp P R (loopPost I n fun e fr' R' => (k e fr').wp P R' Q)) : (Tree.loop body fr k).wp P R Q := ⟨I, ⟨n, fr1, R1, h1, h3⟩, h⟩
theorem wp_eff {e : Eff} {k : V → Tree} (h : e.W R fun v R' => (k v).wp P R' Q) : (Tree.eff e k).wp P R Q := h
theorem wp_leaf {e : Exit} {fr : Fr} (h : Q e fr R) : (Tree.leaf e fr).wp P R Q := h

theorem loop_next {I : Nat → Fr → List Res → Prop} {n : Nat} {K : Exit → Fr → List Res → Prop} {fr' : Fr} {R' : List Res} (n' : Nat) (fr1 : Fr) (R1 : List Res) (h1 : n' < n) (h2 : Weak fr' fr1) (h3 : R1.Sublist R') (h4 : I n' fr1 R1) : loopPost I n K .normal fr' R' :=
  ⟨n', fr1, R1, h1, UpdF.weak h2 h3, h4⟩
theorem loop_nextU {I : Nat → Fr → List Res → Prop} {n : Nat} {K : Exit → Fr → List Res → Prop} {fr' : Fr} {R' : List Res} (n' : Nat) (fr1 : Fr) (R1 : List Res) (h1 : n' < n) (h2 : UpdF fr' R' fr1 R1) (h4 : I n' fr1 R1) : loopPost I n K .normal fr' R' :=
  ⟨n', fr1, R1, h1, h2, h4⟩

theorem loop_exit {I : Nat → Fr → List Res → Prop} {n id : Nat} {K : Exit → Fr → List Res → Prop} {fr' : Fr} {R' : List Res} (h : K (.exit id) fr' R') : loopPost I n K (.exit id) fr' R' := h
theorem loop_ret {I : Nat → Fr → List Res → Prop} {n : Nat} {K : Exit → Fr → List Res → Prop} {fr' : Fr} {R' : List Res} (h : K .ret fr' R') : loopPost I n K .ret fr' R' := h

theorem ends_ret {fn : Func} {K : V → List Res → Prop} {fr : Fr} {vs : List V} {v : V} {R' : List Res} (h1 : ResV P fr R fn.results.toList vs) (h2 : Vle (oneOr vs) v) (h3 : R'.Sublist R) (h4 : K v R') : Ends P fn K .ret fr R := ⟨.inr rfl, vs, v, R', h1, UpdV.vle h2 h3, h4⟩
theorem ends_retU {fn : Func} {K : V → List Res → Prop} {fr : Fr} {vs : List V} {v : V} {R' : List Res} (h1 : ResV P fr R fn.results.toList vs) (h2 : UpdV (oneOr vs) R v R') (h4 : K v R') : Ends P fn K .ret fr R := ⟨.inr rfl, vs, v, R', h1, h2, h4⟩
theorem ends_norm {fn : Func} {K : V → List Res → Prop} {fr : Fr} {vs : List V} {v : V} {R' : List Res} (h1 : ResV P fr R fn.results.toList vs) (h2 : Vle (oneOr vs) v) (h3 : R'.Sublist R) (h4 : K v R') : Ends P fn K .normal fr R := ⟨.inl rfl, vs, v, R', h1, UpdV.vle h2 h3, h4⟩
theorem resV_tmp {fr : Fr} {t : Tmp} {rs : List ResultVar} {us : List V} (h : ResV P fr R rs us) : ResV P fr R (.tmp t :: rs) (fr t :: us) := ⟨us, rfl, h⟩
theorem resV_nil {fr : Fr} : ResV P fr R [] [] := rfl
theorem wp_elem {sh : Option Nat} {xs : List V} {n : Int} {k : V → Tree} (i : Nat) {u' : V} (u : V) (h1 : n = i) (h2 : xs[i]? = some u') (h3 : Vle u' u) (h4 : (k (.pt sh u 0)).wp P R Q) : (Tree.elem sh xs n k).wp P R Q := ⟨i, u', u, h1, h2, h3, h4⟩
theorem wp_pc {f : FuncId} {args : List V} {k : V → Tree} {v : V} (h : PCall P f args v) (hk : (k v).wp P R Q) : (Tree.pcall f args k).wp P R Q := ⟨args, v, VleL.refl _, h, hk⟩
theorem wp_storeE {b off : Nat} {vs : List V} {t : Tree} (i off' : Nat) {cs : List V} (us : List V) {R' : List Res} (h1 : R[i]? = some (.obj b cs)) (ho : off = off') (h2 : VleL vs us) (h3 : off' + us.length ≤ cs.length) (h4 : vs.all oneV = true) (hR : R.set i (.obj b (splice cs off' us)) = R') (h5 : t.wp P R' Q) :
    (Tree.store b off vs t).wp P R Q := by subst ho; exact ⟨i, cs, us, h1, h2, h3, fun v hv => List.all_eq_true.1 h4 v hv, hR ▸ h5⟩
theorem wp_pcV {f : FuncId} {args args' : List V} {k : V → Tree} {v : V} (ha : VleL args args') (h : PCall P f args' v) (hk : (k v).wp P R Q) : (Tree.pcall f args k).wp P R Q := ⟨args', v, ha, h, hk⟩
theorem wp_pcallV {f : FuncId} {args args' : List V} {k : V → Tree} {v : V} (ha : VleL args args') (h : PCall P f args' v) (hk : (k v).wp P R Q) : (Tree.call f args k).wp P R Q :=
  ⟨args', ha, (h.any R).mono fun u R' ⟨h1, h2⟩ => by subst h1; subst h2; exact hk⟩
theorem wp_callV {f : FuncId} {args args' : List V} {k : V → Tree} {K : V → List Res → Prop} (A R0 B : List Res) (hR : R = A ++ R0 ++ B) (ha : VleL args args') (h : SCall P f args' R0 K) (hk : ∀ v R1, K v R1 → (k v).wp P (A ++ R1 ++ B) Q) : (Tree.call f args k).wp P R Q :=
  wp_callF A R0 B hR (h.vle ha) hk
theorem wp_yld {l : Nat} {args : List V} {k : V → Tree} {K : Bool → List Res → Prop} (h : YCall P l args R K) (hk : ∀ b R', K b R' → (k (.c (.bool b))).wp P R' Q) : (Tree.yld l args k).wp P R Q := ⟨args, VleL.refl _, h.mono hk⟩

/-- Tokens that are there or aren't. -/
def tkOf : Option Nat → Tk
  | none => .zero
  | some t => .t t
def tokR (sh : Option Nat) : Option Nat → List Res
  | none => []
  | some t => [.tok t sh]

theorem wp_append_w {A : List Res} {sh sh' : Option Nat} {by_ : Nat} {t : Option Nat} {xs ys : List V} {k : V → Tree} (hx : t = none → xs = []) (hsh : t ≠ none → sh' = sh) (hok : ∀ y ∈ ys, okE sh y) (hle : (xs.length + ys.length) * by_ ≤ 140737488355328)
    (h : ∀ t', (k (.sl sh (xs ++ ys) (.t t'))).wp P (A ++ [.tok t' sh]) Q) : (Tree.append sh by_ (.sl sh' xs (tkOf t)) ys k).wp P (A ++ tokR sh t) Q := by
  cases t with
  | none =>
    have := hx rfl; subst this
    simpa [tkOf, tokR] using wp_append_nil (P := P) (R := A) (sh' := sh') (k := k) (Q := Q) hok (by simpa using hle) (by simpa using h)
  | some t =>
    have := hsh (by simp); subst this
    refine wp_append_tok A.length (t := t) (by simp [tokR]) hok hle fun t' => ?_
    have : (A ++ tokR sh' (some t)).set A.length (.tok t' sh') = A ++ [.tok t' sh'] := by simp [tokR]
    rw [this]; exact h t'

/-- What a call of a function that makes rounds of a loop does: it hands over xs, one behind the other, as long as it is told to go on. -/
def Iter (P : Program) (gf : FuncId) (first caps : List V) (xs : List (List V)) : Prop :=
  isFn P gf ∧ ∀ (l : Nat) (I : Nat → List Res → Prop) (E : List Res → Prop) (R0 : List Res), I 0 R0 →
    (∀ (i : Nat) (args : List V) (R : List Res), xs[i]? = some args → I i R → YCall P l args R fun b R' => (b = true ∧ I (i + 1) R') ∨ (b = false ∧ E R')) →
    SCall P gf (first ++ [.fn (.yield l) [] []] ++ caps) R0 fun _ R' => I xs.length R' ∨ E R'

theorem wp_range {gf : FuncId} {first caps : List V} {xs : List (List V)} {ps : List Nat} {body : Fr → Tree} {fr : Fr} {k : Exit → Fr → Tree} (h : Iter P gf first caps xs) (J : Nat → List Res → Prop) (h0 : J 0 R) (hlen : ∀ (i : Nat) (args : List V), xs[i]? = some args → args.length = ps.length)
    (hb : ∀ (i : Nat) (args : List V) (R1 : List Res), xs[i]? = some args → J i R1 → (body (putAll fr ps args)).wp P R1 (roundEnd (J (i + 1)) fun e R' => (k e fr).wp P R' Q)) (hk : ∀ R1, J xs.length R1 → (k .normal fr).wp P R1 Q) :
    (Tree.range (.fn (.func gf) first caps) ps body fr k).wp P R Q := by
  refine ⟨gf, first, caps, rfl, h.1, fun l lp hY => ?_⟩
  refine (h.2 l (fun i R' => ∃ R1, R' = R1 ++ [.lop l lp fr] ∧ J i R1) (fun R' => ∃ e R1, (e = .ret ∨ ∃ id, e = .exit id) ∧ R' = R1 ++ [.lop l (lp.left e) fr] ∧ (k e fr).wp P R1 Q) _ ⟨R, rfl, h0⟩ ?_).mono ?_
  · rintro i args R' hi ⟨R1, rfl, hJ⟩
    refine (hY args R1 (J (i + 1)) (fun e R' => (k e fr).wp P R' Q) (hlen i args hi) (hb i args R1 hi hJ)).mono ?_
    rintro b R' (⟨hb, R2, rfl, hJ⟩ | ⟨hb, e, R2, he, rfl, hE⟩)
    · exact .inl ⟨hb, R2, rfl, hJ⟩
    · exact .inr ⟨hb, e, R2, he, rfl, hE⟩
  · rintro v R' (⟨R1, rfl, hJ⟩ | ⟨e, R1, he, rfl, hE⟩)
    · exact .inl ⟨R1, rfl, hk R1 hJ⟩
    · exact .inr ⟨e, R1, he, rfl, hE⟩

/-- The same, of a function that looks at what is owned (A) while it makes its rounds. -/
def IterR (P : Program) (A : List Res) (gf : FuncId) (first caps : List V) (xs : List (List V)) : Prop :=
  isFn P gf ∧ ∀ (l : Nat) (I : Nat → List Res → Prop) (E : List Res → Prop) (R0 : List Res), I 0 R0 →
    (∀ (i : Nat) (args : List V) (R : List Res), xs[i]? = some args → I i R → YCall P l args R fun b R' => (b = true ∧ I (i + 1) R') ∨ (b = false ∧ E R')) →
    SCall P gf (first ++ [.fn (.yield l) [] []] ++ caps) (A ++ R0) fun _ R' => ∃ R1, R' = A ++ R1 ∧ (I xs.length R1 ∨ E R1)

theorem wp_rangeR {A R0 : List Res} {gf : FuncId} {first caps : List V} {xs : List (List V)} {ps : List Nat} {body : Fr → Tree} {fr : Fr} {k : Exit → Fr → Tree} (h : IterR P A gf first caps xs) (hR : R = A ++ R0) (J : Nat → List Res → Prop) (h0 : J 0 R0) (hlen : ∀ (i : Nat) (args : List V), xs[i]? = some args → args.length = ps.length)
    (hb : ∀ (i : Nat) (args : List V) (R1 : List Res), xs[i]? = some args → J i R1 → (body (putAll fr ps args)).wp P R1 (roundEnd (J (i + 1)) fun e R' => (k e fr).wp P (A ++ R') Q)) (hk : ∀ R1, J xs.length R1 → (k .normal fr).wp P (A ++ R1) Q) :
    (Tree.range (.fn (.func gf) first caps) ps body fr k).wp P R Q := by
  subst hR
  refine ⟨gf, first, caps, rfl, h.1, fun l lp hY => ?_⟩
  rw [show A ++ R0 ++ [Res.lop l lp fr] = A ++ (R0 ++ [Res.lop l lp fr]) from List.append_assoc _ _ _]
  refine (h.2 l (fun i R' => ∃ R1, R' = R1 ++ [.lop l lp fr] ∧ J i R1) (fun R' => ∃ e R1, (e = .ret ∨ ∃ id, e = .exit id) ∧ R' = R1 ++ [.lop l (lp.left e) fr] ∧ (k e fr).wp P (A ++ R1) Q) _ ⟨R0, rfl, h0⟩ ?_).mono ?_
  · rintro i args R' hi ⟨R1, rfl, hJ⟩
    refine (hY args R1 (J (i + 1)) (fun e R' => (k e fr).wp P (A ++ R') Q) (hlen i args hi) (hb i args R1 hi hJ)).mono ?_
    rintro b R' (⟨hb, R2, rfl, hJ⟩ | ⟨hb, e, R2, he, rfl, hE⟩)
    · exact .inl ⟨hb, R2, rfl, hJ⟩
    · exact .inr ⟨hb, e, R2, he, rfl, hE⟩
  · rintro v R' ⟨R2, rfl, ⟨R1, rfl, hJ⟩ | ⟨e, R1, he, rfl, hE⟩⟩
    · exact .inl ⟨A ++ R1, by simp, hk R1 hJ⟩
    · exact .inr ⟨e, A ++ R1, he, by simp, hE⟩

theorem w_ret0 {fn : Func} {K : V → List Res → Prop} {fr : Fr} {R' : List Res} (h : fn.results.toList = []) (hs : R'.Sublist R) (hK : K (.tup []) R') : (Tree.leaf .ret fr).wp P R (Ends P fn K) :=
  ⟨.inr rfl, [], .tup [], R', by rw [h]; rfl, UpdV.vle (Vle.refl _) hs, hK⟩
theorem w_norm0 {fn : Func} {K : V → List Res → Prop} {fr : Fr} {R' : List Res} (h : fn.results.toList = []) (hs : R'.Sublist R) (hK : K (.tup []) R') : (Tree.leaf .normal fr).wp P R (Ends P fn K) :=
  ⟨.inl rfl, [], .tup [], R', by rw [h]; rfl, UpdV.vle (Vle.refl _) hs, hK⟩
theorem w_ret1 {fn : Func} {K : V → List Res → Prop} {fr : Fr} {t : Tmp} {v : V} {R' : List Res} (h : fn.results.toList = [.tmp t]) (hv : Vle (fr t) v) (hs : R'.Sublist R) (hK : K v R') : (Tree.leaf .ret fr).wp P R (Ends P fn K) :=
  ⟨.inr rfl, [fr t], v, R', by rw [h]; exact ⟨[], rfl, rfl⟩, UpdV.vle hv hs, hK⟩
theorem w_retp {fn : Func} {fr : Fr} {t : Tmp} {v : V} (h : fn.results.toList = [.tmp t]) (hv : Vle (fr t) v) : (Tree.leaf .ret fr).wp P R (Ends P fn fun u _ => u = v) :=
  w_ret1 h hv (List.nil_sublist _) rfl
theorem w_ret2 {fn : Func} {K : V → List Res → Prop} {fr : Fr} {t u : Tmp} {a b : V} {R' : List Res} (h : fn.results.toList = [.tmp t, .tmp u]) (ha : Vle (fr t) a) (hb : Vle (fr u) b) (hs : R'.Sublist R) (hK : K (.tup [a, b]) R') : (Tree.leaf .ret fr).wp P R (Ends P fn K) :=
  ⟨.inr rfl, [fr t, fr u], .tup [a, b], R', by rw [h]; exact ⟨_, rfl, _, rfl, rfl⟩, UpdV.vle (Vle.tup (.cons ha (.cons hb .nil))) hs, hK⟩

/-- A rest of what is owned may be left aside. -/
theorem YCall.frame {l : Nat} {args : List V} {R A B : List Res} {K : Bool → List Res → Prop} (h : YCall P l args R K) : YCall P l args (A ++ R ++ B) fun b R' => ∃ R1, K b R1 ∧ R' = A ++ R1 ++ B := by
  intro g w xs hw hx hr
  obtain ⟨f, tmps, assign, body, hy, hR⟩ := h g w xs hw hx (hr.sub (by simp))
  refine ⟨f, tmps, assign, body, hy, hR.mono ?_⟩
  rintro e w' ⟨b, g', R1, he, hK, hA⟩
  exact ⟨b, g', A ++ R1 ++ B, he, ⟨R1, hK, rfl⟩, After.frame hr hA⟩

theorem pcall_of_calls {f : FuncId} {args : List V} {v : V} (hf : isFn P f) (h : ∀ (g : Gh) (w : World) (xs : List Value), Wf g w → RelL g w args xs → Calls P f xs.toArray w fun e w' => ∃ x, e = .returned x ∧ w' = w ∧ RelV g w v x) : PCall P f args v := by
  intro g w xs hw hx hr
  obtain ⟨fn, c, h1, h2, h3⟩ := hf
  have hrun : (callFunc f xs.toArray).run P w = .ok (.enter f xs.toArray) w := by
    have hn' : ¬ fn.name = "runtime.NumGoroutine" := by simpa using h3
    simp [callFunc, h1, h2, hn']
  refine .inr (.inl ⟨f, xs.toArray, w, hrun, callsIn_wide.2 (Calls.mono (h g w xs hw hx) ?_)⟩)
  rintro e w' ⟨x, rfl, rfl, hv⟩
  exact ⟨x, rfl, v, g, [], rfl, After.refl hw hr, hv⟩
end
end Go.Sv

/-! ### Strings as rows of bytes -/
namespace Go.Sv
open Go
def S (l : List UInt8) : ByteArray := ⟨l.toArray⟩
def str (l : List UInt8) : V := .c (.string (S l))
def byteV (b : UInt8) : V := .c (.int .u8 b.toNat)
@[simp] theorem S_size (l : List UInt8) : (S l).size = l.length := rfl
@[simp] theorem S_inj {l m : List UInt8} : S l = S m ↔ l = m := by simp [S]
@[simp] theorem S_byteAt (l : List UInt8) (i : Nat) : byteAt (S l) i = l.getD i 0 := rfl
@[simp] theorem S_list (l : List UInt8) : (S l).data.toList = l := rfl
@[simp] theorem S_extract (l : List UInt8) (a b : Nat) : (S l).extract a b = S ((l.take b).drop a) := by
  apply ByteArray.ext
  simp [S, ByteArray.data_extract, List.extract_eq_take_drop, List.drop_take]
@[simp] theorem S_append (l m : List UInt8) : S l ++ S m = S (l ++ m) := by
  apply ByteArray.ext
  simp [S]
theorem S_of (s : ByteArray) : s = S s.data.toList := by cases s; simp [S]
end Go.Sv
