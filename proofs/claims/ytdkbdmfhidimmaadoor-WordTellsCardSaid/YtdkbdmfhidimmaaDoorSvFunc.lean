/- A function's contract out of its body's tree. -/
import Derived.Test.YtdkbdmfhidimmaaDoorSvCode
namespace Go.Sv
open Go

/-- The results' values. -/
def ResV (P : Program) (fr : Fr) (R : List Res) : List ResultVar → List V → Prop
  | [], vs => vs = []
  | .tmp t :: rs, vs => ∃ us, vs = fr t :: us ∧ ResV P fr R rs us
  | .cell x ty :: rs, vs => ∃ (b off : Nat) (sh : Option Nat) (i : Nat) (cs : List V) (v : V) (us : List V), fr x = .loc b off ∧ shapeOf P ty = some sh ∧ R[i]? = some (.obj b cs) ∧ partOf sh cs off = some v ∧ vs = v :: us ∧ ResV P fr R rs us

def resOp (tmps : Array Value) : ResultVar → Sem Value
  | .tmp t => pure (tmps.getD t undef)
  | .cell x t => do loadVar t (← asAddr (tmps.getD x undef))
theorem results_eq (fn : Func) (tmps : Array Value) : results fn tmps = (do
    let vs ← fn.results.mapM (resOp tmps)
    pure (if h : vs.size = 1 then vs[0] else .tuple vs)) := by
  unfold results
  congr 2

def oneOr : List V → V
  | [v] => v
  | vs => .tup vs

/-- The frame that a call begins with. -/
def frOf (l : List V) : Fr := fun t => l.getD t .undef

/-- What a body must come to. -/
def Ends (P : Program) (fn : Func) (K : V → List Res → Prop) : Exit → Fr → List Res → Prop := fun e fr R =>
  (e = .normal ∨ e = .ret) ∧ ∃ vs v R', ResV P fr R fn.results.toList vs ∧ UpdV (oneOr vs) R v R' ∧ K v R'

section
variable {P : Program} {N n0 : Nat} {g g0 : Gh} {w w0 : World} {R R0 : List Res} {fr : Fr} {a : Act}

theorem resV_rel (hf : RelF N g w fr a.tmps) (hr : RelR g w R) : ∀ {rs : List ResultVar} {vs : List V}, ResV P fr R rs vs →
    ∃ xs : List Value, (rs.mapM (resOp a.tmps)).run P w = .ok xs w ∧ RelL g w vs xs
  | [], vs, h => by
    simp only [ResV] at h; subst h
    exact ⟨[], by simp, by simp [RelL]⟩
  | .tmp t :: rs, vs, h => by
    simp only [ResV] at h
    obtain ⟨us, rfl, h⟩ := h
    obtain ⟨xs, h1, h2⟩ := resV_rel hf hr h
    refine ⟨a.tmps.getD t undef :: xs, ?_, by simp only [RelL]; exact ⟨_, _, rfl, hf.2 t, h2⟩⟩
    rw [List.mapM_cons]
    simp only [resOp, Sem.run_bind, Sem.run_pure, Result.andThen_ok, h1]
  | .cell x t :: rs, vs, h => by
    simp only [ResV] at h
    obtain ⟨b, off, sh, i, cs, v, us, hx, hsh, hR, hp, rfl, h⟩ := h
    obtain ⟨xs, h1, h2⟩ := resV_rel hf hr h
    have hv := hf.2 x
    rw [hx] at hv
    simp only [RelV] at hv
    obtain ⟨vals, hl, hc⟩ := obj_cell (hr.all _ (List.mem_of_getElem? hR))
    have hlt := part_lt hp
    have he : RelE g w sh v (fun i => cell w b (off + i)) := relE_congr (relE_part hl hp) fun j hj => hc _ (by omega)
    obtain ⟨y, hy, hrel⟩ := run_loadVar (P := P) hsh he
    refine ⟨y :: xs, ?_, by simp only [RelL]; exact ⟨_, _, rfl, hrel, h2⟩⟩
    rw [List.mapM_cons]
    simp only [resOp, Sem.run_bind, Sem.run_pure, Result.andThen_ok, h1, hv, asAddr, hy]

theorem run_results {fn : Func} {vs : List V} (hf : RelF N g w fr a.tmps) (hr : RelR g w R) (h : ResV P fr R fn.results.toList vs) : ∃ x, (results fn a.tmps).run P w = .ok x w ∧ RelV g w (oneOr vs) x := by
  obtain ⟨xs, h1, h2⟩ := resV_rel hf hr h
  have hlen := relL_length h2
  have hm : (fn.results.mapM (resOp a.tmps)).run P w = .ok xs.toArray w := by
    rw [Array.mapM_eq_mapM_toList]
    simp only [Sem.run_map, h1, Result.andThen_ok]
  match xs, vs, h2, hlen with
  | [], [], h2, _ => exact ⟨.tuple #[], by rw [results_eq]; simp only [Sem.run_bind, hm, Result.andThen_ok]; rfl, by simp only [oneOr, RelV]; exact ⟨_, rfl, h2⟩⟩
  | [x], [v], h2, _ =>
    simp only [RelL] at h2
    obtain ⟨x', ys, he, hv, rfl⟩ := h2
    cases he
    exact ⟨x, by rw [results_eq]; simp only [Sem.run_bind, hm, Result.andThen_ok]; rfl, hv⟩
  | x :: y :: xs, u :: v :: vs, h2, _ => exact ⟨.tuple (x :: y :: xs).toArray, by rw [results_eq]; simp only [Sem.run_bind, hm, Result.andThen_ok]; simp, by simp only [oneOr, RelV]; exact ⟨_, rfl, by simpa using h2⟩⟩
  | [], _ :: _, _, hl => simp at hl
  | _ :: _, [], _, hl => simp at hl
  | [_], _ :: _ :: _, _, hl => simp at hl
  | _ :: _ :: _, [_], _, hl => simp at hl

/-- The world with another thing in a block that is no cells. -/
theorem after_putObj {r : Nat} {ds : Option (List Deferred)} (ha : After g0 w0 R0 g w R) (hh : w.heap[r]? = some (.deferred (some []))) (hn : r ∉ blocks g R) (h0 : w0.heap.size ≤ r) :
    After g0 w0 R0 g { w with heap := w.heap.setIfInBounds r (.deferred ds) } R ∧ Pre g w g { w with heap := w.heap.setIfInBounds r (.deferred ds) } := by
  have hlt := (Array.getElem?_eq_some_iff.1 hh).1
  have hother : ∀ k, k ≠ r → ({ w with heap := w.heap.setIfInBounds r (.deferred ds) } : World).heap[k]? = w.heap[k]? := fun k hk => by
    simp [Array.getElem?_setIfInBounds_ne (fun h => hk h.symm)]
  have hcell : ∀ b o, cell { w with heap := w.heap.setIfInBounds r (.deferred ds) } b o = cell w b o := fun b o => by
    by_cases hb : b = r
    · subst hb
      have h1 : ({ w with heap := w.heap.setIfInBounds b (.deferred ds) } : World).heap[b]? = some (.deferred ds) := by simp [hlt]
      simp only [cell, World.cell?, h1, hh]
    · exact World.cell?_of_block (w := w) (hother b hb)
  have hpre : Pre g w g { w with heap := w.heap.setIfInBounds r (.deferred ds) } := ⟨fun _ => Nat.le_refl _, fun b o _ => hcell b o, Nat.le_refl _, fun _ _ => rfl⟩
  have hres : ∀ x ∈ R, RelRes g { w with heap := w.heap.setIfInBounds r (.deferred ds) } x := fun x hx =>
    ((ha.res.all x hx).kept hpre fun b hb => ⟨hother b fun h => hn (by subst h; exact mem_blocks.2 ⟨x, hx, hb⟩), rfl⟩).1
  refine ⟨⟨?_, ⟨hres, ha.res.nodup⟩, ha.own⟩, hpre⟩
  exact { ha.ext.toPre.trans hpre with
    os := ha.ext.os, tape := ha.ext.tape, output := ha.ext.output
    size := by simpa using ha.ext.size
    frame := fun b hb hnb => (hother b (by omega)).trans (ha.ext.frame b hb hnb)
    cmeq := ha.ext.cmeq
    wf := ⟨fun b hb => ha.ext.wf.cm b (by simpa using hb), fun b o ho => by rw [hcell]; exact ha.ext.wf.ex b o ho, hpre.st ha.ext.wf⟩ }

theorem run_takeDeferred {r : Nat} (hh : w.heap[r]? = some (.deferred (some []))) : (Instr.takeDeferred r).run P w = .ok [] { w with heap := w.heap.setIfInBounds r (.deferred none) } := by
  simp [Instr.takeDeferred, getObj, setObj, Sem.run, hh]

/-- The way out: the marks are taken, the results handed over. -/
theorem leaves {fn : Func} {tmps : Array Value} {Rp : Ending → World → Prop} : ∀ (ds : List Deferred) {g : Gh} {w : World} {R : List Res}, After g0 w0 R0 g w R → Marks n0 g w R ds → w0.heap.size ≤ n0 →
    (∀ w', After g0 w0 R0 g w' R → Pre g w g w' → ∃ x, (results fn tmps).run P w' = .ok x w' ∧ Rp (.returned x) w') → LeavesInM Fence.wide 0 P fn tmps Rp ds .returning w
  | [], g, w, R, ha, hm, h0, h => h w ha (Pre.refl g w)
  | d :: ds, g, w, R, ha, hm, h0, h => by
    obtain ⟨rs, h1, h2, h3⟩ := hm.ex
    match rs, h1, h2, h3 with
    | [], h1, _, _ => simp at h1
    | r :: rs, h1, h2, h3 =>
      simp only [List.map_cons, List.cons.injEq] at h1
      obtain ⟨rfl, rfl⟩ := h1
      obtain ⟨h4, h5, h6⟩ := h3 r (by simp)
      obtain ⟨ha', hp⟩ := after_putObj (ds := none) ha h4 h5 (by omega)
      refine ⟨by simp, .inl ⟨r, _, rfl, run_takeDeferred h4, ?_⟩⟩
      refine leaves _ ha' ⟨⟨rs, rfl, (List.nodup_cons.1 h2).2, fun k hk => ?_⟩⟩ h0 fun w' hw' hp' => h w' hw' (hp.trans hp')
      obtain ⟨h7, h8, h9⟩ := h3 k (by simp [hk])
      refine ⟨?_, h8, h9⟩
      have hne : r ≠ k := fun e => by subst e; exact (List.nodup_cons.1 h2).1 hk
      simp [Array.getElem?_setIfInBounds_ne hne, h7]

/-- **A FUNCTION's CONTRACT.** -/
theorem scall_of {f : FuncId} {fn : Func} {c : Code} {live : List Nat} {ords : List (Nat × List Nat)} {args : List V} {K : V → List Res → Prop} (hf : P.funcs[f]? = some fn) (hb : fn.body = some c) (hn : (fn.name == "runtime.NumGoroutine") = false)
    (hok : (okCode fn.ntmps c && okDraw live ords c && P.follows .mixedOrders) = true) (hlen : args.length ≤ fn.ntmps) (h : (exec P live ords c (frOf args)).wp P R (Ends P fn K)) : SCall P f args R K := by
  intro g w xs hw ha hr
  simp only [Bool.and_eq_true] at hok
  have hxl := relL_length ha
  have hrun : (callFunc f xs.toArray).run P w = .ok (.enter f xs.toArray) w := by
    have hn' : ¬ fn.name = "runtime.NumGoroutine" := by simpa using hn
    simp [callFunc, hf, hb, hn']
  refine .inr (.inl ⟨f, xs.toArray, w, hrun, ?_⟩)
  refine callsIn_of_wp_marks hf hb trivial ?_
  have hs : St fn.ntmps w.heap.size g w R (frOf args) { tmps := xs.toArray ++ Array.replicate (fn.ntmps - xs.toArray.size) undef, defers := [] } := by
    refine ⟨hw, ⟨by simp; omega, fun t => ?_⟩, hr, ⟨⟨[], rfl, List.nodup_nil, by simp⟩⟩⟩
    unfold frOf
    cases hv : args[t]? with
    | none => simp only [List.getD_eq_getElem?_getD, hv, Option.getD_none]; exact relV_undef _ _ _
    | some v =>
      obtain ⟨x, hx, hrel⟩ := relL_get ha hv
      have hlt := (List.getElem?_eq_some_iff.1 hx).1
      simp only [List.getD_eq_getElem?_getD, hv, Option.getD_some]
      rw [Array.getD_eq_getD_getElem?, Array.getElem?_append_left (by simpa using hlt)]
      simp [hx, hrel]
  have hsound := exec_sound hok.2 c hok.1.1 hok.1.2 hs h none ⟨Nat.le_refl _, fun _ h => by cases h⟩
  have hfin : ∀ {e : Exit} {a' : Act} {w' : World}, PostC fn.ntmps w.heap.size (Ends P fn K) g w R e a' w' → (e = .normal ∨ e = .ret) ∧
      LeavesInM Fence.wide 0 P fn a'.tmps (fun e w' => ∃ x, e = .returned x ∧ ∃ v g' R', K v R' ∧ After g w R g' w' R' ∧ RelV g' w' v x) a'.defers .returning w' := by
    rintro e a' w' ⟨g', fr', R', ⟨he, vs, v, R2, hres, hupd, hK⟩, hA, hF, hM⟩
    refine ⟨he, leaves (n0 := w.heap.size) a'.defers hA hM (Nat.le_refl _) fun w2 hA2 hp => ?_⟩
    obtain ⟨x, hx, hv⟩ := run_results (P := P) (fn := fn) (a := a') (hF.mono hp) hA2.res hres
    obtain ⟨g2, hA3, hv2⟩ := hupd g' w2 x hA2.ext.wf hv hA2.res
    exact ⟨x, hx, x, rfl, v, g2, R2, hK, hA2.trans hA3, hv2⟩
  have hsound' : c.wpIn Fence.wide 0 P (PostC fn.ntmps w.heap.size (Ends P fn K) g w R) { tmps := xs.toArray ++ Array.replicate (fn.ntmps - xs.toArray.size) undef, defers := [] } w := hsound
  refine wpIn_mono hsound' ?_
  intro e a' w' hp
  obtain ⟨he, hl⟩ := hfin hp
  rcases he with rfl | rfl
  · exact hl
  · exact hl

end
end Go.Sv
