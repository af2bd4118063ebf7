/- From a contract to a row of the claim. -/
import Derived.Test.YtdkbdmfhidimmaaDoorSvNum
import Derived.ProofKit
namespace Go.Sv
open Go Go.RowKit Go.ChangeShapes Go.WideShapes

/-- Where a call begins: nothing that is there changes. -/
def Gh.start (W : World) : Gh := { cm := fun b => match W.heap[b]? with | some (.cells vals _ _) => vals.size | _ => 0, nt := 0, th := fun _ => undef }
/-- What is told of the library's variables holds at the start. -/
def statOk (W : World) : Prop := ∀ p ∈ statics, ∃ v, cell W p.1 0 = some v ∧ p.2 v
theorem wf_start (W : World) (hst : statOk W) : Wf (Gh.start W) W := by
  refine ⟨fun b hb => ?_, fun b o ho => ?_, fun p hp => ?_⟩
  · simp only [Gh.start]; rw [Array.getElem?_eq_none hb]
  · simp only [Gh.start] at ho
    unfold cell World.cell?
    split at ho
    · rename_i vals e f h
      simp only [h]
      simp [ho]
    · omega
  · obtain ⟨v, h1, h2⟩ := hst p hp
    refine ⟨v, h1, h2, ?_⟩
    unfold cell World.cell? at h1
    simp only [Gh.start]
    cases hh : W.heap[p.1]? with
    | none => simp [hh] at h1
    | some ob =>
      cases ob <;> simp [hh] at h1
      rename_i vals e f
      simp only
      exact (Array.getElem?_eq_some_iff.1 h1).1

variable {P : Program}

theorem calls_of_pcall {f : FuncId} {args : List V} {v : V} {W : World} {xs : List Value} (hst : statOk W) (hf : isFn P f) (h : PCall P f args v) (hx : RelL (Gh.start W) W args xs) :
    Calls P f xs.toArray W fun e W' => ∃ x, e = .returned x ∧ Below W.heap.size W W' ∧ ∃ g', RelV g' W' v x := by
  obtain ⟨fn, c, h1, h2, h3⟩ := hf
  have hrun : (callFunc f xs.toArray).run P W = .ok (.enter f xs.toArray) W := by
    have hn' : ¬ fn.name = "runtime.NumGoroutine" := by simpa using h3
    simp [callFunc, h1, h2, hn']
  rcases h (Gh.start W) W xs (wf_start W hst) hx ⟨by simp, by simp [blocks]⟩ with ⟨y, w', e1, _⟩ | ⟨f', args', w', e1, hc⟩ | ⟨row, args', w', e1, _⟩
  · rw [hrun] at e1; cases e1
  · rw [hrun] at e1; cases e1
    refine (callsIn_wide.1 hc).mono ?_
    rintro e W' ⟨x, rfl, u, g', R', hu, hA, hv⟩
    subst hu
    refine ⟨x, rfl, ⟨hA.ext.os, hA.ext.tape, hA.ext.output, hA.ext.size, fun k hk => hA.ext.frame k hk (by simp [blocks])⟩, g', hv⟩
  · rw [hrun] at e1; cases e1

theorem trodAll_below {H : Type} {enc : TypeId × Value → H} {W W' : World} (hl : laidOutB P = true) (hb : Below W.heap.size W W') : ∀ (ts : List TypeId) (vs : List Value) (ds : List (DataW H)) (ps : List MemPlace), (∀ t ∈ ts, P.readableRec t = true ∧ t < P.types.size) →
    (∀ x ∈ ps, x.block < W.heap.size) → DataW.TrodAll enc P W 0 (fun _ => true) true ts vs ds ps → DataW.TrodAll enc P W' 0 (fun b => decide (b < W.heap.size)) true ts vs ds ps
  | [], vs, ds, ps, _, _, h => by
    cases vs with
    | nil => cases ds with
      | nil => exact h
      | cons => exact h.elim
    | cons => cases ds <;> exact h.elim
  | t :: ts, vs, ds, ps, hr, hlt, h => by
    cases vs with
    | nil => cases ds <;> exact h.elim
    | cons v vs => cases ds with
      | nil => exact h.elim
      | cons d ds =>
        obtain ⟨p, q, h1, h2, rfl⟩ := h
        exact ⟨p, q, Below.trod hl (hr t (by simp)).1 (hr t (by simp)).2 h1 hb (fun x hx => hlt x (by simp [hx])), trodAll_below hl hb ts vs ds q (fun t ht => hr t (by simp [ht])) (fun x hx => hlt x (by simp [hx])) h2, rfl⟩

/-- Every law's answer: true; the arguments read as they did. -/
theorem post_true {H : Type} {enc : TypeId × Value → H} {f : Func} {s : ChangeSpec} {W W' : World} {args : Array Value} {ds gs : List (DataW H)} {before : List MemPlace} (hl : laidOutB P = true) (hW : DataW.Whole enc P f.params.toList s.vars false W args.toList ds gs before) (hb : Below W.heap.size W W') {tb : TypeId}
    (hr : f.params.toList.all (fun t => P.readableRec t && decide (t < P.types.size)) = true) (hres : f.resultTypes = #[tb]) (htb : P.underlying tb = some .bool) (hvars : s.vars = []) (hfn : s.fn H (ds ++ gs) = { results := [.lit (.bool true)], args := ds }) :
    s.post enc P f false true false false W args (.bool true) W' := by
  have hlt : ∀ x ∈ before, x.block < W.heap.size := fun x hx => by simpa using hW.lt x hx
  have hW' := hW
  obtain ⟨p, q, hA, hV, rfl, hfz, hnd⟩ := hW
  rw [hvars] at hV
  refine ⟨ds, gs, p ++ q, [], p, q, hW', ?_, ?_, ?_, hb.frame _, by simp⟩
  · rw [hfn, hres]
    exact trodAll_mk1 (shut_bool htb true)
  · rw [hfn]
    refine trodAll_below hl hb _ _ _ _ (fun t ht => ?_) (fun x hx => hlt x (by simp [hx])) hA
    have := List.all_eq_true.1 hr t ht
    simpa using this
  · rw [hfn, hvars]
    obtain ⟨rfl, rfl⟩ := trodVars_none hV
    exact hV
end Go.Sv
