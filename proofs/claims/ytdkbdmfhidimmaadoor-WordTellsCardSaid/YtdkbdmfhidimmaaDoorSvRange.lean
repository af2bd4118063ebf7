/- A range over a function. -/
import Derived.Test.YtdkbdmfhidimmaaDoorSvDraw
import Derived.RangeFuncNested
namespace Go.Sv
open Go

section
variable {P : Program} {N n0 : Nat} {Q : Exit → Fr → List Res → Prop} {g : Gh} {w : World} {R : List Res} {fr : Fr}

theorem cell_alloc_other {o : Obj} (h : ∀ c e f, o ≠ .cells c e f) (b i : Nat) : cell (w.alloc o) b i = cell w b i := by
  by_cases hb : b < w.heap.size
  · exact cell_alloc_old hb
  · by_cases he : b = w.heap.size
    · subst he
      have h1 := heap_alloc_new w o
      have h2 : w.heap[w.heap.size]? = none := Array.getElem?_eq_none (Nat.le_refl _)
      unfold cell World.cell?
      simp only [h1, h2]
      cases o <;> first | rfl | exact absurd rfl (h _ _ _)
    · have h1 : (w.alloc o).heap[b]? = none := Array.getElem?_eq_none (by simp; omega)
      have h2 : w.heap[b]? = none := Array.getElem?_eq_none (by omega)
      unfold cell World.cell?
      simp only [h1, h2]

theorem after_alloc_other (hw : Wf g w) (hr : RelR g w R) {o : Obj} (h : ∀ c e f, o ≠ .cells c e f) : After g w R g (w.alloc o) R := by
  have hc := cell_alloc_other (w := w) h
  have hp : Pre g w g (w.alloc o) := ⟨fun _ => Nat.le_refl _, fun b i _ => hc b i, Nat.le_refl _, fun _ _ => rfl⟩
  have hext : Ext [] g w g (w.alloc o) := { hp with os := rfl, tape := rfl, output := rfl, size := by simp, frame := fun b hb _ => Go.RowKit.Below.heap_alloc w o b hb, cmeq := fun _ _ _ => rfl, wf := ⟨fun b hb => hw.cm b (by simp at hb; omega), fun b i hi => by rw [hc]; exact hw.ex b i hi, hp.st hw⟩ }
  exact after_of_ext hr hext

/-- The record of a loop is laid. -/
theorem after_enter {l : Nat} {lp : Loop} (hw : Wf g w) (hr : RelR g w R) (hl : w.heap[l]? = some (.loop lp)) (hn : l ∉ blocks g R) (hf : ∀ t, RelV g w (fr t) (lp.tmps.getD t undef)) : RelR g w (R ++ [.lop l lp fr]) := by
  have hcm : g.cm l = 0 := by
    refine Classical.byContradiction fun h0 => ?_
    have h1 := hw.ex l 0 (by omega)
    unfold cell World.cell? at h1
    simp [hl] at h1
  refine ⟨fun x hx => ?_, ?_⟩
  · rcases List.mem_append.1 hx with hx | hx
    · exact hr.all x hx
    · simp only [List.mem_singleton] at hx; subst hx; exact ⟨hl, hcm, hf⟩
  · rw [blocks_append]
    refine List.nodup_append.2 ⟨hr.nodup, by simp [blocks, Res.blocks], fun b hb c hc e => ?_⟩
    simp [blocks, Res.blocks] at hc
    subst e; subst hc; exact hn hb

/-- Another record in its place. -/
theorem after_putLoop {l : Nat} {lp : Loop} {lp' : Loop} (hw : Wf g w) (hr : RelR g w (R ++ [.lop l lp fr])) (ht : lp'.tmps = lp.tmps) : After g w (R ++ [.lop l lp fr]) g (w.putObj l (.loop lp')) (R ++ [.lop l lp' fr]) := by
  obtain ⟨hl, hcm, hf⟩ := hr.all (.lop l lp fr) (by simp)
  have hlt := (Array.getElem?_eq_some_iff.1 hl).1
  have hother : ∀ k, k ≠ l → (w.putObj l (.loop lp')).heap[k]? = w.heap[k]? := fun k hk => World.putObj_heap_other hk
  have hcell : ∀ b o, cell (w.putObj l (.loop lp')) b o = cell w b o := fun b o => by
    by_cases hb : b = l
    · subst hb
      have h1 : (w.putObj b (.loop lp')).heap[b]? = some (.loop lp') := World.putObj_heap_same hlt
      unfold cell World.cell?
      simp only [h1, hl]
    · exact World.cell?_of_block (w := w) (hother b hb)
  have hp : Pre g w g (w.putObj l (.loop lp')) := ⟨fun _ => Nat.le_refl _, fun b o _ => hcell b o, Nat.le_refl _, fun _ _ => rfl⟩
  have hbl : ∀ lq : Loop, blocks g (R ++ [.lop l lq fr]) = blocks g R ++ [l] := fun lq => by simp [blocks, Res.blocks]
  have hnl : l ∉ blocks g R := fun hm => by
    have := hr.nodup
    rw [hbl, List.nodup_append] at this
    exact this.2.2 l hm l (by simp) rfl
  have hr0 : RelR g w R := hr.sub (List.sublist_append_left _ _)
  refine ⟨{ hp with os := rfl, tape := rfl, output := rfl, size := by simp, frame := fun b hb hn => hother b (fun e => hn (by rw [hbl, e]; simp)), cmeq := fun _ _ _ => rfl, wf := ⟨fun b hb => hw.cm b (by simpa using hb), fun b o ho => by rw [hcell]; exact hw.ex b o ho, hp.st hw⟩ }, ?_, fun b hb => .inl (by rw [hbl] at hb ⊢; exact hb)⟩
  have hr1 : RelR g (w.putObj l (.loop lp')) R := ⟨fun x hx => ((hr0.all x hx).kept hp fun b hb => ⟨hother b (fun e => hnl (by subst e; exact mem_blocks.2 ⟨x, hx, hb⟩)), rfl⟩).1, hr0.nodup⟩
  exact after_enter ⟨fun b hb => hw.cm b (by simpa using hb), fun b o ho => by rw [hcell]; exact hw.ex b o ho, hp.st hw⟩ hr1 (World.putObj_heap_same hlt) hnl (fun t => by rw [ht]; exact RelV.mono hp _ _ (hf t))

/-- The temporaries of a round. -/
theorem relF_params {ps : List Nat} (hN : ∀ p ∈ ps, p < N) : ∀ {args : List V} {xs : List Value} {fr : Fr} {tmps : Array Value}, args.length = ps.length → RelF N g w fr tmps → RelL g w args xs →
    RelF N g w (putAll fr ps args) ((ps.zip xs).foldl (fun t (p, v) => t.setIfInBounds p v) tmps) := by
  induction ps with
  | nil => intro args xs fr tmps _ hf _; simpa [putAll] using hf
  | cons p ps ih =>
    intro args xs fr tmps hlen hf hx
    cases args with
    | nil => simp at hlen
    | cons v args =>
      simp only [RelL] at hx
      obtain ⟨x, ys, rfl, hv, hvs⟩ := hx
      simp only [putAll, List.zip_cons_cons, List.foldl_cons]
      have := RelF.put (a := { tmps := tmps, defers := [] }) hf (d := some p) (fun k hk => by cases hk; exact hN p (by simp)) hv
      exact ih (fun q hq => hN q (by simp [hq])) (by simpa using hlen) this hvs

structure Rnd (n0 : Nat) (r : Option Nat) (g : Gh) (w : World) (R : List Res) : Prop where
  size : n0 ≤ w.heap.size
  lop : ∀ l, r = some l → (∃ lp, w.heap[l]? = some (.loop lp)) ∧ l ∉ blocks g R

theorem Rnd.after {r : Option Nat} (h : Rnd n0 r g w R) {g' : Gh} {w' : World} {R' : List Res} (ha : After g w R g' w' R') : Rnd n0 r g' w' R' :=
  ⟨Nat.le_trans h.size ha.ext.size, fun l hl => by
    obtain ⟨⟨lp, h1⟩, h2⟩ := h.lop l hl
    have hlt := (Array.getElem?_eq_some_iff.1 h1).1
    refine ⟨⟨lp, by rw [ha.ext.frame l hlt h2]; exact h1⟩, fun hm => ?_⟩
    rcases ha.own l hm with h3 | h3
    · exact h2 h3
    · omega⟩
theorem Rnd.sub {r : Option Nat} (h : Rnd n0 r g w R) {R' : List Res} (hs : R'.Sublist R) : Rnd n0 r g w R' :=
  ⟨h.size, fun l hl => ⟨(h.lop l hl).1, fun hm => (h.lop l hl).2 ((blocks_sub hs).subset hm)⟩⟩

/-- Where a piece of code may leave to. -/
def PostC (N n0 : Nat) (Q : Exit → Fr → List Res → Prop) (g : Gh) (w : World) (R : List Res) : Exit → Act → World → Prop := fun e a' w' =>
  ∃ g' fr' R', Q e fr' R' ∧ After g w R g' w' R' ∧ RelF N g' w' fr' a'.tmps ∧ Marks n0 g' w' R' a'.defers

/-- ONE ROUND. -/
theorem ycall_round {l : Nat} {lp : Loop} {B : List Res → Prop} {E : Exit → List Res → Prop} {args : List V} {R1 : List Res} (hst : lp.state = .ready) (hpe : lp.pending = none) (hsz : lp.tmps.size = N) (hps : ∀ p ∈ lp.params.toList, p < N)
    (hlen : args.length = lp.params.toList.length)
    (hbody : ∀ (g1 : Gh) (w1 : World) (fr1 : Fr) (a1 : Act), St N 0 g1 w1 R1 fr1 a1 → fr1 = putAll fr lp.params.toList args → Rnd 0 (some l) g1 w1 R1 →
      lp.assign.wpIn (Fw (some l)) 0 P (Exit.then (fun a2 w2 => ∃ g2 fr2 R2, After g1 w1 R1 g2 w2 R2 ∧ RelF N g2 w2 fr2 a2.tmps ∧ Marks 0 g2 w2 R2 a2.defers ∧
        ∀ w3, St N 0 g2 w3 R2 fr2 a2 → Rnd 0 (some l) g2 w3 R2 → lp.body.wpIn (Fw (some l)) 0 P (PostC N 0 (roundEnd B E) g2 w3 R2) a2 w3) fun _ _ _ => False) a1 w1) :
    YCall P l args (R1 ++ [.lop l lp fr]) (yieldPost l lp fr B E) := by
  intro g1 w1 xs hw1 hx hr1
  obtain ⟨hl, hcm, hf⟩ := hr1.all (.lop l lp fr) (by simp)
  have hlt := (Array.getElem?_eq_some_iff.1 hl).1
  have hxl := relL_length hx
  have hy := run_yield (P := P) (args := xs.toArray) hl (by simp at hlen ⊢; omega)
  refine ⟨_, _, _, _, hy, roundIn_of_wpIn trivial ?_⟩
  have hr0 : RelR g1 w1 R1 := hr1.sub (List.sublist_append_left _ _)
  have hnl : l ∉ blocks g1 R1 := fun hm => by
    have := hr1.nodup
    rw [blocks_append, List.nodup_append] at this
    exact this.2.2 l hm l (by simp [blocks, Res.blocks]) rfl
  have hf1 : RelF N g1 w1 (putAll fr lp.params.toList args) ((lp.params.zip xs.toArray).foldl (fun t (p, v) => t.setIfInBounds p v) lp.tmps) := by
    have := relF_params hps hlen (⟨hsz, hf⟩ : RelF N g1 w1 fr lp.tmps) hx
    rw [← Array.foldl_toList]
    simpa using this
  have hrnd : Rnd 0 (some l) g1 w1 R1 := ⟨Nat.zero_le _, fun k hk => by cases hk; exact ⟨⟨lp, hl⟩, hnl⟩⟩
  refine wpIn_mono (hbody g1 w1 _ _ ⟨hw1, hf1, hr0, ⟨⟨[], rfl, List.nodup_nil, by simp⟩⟩⟩ rfl hrnd) ?_
  intro e a2 w2 he
  cases e with
  | normal =>
    obtain ⟨g2, fr2, R2, hA, hf2, hm2, hnext⟩ := he
    have hA1 : After g1 w1 (R1 ++ [.lop l lp fr]) g2 w2 (R2 ++ [.lop l lp fr]) := by simpa using After.frame (A := []) (B := [.lop l lp fr]) (by simpa using hr1) hA
    have hl2 := (hA1.res.all (.lop l lp fr) (by simp)).1
    have hA2 := after_putLoop (lp' := { lp with state := .busy }) hA.ext.wf hA1.res rfl
    refine ⟨_, run_beginRound hl2 hst, ?_⟩
    have hm3 : Marks 0 g2 (w2.putObj l (.loop { lp with state := .busy })) R2 a2.defers := by
      obtain ⟨rs, h1, h2, h3⟩ := hm2.ex
      refine ⟨rs, h1, h2, fun k hk => ?_⟩
      obtain ⟨h4, h5, h6⟩ := h3 k hk
      have hne : l ≠ k := fun e => by subst e; rw [hl2] at h4; cases h4
      exact ⟨(World.putObj_heap_other (Ne.symm hne)).trans h4, h5, h6⟩
    have hres3 := hA2.res
    have hrnd2 := hrnd.after hA
    have hnl2 : l ∉ blocks g2 R2 := (hrnd2.lop l rfl).2
    have hst3 : St N 0 g2 (w2.putObj l (.loop { lp with state := .busy })) R2 fr2 a2 := ⟨hA2.ext.wf, hf2.mono hA2.ext.toPre, hres3.sub (List.sublist_append_left _ _), hm3⟩
    refine wpIn_mono (hnext _ hst3 ⟨Nat.zero_le _, fun k hk => by cases hk; exact ⟨⟨_, (hres3.all (.lop l { lp with state := .busy } fr) (by simp)).1⟩, hnl2⟩⟩) ?_
    rintro e3 a4 w4 ⟨g4, fr4, R4, hq, hA3, hf4, hm4⟩
    have hA4 : After g2 (w2.putObj l (.loop { lp with state := .busy })) (R2 ++ [.lop l { lp with state := .busy } fr]) g4 w4 (R4 ++ [.lop l { lp with state := .busy } fr]) := by
      simpa using After.frame (A := []) (B := [.lop l { lp with state := .busy } fr]) (by simpa using hres3) hA3
    have hl4 := (hA4.res.all (.lop l { lp with state := .busy } fr) (by simp)).1
    have fin : ∀ (jump : Option Code), After g1 w1 (R1 ++ [.lop l lp fr]) g4 (w4.putObj l (.loop { lp with state := if jump.isNone then .ready else .done, pending := jump })) (R4 ++ [.lop l { lp with state := if jump.isNone then .ready else .done, pending := jump } fr]) := fun jump =>
      ((hA1.trans hA2).trans hA4).trans (after_putLoop hA3.ext.wf hA4.res rfl)
    have hready : ({ lp with state := .ready, pending := none } : Loop) = lp := by cases lp; simp_all
    cases e3 with
    | normal =>
      refine ⟨_, _, run_endRound none hl4, true, g4, R4 ++ [.lop l lp fr], rfl, .inl ⟨rfl, R4, rfl, hq⟩, ?_⟩
      have := fin none
      simp only [Option.isNone_none, if_true, hready] at this ⊢
      exact this
    | ret =>
      refine ⟨_, _, run_endRound (some .ret) hl4, false, g4, R4 ++ [.lop l (lp.left .ret) fr], rfl, .inr ⟨rfl, .ret, R4, .inl rfl, rfl, hq⟩, ?_⟩
      exact fin (some .ret)
    | exit id =>
      refine ⟨_, _, run_endRound (some (.exit id)) hl4, false, g4, R4 ++ [.lop l (lp.left (.exit id)) fr], rfl, .inr ⟨rfl, .exit id, R4, .inr ⟨id, rfl⟩, rfl, hq⟩, ?_⟩
      exact fin (some (.exit id))
    | goto t => exact hq.elim
    | panic c => exact hq.elim
    | outgrown => exact hq.elim
  | _ => exact he.elim

end
end Go.Sv
