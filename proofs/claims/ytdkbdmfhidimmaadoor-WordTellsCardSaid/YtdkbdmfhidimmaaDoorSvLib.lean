/- The library's contracts, as calls of values. -/
import Derived.Test.YtdkbdmfhidimmaaDoorSvFrz
import Derived.Below
namespace Go.Sv
open Go Go.RowKit

section
variable {P : Program} {g : Gh} {w w' : World}

theorem after_below (hw : Wf g w) (h : Below w.heap.size w w') : After g w [] g w' [] := by
  have hc : ∀ b o, b < w.heap.size → cell w' b o = cell w b o := fun b o hb => World.cell?_of_block (w := w) (h.block b hb)
  have hlt : ∀ b o, o < g.cm b → b < w.heap.size := fun b o ho => by
    rcases Nat.lt_or_ge b w.heap.size with h1 | h1
    · exact h1
    · rw [hw.cm b h1] at ho; omega
  have hp : Pre g w g w' := ⟨fun _ => Nat.le_refl _, fun b o ho => hc b o (hlt b o ho), Nat.le_refl _, fun _ _ => rfl⟩
  refine ⟨{ hp with os := h.os, tape := h.tape, output := h.output, size := h.size, frame := fun b hb _ => h.block b hb, cmeq := fun _ _ _ => rfl, wf := ⟨fun b hb => hw.cm b (Nat.le_trans h.size hb), fun b o ho => by rw [hc b o (hlt b o ho)]; exact hw.ex b o ho, hp.st hw⟩ }, ⟨by simp, by simp [blocks]⟩, by simp [blocks]⟩

theorem run_call {f : FuncId} (hf : isFn P f) (xs : Array Value) : (callFunc f xs).run P w = .ok (.enter f xs) w := by
  obtain ⟨fn, c, h1, h2, h3⟩ := hf
  have hn' : ¬ fn.name = "runtime.NumGoroutine" := by simpa using h3
  simp [callFunc, h1, h2, hn']

/-- Whatever makes memory of its own and leaves the rest as it was. -/
theorem pcall_of_below {f : FuncId} {args : List V} {v : V} (hf : isFn P f) (h : ∀ (g : Gh) (w : World) (xs : List Value), Wf g w → RelL g w args xs → Calls P f xs.toArray w fun e w' => ∃ x, e = .returned x ∧ Below w.heap.size w w' ∧ RelV g w' v x) : PCall P f args v := by
  intro g w xs hw hx hr
  refine .inr (.inl ⟨f, xs.toArray, w, run_call hf _, callsIn_wide.2 (Calls.mono (h g w xs hw hx) ?_)⟩)
  rintro e w' ⟨x, rfl, hb, hv⟩
  exact ⟨x, rfl, v, g, [], rfl, after_below hw hb, hv⟩

theorem relL1 {v : V} {xs : List Value} (h : RelL g w [v] xs) : ∃ x, xs = [x] ∧ RelV g w v x := rel_one h
theorem relL2 {u v : V} {xs : List Value} (h : RelL g w [u, v] xs) : ∃ x y, xs = [x, y] ∧ RelV g w u x ∧ RelV g w v y := rel_two h

/-- A row of results that are values alone. -/
theorem pcall_c2 {f : FuncId} {a b x : Value} (hf : isFn P f) (h : ∀ w : World, Calls P f #[a, b] w fun e w' => e = .returned x ∧ Below w.heap.size w w') : PCall P f [.c a, .c b] (.c x) :=
  pcall_of_below hf fun g w xs _ hx => by
    obtain ⟨p, q, rfl, hp, hq⟩ := relL2 hx
    simp only [RelV] at hp hq
    subst hp; subst hq
    exact (h w).mono fun e w' ⟨h1, h2⟩ => ⟨x, h1, h2, by simp only [RelV]⟩
theorem pcall_c1 {f : FuncId} {a x : Value} (hf : isFn P f) (h : ∀ w : World, Calls P f #[a] w fun e w' => e = .returned x ∧ Below w.heap.size w w') : PCall P f [.c a] (.c x) :=
  pcall_of_below hf fun g w xs _ hx => by
    obtain ⟨p, rfl, hp⟩ := relL1 hx
    simp only [RelV] at hp
    subst hp
    exact (h w).mono fun e w' ⟨h1, h2⟩ => ⟨x, h1, h2, by simp only [RelV]⟩
end
end Go.Sv
