/- What values say of memory; what a run may change. -/
import Derived.Test.YtdkbdmfhidimmaaDoorSvExec
import Derived.WalkKit
namespace Go.Sv
open Go

/-- Beside the world: how many cells of each block never change again; how many tokens there are; each token's slice. -/
structure Gh where
  cm : Nat → Nat
  nt : Nat
  th : Nat → Value

def cell (w : World) (b o : Nat) : Option Value := w.cell? ⟨b, o, none⟩

mutual
def RelV (g : Gh) (w : World) : V → Value → Prop
  | .c v, x => x = v
  | .sl sh xs tok, x => ∃ a n cap, x = .slice a n cap ∧ n = xs.length ∧ n ≤ cap ∧
      (match tok with | .no => True | .zero => cap = 0 | .t k => k < g.nt ∧ x = g.th k) ∧
      (xs = [] ∨ ∃ b o, a = some ⟨b, o, none⟩ ∧ o + n * width sh ≤ g.cm b ∧ RelXs g w sh xs (fun i => cell w b (o + i)))
  | .lsl _ b o n cap, x => ∃ a, x = .slice a n cap ∧ n ≤ cap ∧ (cap = 0 ∨ a = some ⟨b, o, none⟩)
  | .pt sh v off, x => ∃ b o, x = .pointer (some ⟨b, o + off, none⟩) ∧ o + width sh ≤ g.cm b ∧
      (match sh with
       | none => ∃ y, cell w b o = some y ∧ RelV g w v y
       | some k => ∃ l : Array Value, l.size = k ∧ (∀ i, i < k → cell w b (o + i) = l[i]?) ∧ RelV g w v (.agg l))
  | .loc b off, x => x = .pointer (some ⟨b, off, none⟩)
  | .fn f fi ca, x => ∃ l m : Array Value, x = .func f l m ∧ RelL g w fi l.toList ∧ RelL g w ca m.toList
  | .ifc t v, x => ∃ y, x = .iface t y ∧ RelV g w v y
  | .agg cs, x => ∃ l : Array Value, x = .agg l ∧ RelL g w cs l.toList
  | .tup cs, x => ∃ l : Array Value, x = .tuple l ∧ RelL g w cs l.toList
  | .undef, _ => True
def RelL (g : Gh) (w : World) : List V → List Value → Prop
  | [], l => l = []
  | v :: vs, l => ∃ x xs, l = x :: xs ∧ RelV g w v x ∧ RelL g w vs xs
def RelXs (g : Gh) (w : World) (sh : Option Nat) : List V → (Nat → Option Value) → Prop
  | [], _ => True
  | v :: vs, rd =>
      (match sh with
       | none => ∃ y, rd 0 = some y ∧ RelV g w v y
       | some k => ∃ l : Array Value, l.size = k ∧ (∀ i, i < k → rd i = l[i]?) ∧ RelV g w v (.agg l)) ∧
      RelXs g w sh vs (fun i => rd (i + width sh))
end

/-- One element, its cells read by rd. -/
def RelE (g : Gh) (w : World) (sh : Option Nat) (v : V) (rd : Nat → Option Value) : Prop :=
  match sh with
  | none => ∃ y, rd 0 = some y ∧ RelV g w v y
  | some k => ∃ l : Array Value, l.size = k ∧ (∀ i, i < k → rd i = l[i]?) ∧ RelV g w v (.agg l)

theorem relXs_cons {g : Gh} {w : World} {sh : Option Nat} {v : V} {vs : List V} {rd : Nat → Option Value} :
    RelXs g w sh (v :: vs) rd ↔ RelE g w sh v rd ∧ RelXs g w sh vs (fun i => rd (i + width sh)) := by
  cases sh <;> simp [RelXs, RelE]

theorem relV_pt {g : Gh} {w : World} {sh : Option Nat} {v : V} {off : Nat} {x : Value} :
    RelV g w (.pt sh v off) x ↔ ∃ b o, x = .pointer (some ⟨b, o + off, none⟩) ∧ o + width sh ≤ g.cm b ∧ RelE g w sh v (fun i => cell w b (o + i)) := by
  cases sh <;> simp [RelV, RelE]

/-- What holds on: no cell that never changes has changed; tokens are what they were. -/
structure Pre (g : Gh) (w : World) (g' : Gh) (w' : World) : Prop where
  cmle : ∀ b, g.cm b ≤ g'.cm b
  com : ∀ b o, o < g.cm b → cell w' b o = cell w b o
  nt : g.nt ≤ g'.nt
  th : ∀ t, t < g.nt → g'.th t = g.th t

theorem Pre.refl (g : Gh) (w : World) : Pre g w g w := ⟨fun _ => Nat.le_refl _, fun _ _ _ => rfl, Nat.le_refl _, fun _ _ => rfl⟩
theorem Pre.trans {g g' g'' : Gh} {w w' w'' : World} (h : Pre g w g' w') (h' : Pre g' w' g'' w'') : Pre g w g'' w'' :=
  ⟨fun b => Nat.le_trans (h.cmle b) (h'.cmle b), fun b o ho => (h'.com b o (Nat.lt_of_lt_of_le ho (h.cmle b))).trans (h.com b o ho),
   Nat.le_trans h.nt h'.nt, fun t ht => (h'.th t (Nat.lt_of_lt_of_le ht h.nt)).trans (h.th t ht)⟩

section
variable {g g' : Gh} {w w' : World}

mutual
theorem RelV.mono (h : Pre g w g' w') : ∀ (v : V) (x : Value), RelV g w v x → RelV g' w' v x
  | .c _, _, hx => by simpa [RelV] using hx
  | .sl sh xs tok, x, hx => by
    simp only [RelV] at hx ⊢
    obtain ⟨a, n, cap, rfl, hn, hc, ht, hxs⟩ := hx
    refine ⟨a, n, cap, rfl, hn, hc, ?_, ?_⟩
    · cases tok with
      | no => trivial
      | zero => exact ht
      | t k => exact ⟨Nat.lt_of_lt_of_le ht.1 h.nt, by rw [h.th k ht.1]; exact ht.2⟩
    · rcases hxs with hxs | ⟨b, o, ha, hle, hr⟩
      · exact .inl hxs
      · refine .inr ⟨b, o, ha, Nat.le_trans hle (h.cmle b), RelXs.mono h sh xs _ _ (fun i hi => ?_) hr⟩
        exact h.com b (o + i) (by subst hn; omega)
  | .lsl _ _ _ _ _, x, hx => by simpa [RelV] using hx
  | .pt sh v off, x, hx => by
    rw [relV_pt] at hx ⊢
    obtain ⟨b, o, rfl, hle, hv⟩ := hx
    refine ⟨b, o, rfl, Nat.le_trans hle (h.cmle b), ?_⟩
    cases sh with
    | none =>
      obtain ⟨y, hy, hr⟩ := hv
      exact ⟨y, (h.com b _ (by simp [width] at hle; omega)).trans hy, RelV.mono h v y hr⟩
    | some k =>
      obtain ⟨l, hl, hc, hr⟩ := hv
      exact ⟨l, hl, fun i hi => (h.com b _ (by simp [width] at hle; omega)).trans (hc i hi), RelV.mono h v _ hr⟩
  | .loc _ _, _, hx => by simpa [RelV] using hx
  | .fn f fi ca, x, hx => by
    simp only [RelV] at hx ⊢
    obtain ⟨l, m, rfl, h1, h2⟩ := hx
    exact ⟨l, m, rfl, RelL.mono h fi _ h1, RelL.mono h ca _ h2⟩
  | .ifc t v, x, hx => by
    simp only [RelV] at hx ⊢
    obtain ⟨y, rfl, h1⟩ := hx
    exact ⟨y, rfl, RelV.mono h v y h1⟩
  | .agg cs, x, hx => by
    simp only [RelV] at hx ⊢
    obtain ⟨l, rfl, h1⟩ := hx
    exact ⟨l, rfl, RelL.mono h cs _ h1⟩
  | .tup cs, x, hx => by
    simp only [RelV] at hx ⊢
    obtain ⟨l, rfl, h1⟩ := hx
    exact ⟨l, rfl, RelL.mono h cs _ h1⟩
  | .undef, _, _ => by simp [RelV]
theorem RelL.mono (h : Pre g w g' w') : ∀ (vs : List V) (xs : List Value), RelL g w vs xs → RelL g' w' vs xs
  | [], _, hx => by simpa [RelL] using hx
  | v :: vs, l, hx => by
    simp only [RelL] at hx ⊢
    obtain ⟨x, xs, rfl, h1, h2⟩ := hx
    exact ⟨x, xs, rfl, RelV.mono h v x h1, RelL.mono h vs xs h2⟩
theorem RelXs.mono (h : Pre g w g' w') (sh : Option Nat) : ∀ (vs : List V) (rd rd' : Nat → Option Value), (∀ i, i < vs.length * width sh → rd' i = rd i) → RelXs g w sh vs rd → RelXs g' w' sh vs rd'
  | [], _, _, _, _ => by simp [RelXs]
  | v :: vs, rd, rd', hrd, hx => by
    have hlen : (v :: vs).length * width sh = width sh + vs.length * width sh := by simp [Nat.add_mul]; omega
    rw [hlen] at hrd
    rw [relXs_cons] at hx ⊢
    refine ⟨?_, RelXs.mono h sh vs _ _ (fun i hi => hrd _ (by omega)) hx.2⟩
    have h1 := hx.1
    cases sh with
    | none =>
      obtain ⟨y, hy, hr⟩ := h1
      exact ⟨y, (hrd 0 (by simp [width]; omega)).trans hy, RelV.mono h v y hr⟩
    | some k =>
      obtain ⟨l, hl, hc, hr⟩ := h1
      exact ⟨l, hl, fun i hi => (hrd i (by simp [width]; omega)).trans (hc i hi), RelV.mono h v _ hr⟩
end

theorem RelE.mono (h : Pre g w g' w') {sh : Option Nat} {v : V} {rd rd' : Nat → Option Value} (hrd : ∀ i, i < width sh → rd' i = rd i) (hx : RelE g w sh v rd) : RelE g' w' sh v rd' := by
  have := RelXs.mono h sh [v] rd rd' (by simpa using hrd) (relXs_cons.2 ⟨hx, by simp [RelXs]⟩)
  exact (relXs_cons.1 this).1
end

theorem relL_length {g : Gh} {w : World} : ∀ {vs : List V} {xs : List Value}, RelL g w vs xs → xs.length = vs.length
  | [], _, h => by simp [RelL] at h; simp [h]
  | v :: vs, l, h => by
    simp only [RelL] at h
    obtain ⟨x, xs, rfl, _, h2⟩ := h
    simp [relL_length h2]

theorem relL_get {g : Gh} {w : World} : ∀ {vs : List V} {xs : List Value} {i : Nat} {v : V}, RelL g w vs xs → vs[i]? = some v → ∃ x, xs[i]? = some x ∧ RelV g w v x
  | [], _, _, _, _, hi => by simp at hi
  | v :: vs, l, i, u, h, hi => by
    simp only [RelL] at h
    obtain ⟨x, xs, rfl, h1, h2⟩ := h
    cases i with
    | zero => simp at hi; subst hi; exact ⟨x, rfl, h1⟩
    | succ i => simp at hi; simpa using relL_get h2 hi

theorem relL_of_get {g : Gh} {w : World} : ∀ {vs : List V} {xs : List Value}, xs.length = vs.length → (∀ (i : Nat) (v : V) (x : Value), vs[i]? = some v → xs[i]? = some x → RelV g w v x) → RelL g w vs xs
  | [], xs, hl, _ => by simp [RelL]; exact List.eq_nil_of_length_eq_zero hl
  | v :: vs, [], hl, _ => by simp at hl
  | v :: vs, x :: xs, hl, h => by
    simp only [RelL]
    exact ⟨x, xs, rfl, h 0 v x rfl rfl, relL_of_get (by simpa using hl) fun i u y hu hy => h (i + 1) u y (by simpa using hu) (by simpa using hy)⟩

theorem relL_append {g : Gh} {w : World} : ∀ {vs us : List V} {xs ys : List Value}, RelL g w vs xs → RelL g w us ys → RelL g w (vs ++ us) (xs ++ ys)
  | [], _, _, _, h, h' => by simp [RelL] at h; subst h; simpa using h'
  | v :: vs, us, l, ys, h, h' => by
    simp only [RelL] at h
    obtain ⟨x, xs, rfl, h1, h2⟩ := h
    simp only [List.cons_append, RelL]
    exact ⟨x, xs ++ ys, rfl, h1, relL_append h2 h'⟩

theorem relL_take {g : Gh} {w : World} {vs : List V} {xs : List Value} (h : RelL g w vs xs) (n : Nat) : RelL g w (vs.take n) (xs.take n) := by
  have hl := relL_length h
  refine relL_of_get (by simp [hl]) fun i v x hv hx => ?_
  rw [List.getElem?_take] at hv hx
  split at hv
  · obtain ⟨y, hy, hr⟩ := relL_get h hv
    simp_all
  · cases hv

theorem relL_drop {g : Gh} {w : World} {vs : List V} {xs : List Value} (h : RelL g w vs xs) (n : Nat) : RelL g w (vs.drop n) (xs.drop n) := by
  have hl := relL_length h
  refine relL_of_get (by simp [hl]) fun i v x hv hx => ?_
  rw [List.getElem?_drop] at hv hx
  obtain ⟨y, hy, hr⟩ := relL_get h hv
  simp_all

/-- The i-th element of a slice's row. -/
theorem relXs_get {g : Gh} {w : World} {sh : Option Nat} : ∀ {vs : List V} {rd : Nat → Option Value} {i : Nat} {v : V}, RelXs g w sh vs rd → vs[i]? = some v → RelE g w sh v (fun j => rd (i * width sh + j))
  | [], _, _, _, _, hi => by simp at hi
  | v :: vs, rd, i, u, h, hi => by
    rw [relXs_cons] at h
    cases i with
    | zero => simp at hi; subst hi; simpa using h.1
    | succ i =>
      simp at hi
      have := relXs_get h.2 hi
      have e : (fun j => rd (i * width sh + j + width sh)) = (fun j => rd ((i + 1) * width sh + j)) := by
        funext j; congr 1; rw [Nat.add_mul]; omega
      rw [← e]; exact this

theorem relXs_of_get {g : Gh} {w : World} {sh : Option Nat} : ∀ {vs : List V} {rd : Nat → Option Value}, (∀ (i : Nat) (v : V), vs[i]? = some v → RelE g w sh v (fun j => rd (i * width sh + j))) → RelXs g w sh vs rd
  | [], _, _ => by simp [RelXs]
  | v :: vs, rd, h => by
    rw [relXs_cons]
    refine ⟨by simpa using h 0 v rfl, relXs_of_get fun i u hu => ?_⟩
    have := h (i + 1) u (by simpa using hu)
    have e : (fun j => rd ((i + 1) * width sh + j)) = (fun j => rd (i * width sh + j + width sh)) := by
      funext j; congr 1; rw [Nat.add_mul]; omega
    rw [e] at this; exact this

/-- One value says less than another one. -/
def Vle (v v' : V) : Prop := ∀ g w x, RelV g w v x → RelV g w v' x
theorem Vle.refl (v : V) : Vle v v := fun _ _ _ h => h
theorem Vle.trans {a b c : V} (h : Vle a b) (h' : Vle b c) : Vle a c := fun _ _ _ hx => h' _ _ _ (h _ _ _ hx)
theorem Vle.undef (v : V) : Vle v .undef := fun _ _ _ _ => by simp [RelV]
theorem Vle.sl (sh : Option Nat) (xs : List V) (tok : Tk) : Vle (.sl sh xs tok) (.sl sh xs .no) := fun _ _ _ h => by
  simp only [RelV] at h ⊢
  obtain ⟨a, n, cap, rfl, hn, hc, _, hx⟩ := h
  exact ⟨a, n, cap, rfl, hn, hc, trivial, hx⟩
theorem Vle.nil (sh sh' : Option Nat) (tok : Tk) : Vle (.sl sh [] tok) (.sl sh' [] .no) := fun _ _ _ h => by
  simp only [RelV] at h ⊢
  obtain ⟨a, n, cap, rfl, hn, hc, _, _⟩ := h
  exact ⟨a, n, cap, rfl, hn, hc, trivial, .inl (by trivial)⟩
theorem Vle.nil0 (sh sh' : Option Nat) (tok : Tk) : Vle (.sl sh [] tok) (.sl sh' [] tok) := fun _ _ _ h => by
  simp only [RelV] at h ⊢
  obtain ⟨a, n, cap, rfl, hn, hc, ht, _⟩ := h
  exact ⟨a, n, cap, rfl, hn, hc, ht, .inl (by trivial)⟩

inductive VleL : List V → List V → Prop
  | nil : VleL [] []
  | cons {v v' : V} {vs vs' : List V} (h : Vle v v') (hs : VleL vs vs') : VleL (v :: vs) (v' :: vs')
theorem VleL.refl : ∀ vs, VleL vs vs
  | [] => .nil
  | v :: vs => .cons (.refl v) (VleL.refl vs)
theorem VleL.length {vs us : List V} (h : VleL vs us) : us.length = vs.length := by
  induction h with
  | nil => rfl
  | cons _ _ ih => simp [ih]
theorem VleL.rel {g : Gh} {w : World} {vs us : List V} (h : VleL vs us) : ∀ {xs : List Value}, RelL g w vs xs → RelL g w us xs := by
  induction h with
  | nil => exact fun hx => hx
  | cons hv _ ih =>
    intro xs hx
    simp only [RelL] at hx ⊢
    obtain ⟨x, ys, rfl, h1, h2⟩ := hx
    exact ⟨x, ys, rfl, hv _ _ _ h1, ih h2⟩
theorem VleL.get {vs us : List V} (h : VleL vs us) : ∀ {i : Nat} {u : V}, us[i]? = some u → ∃ v, vs[i]? = some v ∧ Vle v u := by
  induction h with
  | nil => intro i u hu; simp at hu
  | cons hv _ ih =>
    intro i u hu
    cases i with
    | zero => simp at hu; subst hu; exact ⟨_, rfl, hv⟩
    | succ i => simp at hu; simpa using ih hu
theorem Vle.agg {cs ds : List V} (h : VleL cs ds) : Vle (.agg cs) (.agg ds) := fun _ _ _ hx => by
  simp only [RelV] at hx ⊢
  obtain ⟨l, rfl, h1⟩ := hx
  exact ⟨l, rfl, h.rel h1⟩
theorem Vle.tup {cs ds : List V} (h : VleL cs ds) : Vle (.tup cs) (.tup ds) := fun _ _ _ hx => by
  simp only [RelV] at hx ⊢
  obtain ⟨l, rfl, h1⟩ := hx
  exact ⟨l, rfl, h.rel h1⟩
theorem Vle.pt {sh : Option Nat} {v u : V} {off : Nat} (h : Vle v u) : Vle (.pt sh v off) (.pt sh u off) := fun g w x hx => by
  rw [relV_pt] at hx ⊢
  obtain ⟨b, o, rfl, hle, hv⟩ := hx
  refine ⟨b, o, rfl, hle, ?_⟩
  cases sh with
  | none => obtain ⟨y, hy, hr⟩ := hv; exact ⟨y, hy, h _ _ _ hr⟩
  | some k => obtain ⟨l, hl, hc, hr⟩ := hv; exact ⟨l, hl, hc, h _ _ _ hr⟩
theorem Vle.fn {f : Fn} {a b c d : List V} (h : VleL a b) (h' : VleL c d) : Vle (.fn f a c) (.fn f b d) := fun _ _ _ hx => by
  simp only [RelV] at hx ⊢
  obtain ⟨l, m, rfl, h1, h2⟩ := hx
  exact ⟨l, m, rfl, h.rel h1, h'.rel h2⟩
theorem RelE.vle {g : Gh} {w : World} {sh : Option Nat} {v u : V} {rd : Nat → Option Value} (h : Vle v u) (hx : RelE g w sh v rd) : RelE g w sh u rd := by
  cases sh with
  | none => obtain ⟨y, hy, hr⟩ := hx; exact ⟨y, hy, h _ _ _ hr⟩
  | some k => obtain ⟨l, hl, hc, hr⟩ := hx; exact ⟨l, hl, hc, h _ _ _ hr⟩
theorem relXs_vle {g : Gh} {w : World} {sh : Option Nat} {vs us : List V} (h : VleL vs us) : ∀ {rd : Nat → Option Value}, RelXs g w sh vs rd → RelXs g w sh us rd := by
  induction h with
  | nil => exact fun hx => hx
  | cons hv _ ih => intro rd hx; rw [relXs_cons] at hx ⊢; exact ⟨hx.1.vle hv, ih hx.2⟩
theorem Vle.xs {sh : Option Nat} {tok : Tk} {xs ys : List V} (h : VleL xs ys) : Vle (.sl sh xs tok) (.sl sh ys tok) := fun g w x hx => by
  simp only [RelV] at hx ⊢
  obtain ⟨a, n, cap, rfl, hn, hc, ht, hr⟩ := hx
  refine ⟨a, n, cap, rfl, hn.trans h.length.symm, hc, ht, ?_⟩
  rcases hr with rfl | ⟨b, o, ha, hle, hr⟩
  · cases h; exact .inl rfl
  · exact .inr ⟨b, o, ha, hle, relXs_vle h hr⟩

/-- What a run owns. obj: an object whose cells may change · tok: the right to append to a token's slice · lop: a loop over a function that is under way. -/
inductive Res where
  | obj (b : Nat) (cs : List V)
  | tok (t : Nat) (sh : Option Nat)
  | lop (l : Nat) (lp : Loop) (fr : Nat → V)

def blockOf (x : Value) : List Nat :=
  match x with
  | .slice (some a) _ (_ + 1) => [a.block]
  | _ => []

def Res.blocks (g : Gh) : Res → List Nat
  | .obj b cs => match cs with
    | [] => []
    | _ :: _ => [b]
  | .tok t _ => blockOf (g.th t)
  | .lop l _ _ => [l]

/-- None of so many cells is frozen. -/
def fzOk (fz : Nat × Nat) (n : Nat) : Prop := ∀ i, i < n → ¬ (fz.1 ≤ i ∧ i < fz.2)

def RelRes (g : Gh) (w : World) : Res → Prop
  | .obj b cs => cs = [] ∨ ∃ vals e fz, w.heap[b]? = some (.cells vals e fz) ∧ fzOk fz vals.size ∧ RelL g w cs vals.toList ∧ g.cm b = 0
  | .tok t sh => t < g.nt ∧ ((∃ A, g.th t = .slice A 0 0) ∨ ∃ b n cap cur e, g.th t = .slice (some ⟨b, 0, none⟩) n (cap + 1) ∧ w.heap[b]? = some (.cells cur e (0, 0)) ∧ n ≤ cap + 1 ∧ cap + 1 ≤ maxLen ∧ cur.size = (cap + 1) * width sh ∧ g.cm b = n * width sh)
  | .lop l lp fr => w.heap[l]? = some (.loop lp) ∧ g.cm l = 0 ∧ ∀ t, RelV g w (fr t) (lp.tmps.getD t undef)

def blocks (g : Gh) (R : List Res) : List Nat := R.flatMap (Res.blocks g)

structure RelR (g : Gh) (w : World) (R : List Res) : Prop where
  all : ∀ r ∈ R, RelRes g w r
  nodup : (blocks g R).Nodup

/-- The bookkeeping is right: nothing is said of blocks that aren't there. -/
structure Wf (g : Gh) (w : World) : Prop where
  cm : ∀ b, w.heap.size ≤ b → g.cm b = 0
  ex : ∀ b o, o < g.cm b → (cell w b o).isSome
  st : ∀ p ∈ statics, ∃ v, cell w p.1 0 = some v ∧ p.2 v ∧ 0 < g.cm p.1

theorem Pre.st {g g' : Gh} {w w' : World} (hp : Pre g w g' w') (hw : Wf g w) : ∀ p ∈ statics, ∃ v, cell w' p.1 0 = some v ∧ p.2 v ∧ 0 < g'.cm p.1 := fun p hm => by
  obtain ⟨v, h1, h2, h3⟩ := hw.st p hm
  exact ⟨v, (hp.com p.1 0 h3).trans h1, h2, Nat.lt_of_lt_of_le h3 (hp.cmle p.1)⟩

/-- What has changed: of what was there nothing but own blocks, and of these nothing that never changes. -/
structure Ext (own : List Nat) (g : Gh) (w : World) (g' : Gh) (w' : World) : Prop extends Pre g w g' w' where
  os : w'.os = w.os
  tape : w'.tape = w.tape
  output : w'.output = w.output
  size : w.heap.size ≤ w'.heap.size
  frame : ∀ b, b < w.heap.size → b ∉ own → w'.heap[b]? = w.heap[b]?
  cmeq : ∀ b, b < w.heap.size → b ∉ own → g'.cm b = g.cm b
  wf : Wf g' w'

theorem Ext.refl (own : List Nat) {g : Gh} {w : World} (h : Wf g w) : Ext own g w g w :=
  { Pre.refl g w with os := rfl, tape := rfl, output := rfl, size := Nat.le_refl _, frame := fun _ _ _ => rfl, cmeq := fun _ _ _ => rfl, wf := h }

theorem Ext.trans {own own' : List Nat} {g g' g'' : Gh} {w w' w'' : World} (h : Ext own g w g' w') (h' : Ext own' g' w' g'' w'') (ho : ∀ b ∈ own', b ∈ own ∨ w.heap.size ≤ b) : Ext own g w g'' w'' :=
  { h.toPre.trans h'.toPre with
    os := h'.os.trans h.os, tape := h'.tape.trans h.tape, output := h'.output.trans h.output, size := Nat.le_trans h.size h'.size
    frame := fun b hb hn => (h'.frame b (Nat.lt_of_lt_of_le hb h.size) (fun hm => by rcases ho b hm with h1 | h1; exact hn h1; omega)).trans (h.frame b hb hn)
    cmeq := fun b hb hn => (h'.cmeq b (Nat.lt_of_lt_of_le hb h.size) (fun hm => by rcases ho b hm with h1 | h1; exact hn h1; omega)).trans (h.cmeq b hb hn)
    wf := h'.wf }

theorem Ext.mono {own own' : List Nat} {g g' : Gh} {w w' : World} (h : Ext own g w g' w') (ho : ∀ b ∈ own, b ∈ own') : Ext own' g w g' w' :=
  { h with frame := fun b hb hn => h.frame b hb (fun hm => hn (ho b hm)), cmeq := fun b hb hn => h.cmeq b hb (fun hm => hn (ho b hm)) }

theorem mem_blocks {g : Gh} {R : List Res} {b : Nat} : b ∈ blocks g R ↔ ∃ r ∈ R, b ∈ r.blocks g := by simp [blocks]

theorem RelRes.tok_lt {g : Gh} {w : World} {t : Nat} {sh : Option Nat} (h : RelRes g w (.tok t sh)) : t < g.nt := h.1

theorem RelRes.blocks_lt {g : Gh} {w : World} {r : Res} (h : RelRes g w r) {b : Nat} (hb : b ∈ r.blocks g) : b < w.heap.size := by
  cases r with
  | obj c cs =>
    cases cs with
    | nil => simp [Res.blocks] at hb
    | cons d ds =>
      simp [Res.blocks] at hb; subst hb
      rcases h with h | ⟨vals, e, fz, hh, _⟩
      · cases h
      · exact (Array.getElem?_eq_some_iff.1 hh).1
  | tok t sh =>
    obtain ⟨_, h⟩ := h
    rcases h with ⟨A, h⟩ | ⟨c, n, cap, cur, e, h1, h2, _⟩
    · cases A <;> simp [Res.blocks, h, blockOf] at hb
    · simp [Res.blocks, h1, blockOf] at hb; subst hb; exact (Array.getElem?_eq_some_iff.1 h2).1
  | lop l lp fr =>
    simp [Res.blocks] at hb; subst hb
    exact (Array.getElem?_eq_some_iff.1 h.1).1

/-- A resource whose blocks lie as they lay is what it was. -/
theorem RelRes.kept {g g' : Gh} {w w' : World} {r : Res} (h : RelRes g w r) (hp : Pre g w g' w') (hb : ∀ b ∈ r.blocks g, w'.heap[b]? = w.heap[b]? ∧ g'.cm b = g.cm b) : RelRes g' w' r ∧ r.blocks g' = r.blocks g := by
  cases r with
  | obj c cs =>
    refine ⟨?_, rfl⟩
    cases cs with
    | nil => exact .inl rfl
    | cons d ds =>
      rcases h with h | ⟨vals, e, fz, hh, hz, hl, hc⟩
      · cases h
      · have := hb c (by simp [Res.blocks])
        exact .inr ⟨vals, e, fz, by rw [this.1]; exact hh, hz, RelL.mono hp _ _ hl, by rw [this.2]; exact hc⟩
  | tok t sh =>
    obtain ⟨ht, h⟩ := h
    have hth := hp.th t ht
    refine ⟨⟨Nat.lt_of_lt_of_le ht hp.nt, ?_⟩, by simp [Res.blocks, hth]⟩
    rw [hth]
    rcases h with h | ⟨c, n, cap, cur, e, h1, h2, h3⟩
    · exact .inl h
    · have := hb c (by simp [Res.blocks, h1, blockOf])
      exact .inr ⟨c, n, cap, cur, e, h1, by rw [this.1]; exact h2, by rw [this.2]; exact h3⟩
  | lop l lp fr =>
    have := hb l (by simp [Res.blocks])
    exact ⟨⟨by rw [this.1]; exact h.1, by rw [this.2]; exact h.2.1, fun t => RelV.mono hp _ _ (h.2.2 t)⟩, rfl⟩

/-- Resources that a step does not own are what they were. -/
theorem RelR.kept {g g' : Gh} {w w' : World} {R : List Res} {own : List Nat} (h : RelR g w R) (he : Ext own g w g' w') (hd : ∀ b ∈ blocks g R, b ∉ own) : RelR g' w' R ∧ blocks g' R = blocks g R := by
  have hk : ∀ r ∈ R, RelRes g' w' r ∧ r.blocks g' = r.blocks g := fun r hr =>
    (h.all r hr).kept he.toPre fun b hb => by
      have hm : b ∈ blocks g R := mem_blocks.2 ⟨r, hr, hb⟩
      exact ⟨he.frame b ((h.all r hr).blocks_lt hb) (hd b hm), he.cmeq b ((h.all r hr).blocks_lt hb) (hd b hm)⟩
  have hbl : blocks g' R = blocks g R := by
    unfold blocks
    have : ∀ R' : List Res, (∀ r ∈ R', r.blocks g' = r.blocks g) → R'.flatMap (Res.blocks g') = R'.flatMap (Res.blocks g) := by
      intro R' hR'
      induction R' with
      | nil => rfl
      | cons r R' ih => simp [hR' r (by simp), ih fun r hr => hR' r (by simp [hr])]
    exact this R fun r hr => (hk r hr).2
  exact ⟨⟨fun r hr => (hk r hr).1, by rw [hbl]; exact h.nodup⟩, hbl⟩

theorem blocks_sub {g : Gh} {R R' : List Res} (hs : R'.Sublist R) : (blocks g R').Sublist (blocks g R) := by
  unfold blocks
  induction hs with
  | slnil => exact List.Sublist.refl _
  | cons r _ ih => simp only [List.flatMap_cons]; exact ih.trans (List.sublist_append_right _ _)
  | cons_cons r _ ih => simp only [List.flatMap_cons]; exact (List.Sublist.refl _).append ih

theorem RelR.sub {g : Gh} {w : World} {R R' : List Res} (h : RelR g w R) (hs : R'.Sublist R) : RelR g w R' :=
  ⟨fun r hr => h.all r (hs.subset hr), h.nodup.sublist (blocks_sub hs)⟩

/-- Where a run has come to. -/
structure After (g : Gh) (w : World) (R : List Res) (g' : Gh) (w' : World) (R' : List Res) : Prop where
  ext : Ext (blocks g R) g w g' w'
  res : RelR g' w' R'
  own : ∀ b ∈ blocks g' R', b ∈ blocks g R ∨ w.heap.size ≤ b

theorem After.refl {g : Gh} {w : World} {R : List Res} (hw : Wf g w) (h : RelR g w R) : After g w R g w R := ⟨Ext.refl _ hw, h, fun _ hb => .inl hb⟩
theorem After.trans {g g' g'' : Gh} {w w' w'' : World} {R R' R'' : List Res} (h : After g w R g' w' R') (h' : After g' w' R' g'' w'' R'') : After g w R g'' w'' R'' :=
  ⟨h.ext.trans h'.ext h.own, h'.res, fun b hb => by
    rcases h'.own b hb with h1 | h1
    · exact h.own b h1
    · exact .inr (Nat.le_trans h.ext.size h1)⟩
theorem After.sub {g g' : Gh} {w w' : World} {R R' R'' : List Res} (h : After g w R g' w' R') (hs : R''.Sublist R') : After g w R g' w' R'' :=
  ⟨h.ext, h.res.sub hs, fun b hb => h.own b (by
    obtain ⟨r, hr, hb⟩ := mem_blocks.1 hb
    exact mem_blocks.2 ⟨r, hs.subset hr, hb⟩)⟩

end Go.Sv
