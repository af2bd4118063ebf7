/- Words with blanks between: what the plain function answers. -/
import Derived.Test.YtdkbdmfhidimmaaDoorItems
namespace Go.Sv
open Go

def bkW : List (List UInt8) := [[97], [97, 98, 99], [49, 50], [45, 55], [34, 120, 32, 121, 34], [83, 69, 81], [40], [41], [60, 61], [60], [33, 61], [43]]
def bkN : List Nx := [⟨1, [97], 0, 1⟩, ⟨1, [97, 98, 99], 0, 3⟩, ⟨2, [], 12, 2⟩, ⟨2, [], -7, 2⟩, ⟨3, [120, 32, 121], 0, 5⟩, ⟨4, [83, 69, 81], 0, 3⟩, ⟨5, [40], 0, 1⟩, ⟨5, [41], 0, 1⟩, ⟨5, [60, 61], 0, 2⟩, ⟨5, [60], 0, 1⟩, ⟨5, [33, 61], 0, 2⟩, ⟨5, [43], 0, 1⟩]
def bw (k : Nat) : List UInt8 := bkW.getD k []
def bn (k : Nat) : Nx := bkN.getD k ⟨0, [], 0, 0⟩
/-- Words, so many blanks behind each. -/
def bText : List (Nat × Nat) → List UInt8
  | [] => []
  | p :: L => (32 :: bw p.1) ++ (List.replicate p.2 32 ++ bText L)
def bWords : Nat → List (Nat × Nat) → List Wd
  | _, [] => []
  | a, p :: L => (bn p.1).wd (a + 1) :: bWords (a + 1 + (bn p.1).len + p.2) L
theorem bText_app : ∀ (L : List (Nat × Nat)) (p : Nat × Nat), bText (L ++ [p]) = bText L ++ ((32 :: bw p.1) ++ List.replicate p.2 32)
  | [], p => by simp [bText]
  | q :: L, p => by simp [bText, bText_app L p]
theorem bWords_length : ∀ (L : List (Nat × Nat)) (a : Nat), (bWords a L).length = L.length
  | [], _ => rfl
  | p :: L, a => by rw [bWords, List.length_cons, bWords_length L]; rfl

/-- Each word, with nothing behind it or a blank. -/
theorem bw_next (k : Nat) (hk : k < 12) (r : List UInt8) (hr : r = [] ∨ ∃ r', r = 32 :: r') : ∃ c t, bw k = c :: t ∧ c ≠ 32 ∧ nextR (c :: (t ++ r)) = .ok (bn k) ∧ (bn k).len = (bw k).length := by
  have : k = 0 ∨ k = 1 ∨ k = 2 ∨ k = 3 ∨ k = 4 ∨ k = 5 ∨ k = 6 ∨ k = 7 ∨ k = 8 ∨ k = 9 ∨ k = 10 ∨ k = 11 := by omega
  rcases hr with rfl | ⟨r', rfl⟩
  · rcases this with rfl | rfl | rfl | rfl | rfl | rfl | rfl | rfl | rfl | rfl | rfl | rfl <;> exact ⟨_, _, rfl, by decide, rfl, rfl⟩
  · rcases this with rfl | rfl | rfl | rfl | rfl | rfl | rfl | rfl | rfl | rfl | rfl | rfl <;> exact ⟨_, _, rfl, by decide, rfl, rfl⟩
theorem bText_head (b : Nat) (L : List (Nat × Nat)) : List.replicate b 32 ++ bText L = [] ∨ ∃ r', List.replicate b 32 ++ bText L = 32 :: r' := by
  cases b with
  | zero =>
    cases L with
    | nil => exact .inl rfl
    | cons p L => exact .inr ⟨_, rfl⟩
  | succ b => exact .inr ⟨_, rfl⟩
theorem items_bText : ∀ (L : List (Nat × Nat)) (a : Nat), (∀ p ∈ L, p.1 < 12) → items a (bText L) = (bWords a L).map fun w => (w, none)
  | [], _, _ => rfl
  | p :: L, a, h => by
    obtain ⟨c, t, e, hc, hn, hl⟩ := bw_next p.1 (h p (by simp)) _ (bText_head p.2 L)
    rw [bText, e]
    show items a (32 :: (c :: (t ++ (List.replicate p.2 32 ++ bText L)))) = _
    rw [items_blank, items_word hc hn]
    have hd : (c :: (t ++ (List.replicate p.2 32 ++ bText L))).drop (bn p.1).len = List.replicate p.2 32 ++ bText L := by
      rw [hl, e, ← List.cons_append, List.drop_left]
    rw [hd, items_blanks, items_bText L _ fun q hq => h q (by simp [hq])]
    rfl
theorem cut_bText (L : List (Nat × Nat)) (h : ∀ p ∈ L, p.1 < 12) (hl : L.length ≤ 500) : cutW (bText L) = .ok (bWords 0 L) := by
  rw [cutW_items, items_bText L 0 h, collect_all _ _ (by rw [bWords_length]; simpa using hl)]; rfl
/-- Places rise; kinds, texts, numbers don't depend on blanks. -/
theorem bWords_get : ∀ (L : List (Nat × Nat)) (a i : Nat) (p : Nat × Nat), L[i]? = some p → ∃ q, (bWords a L)[i]? = some ((bn p.1).wd q) ∧ a + 1 ≤ q
  | [], _, _, _, h => by simp at h
  | x :: L, a, 0, p, h => by
    have : x = p := by simpa using h
    subst this
    exact ⟨a + 1, rfl, Nat.le_refl _⟩
  | x :: L, a, i + 1, p, h => by
    obtain ⟨q, h1, h2⟩ := bWords_get L (a + 1 + (bn x.1).len + x.2) i p (by simpa using h)
    exact ⟨q, by rw [bWords]; simpa using h1, by omega⟩
theorem bWords_rise : ∀ (L : List (Nat × Nat)) (a i : Nat) (v w : Wd), (bWords a L)[i]? = some v → (bWords a L)[i + 1]? = some w → v.at_ < w.at_
  | [], _, _, _, _, h, _ => by simp [bWords] at h
  | x :: L, a, 0, v, w, h, h' => by
    have hv : (bn x.1).wd (a + 1) = v := by simpa [bWords] using h
    have h1 : (bWords (a + 1 + (bn x.1).len + x.2) L)[0]? = some w := by simpa [bWords] using h'
    cases L with
    | nil => simp [bWords] at h1
    | cons y L =>
      obtain ⟨q, h2, h3⟩ := bWords_get (y :: L) (a + 1 + (bn x.1).len + x.2) 0 y rfl
      rw [h1] at h2
      have hw := Option.some.inj h2
      subst hv; subst hw
      simp only [Nx.wd]; omega
  | x :: L, a, i + 1, v, w, h, h' => bWords_rise L (a + 1 + (bn x.1).len + x.2) i v w (by simpa [bWords] using h) (by simpa [bWords] using h')
end Go.Sv
