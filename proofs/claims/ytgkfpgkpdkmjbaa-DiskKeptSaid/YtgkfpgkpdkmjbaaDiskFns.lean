/- The package disk, as plain functions. -/
import Derived.Test.YtgkfpgkpdkmjbaaByteFns
namespace Go.Sv

/-- Blocks as they are sure, writes that are loose, how many more writes there are till the power goes, whether it is gone. -/
structure Dk where
  sure : List (List UInt8)
  loose : List (Nat × List UInt8)
  left : Nat
  gone : Bool

def pad (s : List UInt8) : List UInt8 := s ++ List.replicate (64 - s.length) 0
def dNew : Dk := ⟨List.replicate 400 (List.replicate 64 0), [], 0, false⟩
def dWritten (D : Dk) (i : Nat) (s : List UInt8) : Dk :=
  { D with loose := D.loose ++ [(i, pad s)], left := D.left - 1, gone := if 0 < D.left then D.left == 1 else D.gone }
def dWrite (D : Dk) (i : Int) (s : List UInt8) : Except Nat Dk :=
  if D.gone then .error 23 else if i < 0 ∨ i ≥ 400 then .error 13 else if s.length > 64 then .error 12 else .ok (dWritten D i.toNat s)
/-- A row with writes laid in their places. -/
def laidW (sure : List (List UInt8)) (ws : List (Nat × List UInt8)) : List (List UInt8) := ws.foldl (fun l w => l.set w.1 w.2) sure
def kept (want : Nat → Bool) : Nat → List (Nat × List UInt8) → List (Nat × List UInt8)
  | _, [] => []
  | k, w :: ws => if want k then w :: kept want (k + 1) ws else kept want (k + 1) ws
def dNow (D : Dk) : List (List UInt8) := laidW D.sure D.loose
def dRead (D : Dk) (i : Int) : List UInt8 := if i < 0 ∨ i ≥ 400 then [] else (dNow D).getD i.toNat []
def dSync (D : Dk) : Except Nat Dk := if D.gone then .error 23 else .ok { D with sure := dNow D, loose := [] }
def dCut (D : Dk) (n : Int) : Dk := { D with left := (max n 0).toNat }
def dCrash (D : Dk) (keep : List Bool) : Dk := ⟨laidW D.sure (kept (fun k => keep.getD k false) 0 D.loose), [], 0, false⟩

/-- What holds of every disk. -/
structure DOk (D : Dk) : Prop where
  n : D.sure.length = 400
  b : ∀ s ∈ D.sure, s.length = 64
  l : ∀ w ∈ D.loose, w.1 < 400 ∧ w.2.length = 64

theorem pad_length {s : List UInt8} (h : s.length ≤ 64) : (pad s).length = 64 := by simp [pad]; omega
theorem laidW_length : ∀ (ws : List (Nat × List UInt8)) (l : List (List UInt8)), (laidW l ws).length = l.length
  | [], _ => rfl
  | w :: ws, l => by
    have := laidW_length ws (l.set w.1 w.2)
    simpa [laidW] using this
theorem laidW_mem {Q : List UInt8 → Prop} : ∀ (ws : List (Nat × List UInt8)) (l : List (List UInt8)), (∀ s ∈ l, Q s) → (∀ w ∈ ws, Q w.2) → ∀ s ∈ laidW l ws, Q s
  | [], _, hl, _ => hl
  | w :: ws, l, hl, hw => by
    refine laidW_mem ws (l.set w.1 w.2) (fun s hs => ?_) fun v hv => hw v (by simp [hv])
    rcases List.mem_or_eq_of_mem_set hs with h | h
    · exact hl s h
    · subst h; exact hw w (by simp)
theorem laidW_append (l : List (List UInt8)) (a b : List (Nat × List UInt8)) : laidW l (a ++ b) = laidW (laidW l a) b := by simp [laidW]
theorem kept_mem {want : Nat → Bool} : ∀ (ws : List (Nat × List UInt8)) (k : Nat), ∀ w ∈ kept want k ws, w ∈ ws
  | [], _, _, h => by simp [kept] at h
  | v :: ws, k, w, h => by
    rw [kept] at h
    split at h
    · rcases List.mem_cons.1 h with rfl | h
      · simp
      · exact List.mem_cons_of_mem _ (kept_mem ws _ w h)
    · exact List.mem_cons_of_mem _ (kept_mem ws _ w h)
theorem kept_all : ∀ (ws : List (Nat × List UInt8)) (k : Nat), kept (fun _ => true) k ws = ws
  | [], _ => rfl
  | w :: ws, k => by simp [kept, kept_all ws]

theorem kept_append {want : Nat → Bool} : ∀ (a b : List (Nat × List UInt8)) (k : Nat), kept want k (a ++ b) = kept want k a ++ kept want (k + a.length) b
  | [], _, _ => by simp [kept]
  | w :: a, b, k => by
    have e : k + 1 + a.length = k + (a.length + 1) := by omega
    simp only [List.cons_append, kept, kept_append a b (k + 1), List.length_cons, e]
    split <;> rfl
theorem kept_at {want : Nat → Bool} {l : List (Nat × List UInt8)} {n : Nat} {w : Nat × List UInt8} (h : l[n]? = some w) :
    (want n = true → (kept want 0 l)[(kept want 0 (l.take n)).length]? = some w ∧ (kept want 0 (l.take (n + 1))).length = (kept want 0 (l.take n)).length + 1) ∧
    (want n = false → (kept want 0 (l.take (n + 1))).length = (kept want 0 (l.take n)).length) := by
  have hn : n < l.length := (List.getElem?_eq_some_iff.1 h).1
  have e1 : l.take (n + 1) = l.take n ++ [w] := by rw [List.take_add_one, h]; rfl
  have e2 : l = l.take n ++ (w :: l.drop (n + 1)) := by
    rw [show w :: l.drop (n + 1) = l.drop n from ?_, List.take_append_drop]
    rw [List.drop_eq_getElem_cons hn]
    congr 1
    rw [List.getElem?_eq_getElem hn] at h
    exact (Option.some.inj h).symm
  have e3 : (l.take n).length = n := by simp; omega
  constructor
  · intro hw
    constructor
    · conv => lhs; arg 1; rw [e2]
      rw [kept_append, e3, Nat.zero_add, kept, if_pos hw, List.getElem?_append_right (Nat.le_refl _)]
      simp
    · rw [e1, kept_append, e3, Nat.zero_add, kept, if_pos hw, List.length_append]; rfl
  · intro hw
    rw [e1, kept_append, e3, Nat.zero_add, kept, if_neg (by simp [hw]), List.length_append]; rfl

theorem DOk.now {D : Dk} (h : DOk D) : (dNow D).length = 400 ∧ ∀ s ∈ dNow D, s.length = 64 :=
  ⟨by rw [dNow, laidW_length, h.n], laidW_mem D.loose D.sure h.b fun w hw => (h.l w hw).2⟩
theorem dNew_ok : DOk dNew := ⟨List.length_replicate, fun s hs => by rw [List.eq_of_mem_replicate hs]; exact List.length_replicate, fun w hw => by cases hw⟩
theorem dWrite_ok {D D' : Dk} {i : Int} {s : List UInt8} (h : DOk D) (hw : dWrite D i s = .ok D') : DOk D' := by
  unfold dWrite at hw
  split at hw
  · cases hw
  · split at hw
    · cases hw
    · split at hw
      · cases hw
      · cases hw
        refine ⟨h.n, h.b, fun w hw => ?_⟩
        rcases List.mem_append.1 hw with hw | hw
        · exact h.l w hw
        · rw [List.mem_singleton.1 hw]
          exact ⟨by simp only; omega, pad_length (by omega)⟩
theorem dSync_ok {D D' : Dk} (h : DOk D) (hw : dSync D = .ok D') : DOk D' := by
  unfold dSync at hw
  split at hw
  · cases hw
  · cases hw
    exact ⟨h.now.1, h.now.2, by simp⟩
theorem dCut_ok {D : Dk} (n : Int) (h : DOk D) : DOk (dCut D n) := ⟨h.n, h.b, h.l⟩
theorem dCrash_ok {D : Dk} (keep : List Bool) (h : DOk D) : DOk (dCrash D keep) :=
  ⟨by simp only [dCrash]; rw [laidW_length, h.n], laidW_mem _ _ h.b fun w hw => (h.l w (kept_mem _ _ w hw)).2, by simp [dCrash]⟩
theorem dRead_length {D : Dk} {i : Int} (h : DOk D) (h0 : 0 ≤ i) (h1 : i < 400) : (dRead D i).length = 64 := by
  unfold dRead
  rw [if_neg (by omega)]
  have hlt : i.toNat < (dNow D).length := by rw [h.now.1]; omega
  rw [List.getD_eq_getElem?_getD, List.getElem?_eq_getElem hlt]
  exact h.now.2 _ (List.getElem_mem _)
end Go.Sv
