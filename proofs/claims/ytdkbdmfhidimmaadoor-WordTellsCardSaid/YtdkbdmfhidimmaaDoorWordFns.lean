/- The package word, as plain functions. -/
import Derived.Test.YtdkbdmfhidimmaaDoorSvNum
import Derived.Lib.ParseIntB
import Derived.Lib.Strings
import Derived.Lib.Bytealg
namespace Go.Sv
open Go

def isSm (c : UInt8) : Bool := decide (97 ≤ c.toNat) && decide (c.toNat ≤ 122)
def isGr (c : UInt8) : Bool := decide (65 ≤ c.toNat) && decide (c.toNat ≤ 90)
def isDg (c : UInt8) : Bool := decide (48 ≤ c.toNat) && decide (c.toNat ≤ 57)
def spanN (p : UInt8 → Bool) (l : List UInt8) : Nat := (l.takeWhile p).length

structure Wd where
  kind : Nat
  text : List UInt8
  n : Int
  at_ : Nat
  deriving DecidableEq
def wd0 : Wd := ⟨0, [], 0, 0⟩
def wdV (w : Wd) : V := .agg [i64V w.kind, str w.text, i64V w.n, i64V w.at_]
/-- A word but for its place; how many bytes it has. -/
structure Nx where
  kind : Nat
  text : List UInt8
  n : Int
  len : Nat
  deriving DecidableEq
def Nx.wd (x : Nx) (at_ : Nat) : Wd := ⟨x.kind, x.text, x.n, at_⟩

def addN (k : Nat) : Except Nat (List UInt8 × Nat) → Except Nat (List UInt8 × Nat)
  | .ok (t, n) => .ok (t, n + k)
  | .error e => .error e
theorem addN_addN (a b : Nat) (r : Except Nat (List UInt8 × Nat)) : addN a (addN b r) = addN (b + a) r := by
  cases r with
  | error e => rfl
  | ok p => simp [addN, Nat.add_assoc]
theorem addN_zero (r : Except Nat (List UInt8 × Nat)) : addN 0 r = r := by
  cases r with
  | error e => rfl
  | ok p => rfl
/-- What stands behind the opening quote, how many bytes it takes with the closing one. -/
def textR (out : List UInt8) : List UInt8 → Except Nat (List UInt8 × Nat)
  | [] => .error 21
  | c :: r =>
    if c = 34 then (if 16 < out.length then .error 12 else .ok (out, 1))
    else if c = 92 then (match r with
      | [] => .error 21
      | d :: r' => if d = 34 ∨ d = 92 then addN 2 (textR (out ++ [d]) r') else .error 21)
    else if 32 ≤ c.toNat ∧ c.toNat ≤ 126 then addN 1 (textR (out ++ [c]) r) else .error 21

def letR (kind : Nat) (p : UInt8 → Bool) (l : List UInt8) : Except Nat Nx :=
  if 8 < spanN p l then .error 12 else .ok ⟨kind, l.take (spanN p l), 0, spanN p l⟩
def numE (n : Nat) : Lib.NumEnd Int → Except Nat Nx
  | .ok v => .ok ⟨2, [], v, n⟩
  | _ => .error 12
def numR (l : List UInt8) : Except Nat Nx := numE (1 + spanN isDg (l.drop 1)) (Lib.parseIntB 64 (l.take (1 + spanN isDg (l.drop 1))))
def textE : Except Nat (List UInt8 × Nat) → Except Nat Nx
  | .ok (t, k) => .ok ⟨3, t, 0, k + 1⟩
  | .error e => .error e
def textN (l : List UInt8) : Except Nat Nx := textE (textR [] (l.drop 1))
theorem textR_34 (out r : List UInt8) : textR out (34 :: r) = if 16 < out.length then .error 12 else .ok (out, 1) := by rw [textR.eq_def]; rfl
theorem textR_92 (out r : List UInt8) (d : UInt8) : textR out (92 :: d :: r) = if d = 34 ∨ d = 92 then addN 2 (textR (out ++ [d]) r) else .error 21 := by rw [textR.eq_def]; rfl
theorem textR_end (out : List UInt8) : textR out [92] = .error 21 := by rw [textR.eq_def]; rfl
theorem textR_c (out r : List UInt8) {c : UInt8} (h1 : c ≠ 34) (h2 : c ≠ 92) : textR out (c :: r) = if 32 ≤ c.toNat ∧ c.toNat ≤ 126 then addN 1 (textR (out ++ [c]) r) else .error 21 := by
  rw [textR.eq_def]; simp only; rw [if_neg h1, if_neg h2]
def signsL : List UInt8 := [40, 41, 91, 93, 58, 124, 44, 43, 33, 46, 45, 42, 61, 60]
def signR (l : List UInt8) : Except Nat Nx :=
  if [33, 61].isPrefixOf l then .ok ⟨5, [33, 61], 0, 2⟩
  else if [60, 61].isPrefixOf l then .ok ⟨5, [60, 61], 0, 2⟩
  else if decide (Lib.indexByte signsL (l.headD 0) < 0) then .error 21
  else .ok ⟨5, l.take 1, 0, 1⟩
def nextR (l : List UInt8) : Except Nat Nx :=
  if isSm (l.headD 0) then letR 1 isSm l
  else if isGr (l.headD 0) then letR 4 isGr l
  else if isDg (l.headD 0) || (l.headD 0 == 45 && decide (1 < l.length) && isDg ((l.drop 1).headD 0)) then numR l
  else if l.headD 0 == 34 then textN l
  else signR l

/-- All words, up to the first error, and that. -/
def itemsF : Nat → Nat → List UInt8 → List (Wd × Option Nat)
  | 0, _, _ => []
  | _ + 1, _, [] => []
  | f + 1, at_, c :: r => if c = 32 then itemsF f (at_ + 1) r else
    match nextR (c :: r) with
    | .error e => [(wd0, some e)]
    | .ok x => (x.wd at_, none) :: itemsF f (at_ + x.len) ((c :: r).drop x.len)
def collect : List Wd → List (Wd × Option Nat) → Except Nat (List Wd)
  | out, [] => .ok out
  | _, (_, some e) :: _ => .error e
  | out, (w, none) :: l => if 500 < (out ++ [w]).length then .error 12 else collect (out ++ [w]) l
def cutW (s : List UInt8) : Except Nat (List Wd) := collect [] (itemsF s.length 0 s)

theorem spanN_le (p : UInt8 → Bool) (l : List UInt8) : spanN p l ≤ l.length := by
  induction l with
  | nil => simp [spanN]
  | cons c l ih =>
    simp only [spanN, List.takeWhile_cons]
    split
    · simp [spanN] at ih ⊢; omega
    · simp
theorem spanN_cons {p : UInt8 → Bool} {c : UInt8} {l : List UInt8} (h : p c = true) : spanN p (c :: l) = spanN p l + 1 := by simp [spanN, h]
theorem spanN_stop {p : UInt8 → Bool} {c : UInt8} {l : List UInt8} (h : p c = false) : spanN p (c :: l) = 0 := by simp [spanN, h]
theorem textR_le : ∀ (n : Nat) (l out : List UInt8) {t : List UInt8} {k : Nat}, l.length ≤ n → textR out l = .ok (t, k) → 1 ≤ k ∧ k ≤ l.length
  | _, [], out, t, k, _, h => by simp [textR] at h
  | 0, c :: l, out, t, k, hn, h => by simp at hn
  | n + 1, c :: l, out, t, k, hn, h => by
    have hn' : l.length ≤ n := by simpa using hn
    rw [textR.eq_def] at h
    simp only at h
    split at h
    · split at h
      · cases h
      · cases h; simp
    · split at h
      · cases l with
        | nil => cases h
        | cons d l' =>
          simp only at h
          split at h
          · cases e : textR (out ++ [d]) l' with
            | error x => rw [e] at h; cases h
            | ok p =>
              obtain ⟨t', k'⟩ := p
              rw [e] at h
              cases h
              have := textR_le n l' (out ++ [d]) (by simp at hn'; omega) e
              simp; omega
          · cases h
      · split at h
        · cases e : textR (out ++ [c]) l with
          | error x => rw [e] at h; cases h
          | ok p =>
            obtain ⟨t', k'⟩ := p
            rw [e] at h
            cases h
            have := textR_le n l (out ++ [c]) hn' e
            simp; omega
        · cases h
theorem nextR_cons (c : UInt8) (r : List UInt8) : nextR (c :: r) = if isSm c then letR 1 isSm (c :: r) else if isGr c then letR 4 isGr (c :: r)
    else if isDg c || (c == 45 && decide (1 < (c :: r).length) && isDg (r.headD 0)) then numR (c :: r) else if c == 34 then textN (c :: r) else signR (c :: r) := rfl
/-- A word takes a byte at least, and none that isn't there. -/
theorem nextR_len {l : List UInt8} {x : Nx} (hl : l ≠ []) (h : nextR l = .ok x) : 1 ≤ x.len ∧ x.len ≤ l.length := by
  cases l with
  | nil => exact absurd rfl hl
  | cons c r =>
  rw [nextR_cons] at h
  have hlet : ∀ (kind : Nat) (p : UInt8 → Bool), p c = true → letR kind p (c :: r) = .ok x → 1 ≤ x.len ∧ x.len ≤ (c :: r).length := by
    intro kind p hp h
    unfold letR at h
    split at h
    · cases h
    · cases h
      exact ⟨by simp only [spanN_cons hp]; omega, spanN_le p _⟩
  split at h
  · rename_i h1; exact hlet _ _ h1 h
  · split at h
    · rename_i h1; exact hlet _ _ h1 h
    · split at h
      · unfold numR at h
        unfold numE at h
        split at h
        · cases h
          have := spanN_le isDg r
          simp only [List.drop_succ_cons, List.drop_zero, List.length_cons]
          omega
        · cases h
      · split at h
        · unfold textN textE at h
          split at h
          · rename_i t k e
            cases h
            have := textR_le _ _ _ (Nat.le_refl _) e
            simp only [List.drop_succ_cons, List.drop_zero, List.length_cons] at this ⊢
            omega
          · cases h
        · unfold signR at h
          split at h
          · rename_i h1
            cases h
            have := List.IsPrefix.length_le (List.isPrefixOf_iff_prefix.1 h1)
            simp at this ⊢; omega
          · split at h
            · rename_i h1
              cases h
              have := List.IsPrefix.length_le (List.isPrefixOf_iff_prefix.1 h1)
              simp at this ⊢; omega
            · split at h
              · cases h
              · cases h; simp
end Go.Sv
