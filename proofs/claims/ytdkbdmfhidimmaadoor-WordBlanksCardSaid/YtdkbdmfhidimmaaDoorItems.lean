/- The words of a text: how they are counted doesn't matter. -/
import Derived.Test.YtdkbdmfhidimmaaDoorWordFns
namespace Go.Sv
open Go

theorem itemsF_step (f at_ : Nat) (c : UInt8) (r : List UInt8) : itemsF (f + 1) at_ (c :: r) = if c = 32 then itemsF f (at_ + 1) r else
    match nextR (c :: r) with
    | .error e => [(wd0, some e)]
    | .ok x => (x.wd at_, none) :: itemsF f (at_ + x.len) ((c :: r).drop x.len) := rfl
theorem itemsF_fuel : ∀ (n f f' at_ : Nat) (l : List UInt8), l.length ≤ n → l.length ≤ f → l.length ≤ f' → itemsF f at_ l = itemsF f' at_ l
  | _, f, f', _, [], _, _, _ => by cases f <;> cases f' <;> rfl
  | 0, _, _, _, _ :: _, h, _, _ => by simp at h
  | n + 1, 0, _, _, _ :: _, _, h, _ => by simp at h
  | n + 1, _ + 1, 0, _, _ :: _, _, _, h => by simp at h
  | n + 1, f + 1, f' + 1, at_, c :: r, h, h1, h2 => by
    have h0 : r.length ≤ n := by simpa using h
    have h1 : r.length ≤ f := by simpa using h1
    have h2 : r.length ≤ f' := by simpa using h2
    rw [itemsF_step, itemsF_step]
    split
    · exact itemsF_fuel n f f' _ r h0 h1 h2
    · cases e : nextR (c :: r) with
      | error e => rfl
      | ok x =>
        have hx := nextR_len (by simp) e
        have hd : ((c :: r).drop x.len).length ≤ r.length := by rw [List.length_drop]; simp only [List.length_cons]; omega
        simp only
        rw [itemsF_fuel n f f' _ ((c :: r).drop x.len) (by omega) (by omega) (by omega)]
/-- All words of a text from a place on. -/
def items (at_ : Nat) (l : List UInt8) : List (Wd × Option Nat) := itemsF l.length at_ l
theorem items_nil (at_ : Nat) : items at_ [] = [] := rfl
theorem items_blank (at_ : Nat) (r : List UInt8) : items at_ (32 :: r) = items (at_ + 1) r := by
  show itemsF (r.length + 1) at_ (32 :: r) = _
  rw [itemsF_step, if_pos rfl]; rfl
theorem items_word {at_ : Nat} {c : UInt8} {r : List UInt8} {x : Nx} (hc : c ≠ 32) (h : nextR (c :: r) = .ok x) : items at_ (c :: r) = (x.wd at_, none) :: items (at_ + x.len) ((c :: r).drop x.len) := by
  show itemsF (r.length + 1) at_ (c :: r) = _
  have hx := nextR_len (by simp) h
  rw [itemsF_step, if_neg hc, h]
  simp only
  rw [items, itemsF_fuel r.length r.length ((c :: r).drop x.len).length _ _ (by rw [List.length_drop]; simp only [List.length_cons]; omega) (by rw [List.length_drop]; simp only [List.length_cons]; omega) (Nat.le_refl _)]
theorem items_err {at_ : Nat} {c : UInt8} {r : List UInt8} {e : Nat} (hc : c ≠ 32) (h : nextR (c :: r) = .error e) : items at_ (c :: r) = [(wd0, some e)] := by
  show itemsF (r.length + 1) at_ (c :: r) = _
  rw [itemsF_step, if_neg hc, h]
theorem items_blanks : ∀ (b at_ : Nat) (r : List UInt8), items at_ (List.replicate b 32 ++ r) = items (at_ + b) r
  | 0, _, _ => rfl
  | b + 1, at_, r => by
    rw [List.replicate_succ, List.cons_append, items_blank, items_blanks b]
    congr 1; omega
theorem cutW_items (s : List UInt8) : cutW s = collect [] (items 0 s) := rfl
theorem collect_all : ∀ (ws out : List Wd), out.length + ws.length ≤ 500 → collect out (ws.map fun w => (w, none)) = .ok (out ++ ws)
  | [], out, _ => by simp [collect]
  | w :: ws, out, h => by
    have hl : (out ++ [w]).length = out.length + 1 := by simp
    simp only [List.length_cons] at h
    rw [List.map_cons, collect, if_neg (by omega), collect_all ws _ (by omega)]
    simp
end Go.Sv
