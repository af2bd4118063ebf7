/- What an operation is, by what it comes to. -/
import Derived.Test.YtgkfpgkpdkmjbaaSvAppend
namespace Go.Sv
open Go

section
variable {P : Program} {live : List Nat} {ords : List (Nat × List Nat)} {fr : Fr} {o : Oper}

set_option maxHeartbeats 1000000 in
theorem inv_load {b off : Nat} {sh : Option Nat} (h : sOp P live fr o = .load b off sh) : ∃ t x, o.op = .load t x ∧ shapeOf P t = some sh ∧ ev fr x = .loc b off := by
  unfold sOp at h
  cases hop : o.op
  case load t x =>
    simp only [hop] at h
    split at h
    · (repeat' split at h) <;> simp at h
    · rename_i sh' b' off' h1 h2
      simp at h
      obtain ⟨rfl, rfl, rfl⟩ := h
      exact ⟨t, x, rfl, h1, h2⟩
    · simp at h
  all_goals
    simp only [hop] at h
    (try unfold sBin at h)
    exfalso
    (repeat' split at h) <;> simp at h

set_option maxHeartbeats 1000000 in
theorem inv_store {b off : Nat} {vs : List V} (h : sOp P live fr o = .store b off vs) : ∃ t x y sh, o.op = .store t x y ∧ shapeOf P t = some sh ∧ ev fr x = .loc b off ∧
    ((sh = none ∧ vs = [ev fr y]) ∨ ∃ cs, sh = some cs.length ∧ ev fr y = .agg cs ∧ vs = cs) := by
  unfold sOp at h
  cases hop : o.op
  case store t x y =>
    simp only [hop] at h
    split at h
    · rename_i b' off' h1 h2
      simp at h
      obtain ⟨rfl, rfl, rfl⟩ := h
      exact ⟨t, x, y, none, rfl, h1, h2, .inl ⟨rfl, rfl⟩⟩
    · rename_i k b' off' h1 h2
      split at h
      · rename_i cs hcs
        split at h
        · rename_i hk
          simp at h
          obtain ⟨rfl, rfl, rfl⟩ := h
          exact ⟨t, x, y, some k, rfl, h1, h2, .inr ⟨cs, by rw [hk], hcs, rfl⟩⟩
        · simp at h
      · simp at h
    · simp at h
  all_goals
    simp only [hop] at h
    (try unfold sBin at h)
    exfalso
    (repeat' split at h) <;> simp at h

set_option maxHeartbeats 1000000 in
theorem inv_alloc {cs : List V} (h : sOp P live fr o = .alloc cs) : (∃ t i z, o.op = .alloc t ∧ P.info? t = some i ∧ i.zero = some z ∧ cellsO (ofC z) = some cs) ∨ (∃ t x, o.op = .box t x ∧ cellsO (ev fr x) = some cs) := by
  unfold sOp at h
  cases hop : o.op
  case alloc t =>
    simp only [hop] at h
    split at h
    · rename_i i hi
      split at h
      · rename_i z hz
        split at h
        · rename_i cs' hcs
          simp at h; subst h
          exact .inl ⟨t, i, z, rfl, hi, hz, hcs⟩
        · simp at h
      · simp at h
    · simp at h
  case box t x =>
    simp only [hop] at h
    split at h
    · split at h
      · split at h
        · rename_i cs' hcs
          simp at h; subst h
          exact .inr ⟨t, x, rfl, hcs⟩
        · simp at h
      · split at h <;> simp at h
    · simp at h
  all_goals
    simp only [hop] at h
    (try unfold sBin at h)
    exfalso
    (repeat' split at h) <;> simp at h

set_option maxHeartbeats 1000000 in
theorem inv_made {sh : Option Nat} {xs : List V} (h : sOp P live fr o = .made sh xs) : ∃ t n parts e, o.op = .buildSlice t n parts ∧ P.underlying t = some (.slice e) ∧ shapeOf P e = some sh ∧ xs = parts.toList.map (fun p => ev fr p.2) ∧
    parts.toList.map (·.1) = List.range n ∧ xs.all (fitsB sh) = true ∧ n * width sh ≤ 65536 ∧ (P.info? e).any (fun i => i.zero.isSome) = true ∧ n ≤ 65536 := by
  unfold sOp at h
  cases hop : o.op
  case buildSlice t n parts =>
    simp only [hop] at h
    split at h
    · rename_i e ht
      split at h
      · rename_i sh' hsh
        split at h
        · rename_i hc
          split at h
          · simp at h
            obtain ⟨rfl, rfl⟩ := h
            exact ⟨t, n, parts, e, rfl, ht, hsh, rfl, hc.1, hc.2.1, hc.2.2.1, hc.2.2.2.1, hc.2.2.2.2⟩
          · simp at h
        · simp at h
      · simp at h
    · simp at h
  all_goals
    simp only [hop] at h
    (try unfold sBin at h)
    exfalso
    (repeat' split at h) <;> simp at h

set_option maxHeartbeats 1000000 in
theorem inv_append {sh : Option Nat} {by_ : Nat} {x : V} {ys : List V} (h : sOp P live fr o = .append sh by_ x ys) : ∃ args ats t tx e i s y, o.op = .call { callee := .builtin .append, args := args, argTypes := ats } ∧ ats.toList = [t, tx] ∧ args.toList = [s, y] ∧
    P.underlying t = some (.slice e) ∧ shapeOf P e = some sh ∧ P.info? e = some i ∧ by_ = i.bytes ∧ 0 < i.bytes ∧ (i.zero.map fun z => z.cells.size) = some i.size ∧ ev fr s = x ∧
    ((∃ e' tok, P.underlying tx = some (.slice e') ∧ ev fr y = .sl sh ys tok) ∨ (∃ e' sh' tok, P.underlying tx = some (.slice e') ∧ ev fr y = .sl sh' [] tok ∧ ys = []) ∨
     (∃ str, P.underlying tx = some .string ∧ ev fr y = .c (.string str) ∧ sh = none ∧ ys = str.data.toList.map fun b => .c (.int .u8 b.toNat))) := by
  unfold sOp at h
  cases hop : o.op
  case call c =>
    obtain ⟨callee, args, ats⟩ := c
    have two : ∀ {β : Type} {f : TypeId → β} {p q : β}, ats.toList.map f = [p, q] → ∃ t u, ats.toList = [t, u] ∧ f t = p ∧ f u = q := by
      intro β f p q hm
      match hl : ats.toList with
      | [] => rw [hl] at hm; simp at hm
      | [_] => rw [hl] at hm; simp at hm
      | [t, u] => rw [hl] at hm; simp at hm; exact ⟨t, u, rfl, hm.1, hm.2⟩
      | _ :: _ :: _ :: _ => rw [hl] at hm; simp at hm
    have twoA : ∀ {p q : V}, args.toList.map (ev fr) = [p, q] → ∃ t u, args.toList = [t, u] ∧ ev fr t = p ∧ ev fr u = q := by
      intro p q hm
      match hl : args.toList with
      | [] => rw [hl] at hm; simp at hm
      | [_] => rw [hl] at hm; simp at hm
      | [t, u] => rw [hl] at hm; simp at hm; exact ⟨t, u, rfl, hm.1, hm.2⟩
      | _ :: _ :: _ :: _ => rw [hl] at hm; simp at hm
    simp only [hop] at h
    split at h
    · (repeat' split at h) <;> simp at h
    · split at h
      · rename_i e e' x' sh' ys' tok ht ha
        obtain ⟨t, tx, hts, ht1, ht2⟩ := two ht
        obtain ⟨s, y, has, hs1, hs2⟩ := twoA ha
        split at h
        · rename_i sh2 i hsh hi
          split at h
          · rename_i hb
            split at h
            · rename_i hse
              simp at h
              obtain ⟨rfl, rfl, rfl, rfl⟩ := h
              subst hse
              exact ⟨args, ats, t, tx, e, i, s, y, rfl, hts, has, ht1, hsh, hi, rfl, hb.1, hb.2, hs1, .inl ⟨e', tok, ht2, hs2⟩⟩
            · split at h
              · simp at h
                obtain ⟨rfl, rfl, rfl, rfl⟩ := h
                exact ⟨args, ats, t, tx, e, i, s, y, rfl, hts, has, ht1, hsh, hi, rfl, hb.1, hb.2, hs1, .inr (.inl ⟨e', sh', tok, ht2, hs2, rfl⟩)⟩
              · simp at h
          · simp at h
        · simp at h
      · rename_i e x' str ht ha
        obtain ⟨t, tx, hts, ht1, ht2⟩ := two ht
        obtain ⟨s, y, has, hs1, hs2⟩ := twoA ha
        split at h
        · rename_i i hsh hi
          split at h
          · rename_i hb
            simp at h
            obtain ⟨rfl, rfl, rfl, rfl⟩ := h
            exact ⟨args, ats, t, tx, e, i, s, y, rfl, hts, has, ht1, hsh, hi, rfl, hb.1, hb.2, hs1, .inr (.inr ⟨str, ht2, hs2, rfl, rfl⟩)⟩
          · simp at h
        · simp at h
      · simp at h
    · (repeat' split at h) <;> simp at h
    · (repeat' split at h) <;> simp at h
    · (repeat' split at h) <;> simp at h
    · simp at h
  all_goals
    simp only [hop] at h
    (try unfold sBin at h)
    exfalso
    (repeat' split at h) <;> simp at h

set_option maxHeartbeats 1000000 in
theorem inv_call {f : FuncId} {vs : List V} (h : sOp P live fr o = .call f vs) : ∃ x args ats first caps, o.op = .call { callee := .value x, args := args, argTypes := ats } ∧ ev fr x = .fn (.func f) first caps ∧ vs = first ++ args.toList.map (ev fr) ++ caps := by
  unfold sOp at h
  cases hop : o.op
  case call c =>
    obtain ⟨callee, args, ats⟩ := c
    simp only [hop] at h
    split at h
    · (repeat' split at h) <;> simp at h
    · (repeat' split at h) <;> simp at h
    · (repeat' split at h) <;> simp at h
    · (repeat' split at h) <;> simp at h
    · rename_i _ x
      split at h
      · rename_i g first caps hx
        simp at h
        obtain ⟨rfl, rfl⟩ := h
        exact ⟨x, args, ats, first, caps, rfl, hx, by simp⟩
      · simp at h
      · simp at h
    · simp at h
  all_goals
    simp only [hop] at h
    (try unfold sBin at h)
    exfalso
    (repeat' split at h) <;> simp at h

set_option maxHeartbeats 1000000 in
theorem inv_yld {l : Nat} {vs : List V} (h : sOp P live fr o = .yld l vs) : ∃ x args ats, o.op = .call { callee := .value x, args := args, argTypes := ats } ∧ ev fr x = .fn (.yield l) [] [] ∧ vs = args.toList.map (ev fr) := by
  unfold sOp at h
  cases hop : o.op
  case call c =>
    obtain ⟨callee, args, ats⟩ := c
    simp only [hop] at h
    split at h
    · (repeat' split at h) <;> simp at h
    · (repeat' split at h) <;> simp at h
    · (repeat' split at h) <;> simp at h
    · (repeat' split at h) <;> simp at h
    · rename_i _ x
      split at h
      · simp at h
      · rename_i l' hx
        simp at h
        obtain ⟨rfl, rfl⟩ := h
        exact ⟨x, args, ats, rfl, hx, rfl⟩
      · simp at h
    · simp at h
  all_goals
    simp only [hop] at h
    (try unfold sBin at h)
    exfalso
    (repeat' split at h) <;> simp at h

set_option maxHeartbeats 1000000 in
theorem inv_nilcmp {eq : Bool} {xs : List V} (h : sOp P live fr o = .nilcmp eq xs) : ∃ t x ty e sh tok, o.op = .binOp (if eq then .eql else .neq) t x (.const (.slice none 0 0)) ty ∧ P.underlying t = some (.slice e) ∧ ev fr x = .sl sh xs tok := by
  unfold sOp at h
  cases hop : o.op
  case binOp op t x y ty =>
    simp only [hop] at h
    unfold sBin at h
    split at h
    · rename_i sh xs' tok sh2 tok2 hx hy
      split at h
      · rename_i e ht
        simp at h
        obtain ⟨rfl, rfl⟩ := h
        exact ⟨t, x, ty, e, sh, tok, rfl, ht, hx⟩
      · simp at h
    · rename_i sh xs' tok sh2 tok2 hx hy
      split at h
      · rename_i e ht
        simp at h
        obtain ⟨rfl, rfl⟩ := h
        exact ⟨t, x, ty, e, sh, tok, rfl, ht, hx⟩
      · simp at h
    all_goals ((repeat' split at h) <;> simp at h)
  all_goals
    simp only [hop] at h
    (try unfold sBin at h)
    exfalso
    (repeat' split at h) <;> simp at h

theorem inv_defer {c : Call} (h : o.op = .defer c) : sOp P live fr o = .bad := by
  unfold sOp; simp only [h]

end
end Go.Sv
