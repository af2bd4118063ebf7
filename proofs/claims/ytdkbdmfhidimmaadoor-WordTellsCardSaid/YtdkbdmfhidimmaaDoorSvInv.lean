/- What an operation is, by what it comes to. -/
import Derived.Test.YtdkbdmfhidimmaaDoorSvAppend
namespace Go.Sv
open Go

section
variable {P : Program} {live : List Nat} {ords : List (Nat × List Nat)} {fr : Fr} {o : Oper}

set_option maxHeartbeats 1000000 in
theorem inv_load {b off : Nat} {sh : Option Nat} (h : sOp P live fr o = .load b off sh) : ∃ t x, o.op = .load t x ∧ shapeOf P t = some sh ∧ ev fr x = .loc b off := by
  unfold sOp at h
  cases hop : o.op
  case load t x =>
    simp only [hop] at h
    split at h
    · (repeat' split at h) <;> simp at h
    · rename_i sh' b' off' h1 h2
      simp at h
      obtain ⟨rfl, rfl, rfl⟩ := h
      exact ⟨t, x, rfl, h1, h2⟩
    · simp at h
  all_goals
    simp only [hop] at h
    (try unfold sBin at h)
    exfalso
    (repeat' split at h) <;> simp at h

set_option maxHeartbeats 1000000 in
theorem inv_store {b off : Nat} {vs : List V} (h : sOp P live fr o = .store b off vs) : ∃ t x y sh, o.op = .store t x y ∧ shapeOf P t = some sh ∧ ev fr x = .loc b off ∧
    ((sh = none ∧ vs = [ev fr y]) ∨ ∃ cs, sh = some cs.length ∧ ev fr y = .agg cs ∧ vs = cs) := by
  unfold sOp at h
  cases hop : o.op
  case store t x y =>
    simp only [hop] at h
    split at h
    · rename_i b' off' h1 h2
      simp at h
      obtain ⟨rfl, rfl, rfl⟩ := h
      exact ⟨t, x, y, none, rfl, h1, h2, .inl ⟨rfl, rfl⟩⟩
    · rename_i k b' off' h1 h2
      split at h
      · rename_i cs hcs
        split at h
        · rename_i hk
          simp at h
          obtain ⟨rfl, rfl, rfl⟩ := h
          exact ⟨t, x, y, some k, rfl, h1, h2, .inr ⟨cs, by rw [hk], hcs, rfl⟩⟩
        · simp at h
      · simp at h
    · simp at h
  all_goals
    simp only [hop] at h
    (try unfold sBin at h)
    exfalso
    (repeat' split at h) <;> simp at h

set_option maxHeartbeats 1000000 in
theorem inv_alloc {cs : List V} (h : sOp P live fr o = .alloc cs) : (∃ t i z, o.op = .alloc t ∧ P.info? t = some i ∧ i.zero = some z ∧ cellsO (ofC z) = some cs) ∨ (∃ t x, o.op = .box t x ∧ cellsO (ev fr x) = some cs) := by
  unfold sOp at h
  cases hop : o.op
  case alloc t =>
    simp only [hop] at h
    split at h
    · rename_i i hi
      split at h
      · rename_i z hz
        split at h
        · rename_i cs' hcs
          simp at h; subst h
          exact .inl ⟨t, i, z, rfl, hi, hz, hcs⟩
        · simp at h
      · simp at h
    · simp at h
  case box t x =>
    simp only [hop] at h
    split at h
    · split at h
      · split at h
        · rename_i cs' hcs
          simp at h; subst h
          exact .inr ⟨t, x, rfl, hcs⟩
        · simp at h
      · split at h <;> simp at h
    · simp at h
  all_goals
    simp only [hop] at h
    (try unfold sBin at h)
    exfalso
    (repeat' split at h) <;> simp at h

set_option maxHeartbeats 1000000 in
theorem inv_made {sh : Option Nat} {xs : List V} (h : sOp P live fr o = .made sh xs) : ∃ t n parts e, o.op = .buildSlice t n parts ∧ P.underlying t = some (.slice e) ∧ shapeOf P e = some sh ∧ xs = parts.toList.map (fun p => ev fr p.2) ∧
    parts.toList.map (·.1) = List.range n ∧ xs.all (fitsB sh) = true ∧ n * width sh ≤ 65536 ∧ (P.info? e).any (fun i => i.zero.isSome) = true ∧ n ≤ 65536 := by
  unfold sOp at h
  cases hop : o.op
  case buildSlice t n parts =>
    simp only [hop] at h
    split at h
    · rename_i e ht
      split at h
      · rename_i sh' hsh
        split at h
        · rename_i hc
          split at h
          · simp at h
            obtain ⟨rfl, rfl⟩ := h
            exact ⟨t, n, parts, e, rfl, ht, hsh, rfl, hc.1, hc.2.1, hc.2.2.1, hc.2.2.2.1, hc.2.2.2.2⟩
          · simp at h
        · simp at h
      · simp at h
    · simp at h
  all_goals
    simp only [hop] at h
    (try unfold sBin at h)
    exfalso
    (repeat' split at h) <;> simp at h

set_option maxHeartbeats 1000000 in
theorem inv_append {sh : Option Nat} {by_ : Nat} {x : V} {ys : List V} (h : sOp P live fr o = .append sh by_ x ys) : ∃ args ats t tx e i s y, o.op = .call { callee := .builtin .append, args := args, argTypes := ats } ∧ ats.toList = [t, tx] ∧ args.toList = [s, y] ∧
    P.underlying t = some (.slice e) ∧ shapeOf P e = some sh ∧ P.info? e = some i ∧ by_ = i.bytes ∧ 0 < i.bytes ∧ (i.zero.map fun z => z.cells.size) = some i.size ∧ ev fr s = x ∧
    ((∃ e' tok, P.underlying tx = some (.slice e') ∧ ev fr y = .sl sh ys tok) ∨ (∃ e' sh' tok, P.underlying tx = some (.slice e') ∧ ev fr y = .sl sh' [] tok ∧ ys = []) ∨
     (∃ str, P.underlying tx = some .string ∧ ev fr y = .c (.string str) ∧ sh = none ∧ ys = str.data.toList.map fun b => .c (.int .u8 b.toNat))) := by
  unfold sOp at h
  cases hop : o.op
  case call c =>
    obtain ⟨callee, args, ats⟩ := c
    have two : ∀ {β : Type} {f : TypeId → β} {p q : β}, ats.toList.map f = [p, q] → ∃ t u, ats.toList = [t, u] ∧ f t = p ∧ f u = q := by
      intro β f p q hm
      match hl : ats.toList with
      | [] => rw [hl] at hm; simp at hm
      | [_] => rw [hl] at hm; simp at hm
      | [t, u] => rw [hl] at hm; simp at hm; exact ⟨t, u, rfl, hm.1, hm.2⟩
      | _ :: _ :: _ :: _ => rw [hl] at hm; simp at hm
    have twoA : ∀ {p q : V}, args.toList.map (ev fr) = [p, q] → ∃ t u, args.toList = [t, u] ∧ ev fr t = p ∧ ev fr u = q := by
      intro p q hm
      match hl : args.toList with
      | [] => rw [hl] at hm; simp at hm
      | [_] => rw [hl] at hm; simp at hm
      | [t, u] => rw [hl] at hm; simp at hm; exact ⟨t, u, rfl, hm.1, hm.2⟩
      | _ :: _ :: _ :: _ => rw [hl] at hm; simp at hm
    simp only [hop] at h
    split at h
    · (repeat' split at h) <;> simp at h
    · (repeat' split at h) <;> simp at h
    · (repeat' split at h) <;> simp at h
    · (repeat' split at h) <;> simp at h
    · split at h
      · rename_i e e' x' sh' ys' tok ht ha
        obtain ⟨t, tx, hts, ht1, ht2⟩ := two ht
        obtain ⟨s, y, has, hs1, hs2⟩ := twoA ha
        split at h
        · rename_i sh2 i hsh hi
          split at h
          · rename_i hb
            split at h
            · (repeat' split at h) <;> simp at h
            split at h
            · rename_i hse
              simp at h
              obtain ⟨rfl, rfl, rfl, rfl⟩ := h
              subst hse
              exact ⟨args, ats, t, tx, e, i, s, y, rfl, hts, has, ht1, hsh, hi, rfl, hb.1, hb.2, hs1, .inl ⟨e', tok, ht2, hs2⟩⟩
            · split at h
              · simp at h
                obtain ⟨rfl, rfl, rfl, rfl⟩ := h
                exact ⟨args, ats, t, tx, e, i, s, y, rfl, hts, has, ht1, hsh, hi, rfl, hb.1, hb.2, hs1, .inr (.inl ⟨e', sh', tok, ht2, hs2, rfl⟩)⟩
              · simp at h
          · simp at h
        · simp at h
      · (repeat' split at h) <;> simp at h
      · (repeat' split at h) <;> simp at h
      · rename_i e x' str ht ha
        obtain ⟨t, tx, hts, ht1, ht2⟩ := two ht
        obtain ⟨s, y, has, hs1, hs2⟩ := twoA ha
        split at h
        · rename_i i hsh hi
          split at h
          · rename_i hb
            simp at h
            obtain ⟨rfl, rfl, rfl, rfl⟩ := h
            exact ⟨args, ats, t, tx, e, i, s, y, rfl, hts, has, ht1, hsh, hi, rfl, hb.1, hb.2, hs1, .inr (.inr ⟨str, ht2, hs2, rfl, rfl⟩)⟩
          · simp at h
        · simp at h
      · simp at h
    · (repeat' split at h) <;> simp at h
    · (repeat' split at h) <;> simp at h
    · (repeat' split at h) <;> simp at h
    · simp at h
  all_goals
    simp only [hop] at h
    (try unfold sBin at h)
    exfalso
    (repeat' split at h) <;> simp at h

set_option maxHeartbeats 1000000 in
theorem inv_call {f : FuncId} {vs : List V} (h : sOp P live fr o = .call f vs) : ∃ x args ats first caps, o.op = .call { callee := .value x, args := args, argTypes := ats } ∧ ev fr x = .fn (.func f) first caps ∧ vs = first ++ args.toList.map (ev fr) ++ caps := by
  unfold sOp at h
  cases hop : o.op
  case call c =>
    obtain ⟨callee, args, ats⟩ := c
    simp only [hop] at h
    split at h
    · (repeat' split at h) <;> simp at h
    · (repeat' split at h) <;> simp at h
    · (repeat' split at h) <;> simp at h
    · (repeat' split at h) <;> simp at h
    · (repeat' split at h) <;> simp at h
    · (repeat' split at h) <;> simp at h
    · (repeat' split at h) <;> simp at h
    · rename_i _ x
      split at h
      · rename_i g first caps hx
        simp at h
        obtain ⟨rfl, rfl⟩ := h
        exact ⟨x, args, ats, first, caps, rfl, hx, by simp⟩
      · simp at h
      · simp at h
    · simp at h
  all_goals
    simp only [hop] at h
    (try unfold sBin at h)
    exfalso
    (repeat' split at h) <;> simp at h

set_option maxHeartbeats 1000000 in
theorem inv_yld {l : Nat} {vs : List V} (h : sOp P live fr o = .yld l vs) : ∃ x args ats, o.op = .call { callee := .value x, args := args, argTypes := ats } ∧ ev fr x = .fn (.yield l) [] [] ∧ vs = args.toList.map (ev fr) := by
  unfold sOp at h
  cases hop : o.op
  case call c =>
    obtain ⟨callee, args, ats⟩ := c
    simp only [hop] at h
    split at h
    · (repeat' split at h) <;> simp at h
    · (repeat' split at h) <;> simp at h
    · (repeat' split at h) <;> simp at h
    · (repeat' split at h) <;> simp at h
    · (repeat' split at h) <;> simp at h
    · (repeat' split at h) <;> simp at h
    · (repeat' split at h) <;> simp at h
    · rename_i _ x
      split at h
      · simp at h
      · rename_i l' hx
        simp at h
        obtain ⟨rfl, rfl⟩ := h
        exact ⟨x, args, ats, rfl, hx, rfl⟩
      · simp at h
    · simp at h
  all_goals
    simp only [hop] at h
    (try unfold sBin at h)
    exfalso
    (repeat' split at h) <;> simp at h

set_option maxHeartbeats 1000000 in
theorem inv_nilcmp {eq : Bool} {xs : List V} (h : sOp P live fr o = .nilcmp eq xs) : ∃ t x ty e sh tok, o.op = .binOp (if eq then .eql else .neq) t x (.const (.slice none 0 0)) ty ∧ P.underlying t = some (.slice e) ∧ ev fr x = .sl sh xs tok := by
  unfold sOp at h
  cases hop : o.op
  case binOp op t x y ty =>
    simp only [hop] at h
    unfold sBin at h
    split at h
    · rename_i sh xs' tok sh2 tok2 hx hy
      split at h
      · rename_i e ht
        simp at h
        obtain ⟨rfl, rfl⟩ := h
        exact ⟨t, x, ty, e, sh, tok, rfl, ht, hx⟩
      · simp at h
    · rename_i sh xs' tok sh2 tok2 hx hy
      split at h
      · rename_i e ht
        simp at h
        obtain ⟨rfl, rfl⟩ := h
        exact ⟨t, x, ty, e, sh, tok, rfl, ht, hx⟩
      · simp at h
    all_goals ((repeat' split at h) <;> simp at h)
  all_goals
    simp only [hop] at h
    (try unfold sBin at h)
    exfalso
    (repeat' split at h) <;> simp at h

theorem arg_two {α β : Type} {f : α → β} {l : List α} {p q : β} (hm : l.map f = [p, q]) : ∃ t u, l = [t, u] ∧ f t = p ∧ f u = q := by
  match l with
  | [] => simp at hm
  | [_] => simp at hm
  | [t, u] => simp at hm; exact ⟨t, u, rfl, hm.1, hm.2⟩
  | _ :: _ :: _ :: _ => simp at hm
theorem arg_one {α β : Type} {f : α → β} {l : List α} {p : β} (hm : l.map f = [p]) : ∃ t, l = [t] ∧ f t = p := by
  match l with
  | [] => simp at hm
  | [t] => simp at hm; exact ⟨t, rfl, hm⟩
  | _ :: _ :: _ => simp at hm

/-- What an operation on slices whose elements may change is. -/
def EffOp (P : Program) (fr : Fr) (o : Oper) : Eff → Prop
  | .app sh by_ x ys => ∃ args ats t tx e i s y, o.op = .call { callee := .builtin .append, args := args, argTypes := ats } ∧ ats.toList = [t, tx] ∧ args.toList = [s, y] ∧
      P.underlying t = some (.slice e) ∧ shapeOf P e = some sh ∧ P.info? e = some i ∧ by_ = i.bytes ∧ 0 < i.bytes ∧ (i.zero.map fun z => z.cells.size) = some i.size ∧ ev fr s = x ∧
      ((∃ e' tok, P.underlying tx = some (.slice e') ∧ ev fr y = .sl sh ys tok) ∨ (∃ e' sh' tok, P.underlying tx = some (.slice e') ∧ ev fr y = .sl sh' [] tok ∧ ys = []))
  | .appL sh by_ x b o' n => ∃ args ats t tx e e' i s y cap, o.op = .call { callee := .builtin .append, args := args, argTypes := ats } ∧ ats.toList = [t, tx] ∧ args.toList = [s, y] ∧
      P.underlying t = some (.slice e) ∧ shapeOf P e = some sh ∧ P.info? e = some i ∧ by_ = i.bytes ∧ 0 < i.bytes ∧ (i.zero.map fun z => z.cells.size) = some i.size ∧ ev fr s = x ∧
      P.underlying tx = some (.slice e') ∧ ev fr y = .lsl sh b o' n cap
  | .appZ sh by_ x zs m => ∃ args ats t tx e k k' i z s y, o.op = .call { callee := .builtin .append, args := args, argTypes := ats } ∧ ats.toList = [t, tx] ∧ args.toList = [s, y] ∧
      P.underlying t = some (.slice e) ∧ shapeOf P e = some sh ∧ P.info? e = some i ∧ by_ = i.bytes ∧ 0 < i.bytes ∧ i.zero = some z ∧ z.cells.size = i.size ∧ cellsO (ofC z) = some zs ∧ zs.length = width sh ∧ ev fr s = x ∧
      P.underlying tx = some (.int k) ∧ ev fr y = .c (.int k' m)
  | .copy sh b o' n ys => ∃ args ats t tx e e' s y cap, o.op = .call { callee := .builtin .copy, args := args, argTypes := ats } ∧ ats.toList = [t, tx] ∧ args.toList = [s, y] ∧
      P.underlying t = some (.slice e) ∧ shapeOf P e = some sh ∧ P.underlying tx = some (.slice e') ∧ ev fr s = .lsl sh b o' n cap ∧ ((∃ tok, ev fr y = .sl sh ys tok) ∨ (∃ sh' tok, ev fr y = .sl sh' [] tok ∧ ys = []))
  | .copyL sh b o' n b' o2 n' => ∃ args ats t tx e e' s y cap cap', o.op = .call { callee := .builtin .copy, args := args, argTypes := ats } ∧ ats.toList = [t, tx] ∧ args.toList = [s, y] ∧
      P.underlying t = some (.slice e) ∧ shapeOf P e = some sh ∧ P.underlying tx = some (.slice e') ∧ ev fr s = .lsl sh b o' n cap ∧ ev fr y = .lsl sh b' o2 n' cap'
  | .clear sh b o' n zs => ∃ args ats t e i z s cap, o.op = .call { callee := .builtin .clear, args := args, argTypes := ats } ∧ ats.toList = [t] ∧ args.toList = [s] ∧
      P.underlying t = some (.slice e) ∧ shapeOf P e = some sh ∧ P.info? e = some i ∧ i.zero = some z ∧ cellsO (ofC z) = some zs ∧ zs.length = width sh ∧ ev fr s = .lsl sh b o' n cap
  | .make sh by_ zs n c => ∃ t ln cp e i z k k', o.op = .makeSlice t ln cp ∧ P.underlying t = some (.slice e) ∧ shapeOf P e = some sh ∧ P.info? e = some i ∧ by_ = i.bytes ∧ 0 < i.bytes ∧ i.zero = some z ∧ z.cells.size = i.size ∧ cellsO (ofC z) = some zs ∧ zs.length = width sh ∧
      ev fr ln = .c (.int k n) ∧ ev fr cp = .c (.int k' c)
  | .bytes s => ∃ src dst e i x, o.op = .convert src dst x ∧ P.underlying src = some .string ∧ P.underlying dst = some (.slice e) ∧ P.underlying e = some (.int .u8) ∧ P.info? e = some i ∧ i.bytes = 1 ∧ i.size = 1 ∧ ev fr x = .c (.string s)
  | .str b o' n => ∃ src dst e x cap, o.op = .convert src dst x ∧ P.underlying src = some (.slice e) ∧ P.underlying dst = some .string ∧ P.underlying e = some (.int .u8) ∧ ev fr x = .lsl none b o' n cap
  | .isNil eq n => ∃ t x ty e sh b o' cap, o.op = .binOp (if eq then .eql else .neq) t x (.const (.slice none 0 0)) ty ∧ P.underlying t = some (.slice e) ∧ ev fr x = .lsl sh b o' n cap

set_option maxHeartbeats 4000000 in
theorem inv_eff {e : Eff} (h : sOp P live fr o = .eff e) : EffOp P fr o e := by
  unfold sOp at h
  cases hop : o.op
  case call c =>
    obtain ⟨callee, args, ats⟩ := c
    simp only [hop] at h
    split at h
    · (repeat' split at h) <;> simp at h
    · (repeat' split at h) <;> simp at h
    · -- copy
      split at h
      · rename_i e1 e2 sh b o' n cap sh' ys tok ht ha
        obtain ⟨t, tx, hts, ht1, ht2⟩ := arg_two ht
        obtain ⟨s, y, has, hs1, hs2⟩ := arg_two ha
        split at h
        · rename_i hsh
          split at h
          · rename_i hse; subst hse
            simp at h; subst h
            exact ⟨args, ats, t, tx, e1, e2, s, y, cap, hop, hts, has, ht1, hsh, ht2, hs1, .inl ⟨tok, hs2⟩⟩
          · split at h
            · simp at h; subst h
              exact ⟨args, ats, t, tx, e1, e2, s, y, cap, hop, hts, has, ht1, hsh, ht2, hs1, .inr ⟨sh', tok, hs2, rfl⟩⟩
            · simp at h
        · simp at h
      · rename_i e1 e2 sh b o' n cap sh' b' o2 n' cap' ht ha
        obtain ⟨t, tx, hts, ht1, ht2⟩ := arg_two ht
        obtain ⟨s, y, has, hs1, hs2⟩ := arg_two ha
        split at h
        · rename_i hsh
          obtain ⟨hsh, rfl⟩ := hsh
          simp at h; subst h
          exact ⟨args, ats, t, tx, e1, e2, s, y, cap, cap', hop, hts, has, ht1, hsh, ht2, hs1, hs2⟩
        · simp at h
      · simp at h
    · -- clear
      split at h
      · rename_i e1 sh b o' n cap ht ha
        obtain ⟨t, hts, ht1⟩ := arg_one ht
        obtain ⟨s, has, hs1⟩ := arg_one ha
        split at h
        · rename_i z hz
          obtain ⟨i, hi, hz⟩ := Option.bind_eq_some_iff.1 hz
          split at h
          · rename_i zs hzs
            split at h
            · rename_i hsh
              simp at h; subst h
              exact ⟨args, ats, t, e1, i, z, s, cap, hop, hts, has, ht1, hsh.1, hi, hz, hzs, hsh.2, hs1⟩
            · simp at h
          · simp at h
        · simp at h
      · simp at h
    · -- append
      split at h
      · rename_i e1 e2 x sh' ys tok ht ha
        obtain ⟨t, tx, hts, ht1, ht2⟩ := arg_two ht
        obtain ⟨s, y, has, hs1, hs2⟩ := arg_two ha
        split at h
        · rename_i sh i hsh hi
          split at h
          · rename_i hb
            split at h
            · split at h
              · rename_i hse; subst hse
                simp at h; subst h
                exact ⟨args, ats, t, tx, e1, i, s, y, hop, hts, has, ht1, hsh, hi, rfl, hb.1, hb.2, hs1, .inl ⟨e2, tok, ht2, hs2⟩⟩
              · split at h
                · simp at h; subst h
                  exact ⟨args, ats, t, tx, e1, i, s, y, hop, hts, has, ht1, hsh, hi, rfl, hb.1, hb.2, hs1, .inr ⟨e2, sh', tok, ht2, hs2, rfl⟩⟩
                · simp at h
            · (repeat' split at h) <;> simp at h
          · simp at h
        · simp at h
      · rename_i e1 e2 x sh' b o' n cap ht ha
        obtain ⟨t, tx, hts, ht1, ht2⟩ := arg_two ht
        obtain ⟨s, y, has, hs1, hs2⟩ := arg_two ha
        split at h
        · rename_i sh i hsh hi
          split at h
          · rename_i hb
            obtain ⟨hb1, hb2, rfl⟩ := hb
            simp at h; subst h
            exact ⟨args, ats, t, tx, e1, e2, i, s, y, cap, hop, hts, has, ht1, hsh, hi, rfl, hb1, hb2, hs1, ht2, hs2⟩
          · simp at h
        · simp at h
      · rename_i e1 k x k' m ht ha
        obtain ⟨t, tx, hts, ht1, ht2⟩ := arg_two ht
        obtain ⟨s, y, has, hs1, hs2⟩ := arg_two ha
        split at h
        · rename_i sh i hsh hi
          split at h
          · rename_i z hz
            split at h
            · rename_i zs hzs
              split at h
              · rename_i hb
                simp at h; subst h
                exact ⟨args, ats, t, tx, e1, k, k', i, z, s, y, hop, hts, has, ht1, hsh, hi, rfl, hb.1, hz, hb.2.1, hzs, hb.2.2, hs1, ht2, hs2⟩
              · simp at h
            · simp at h
          · simp at h
        · simp at h
      · (repeat' split at h) <;> simp at h
      · simp at h
    · (repeat' split at h) <;> simp at h
    · (repeat' split at h) <;> simp at h
    · (repeat' split at h) <;> simp at h
    · simp at h
  case makeSlice t ln cp =>
    simp only [hop] at h
    split at h
    · rename_i e1 k n k' c ht hn hc
      split at h
      · rename_i sh i hsh hi
        split at h
        · rename_i z hz
          split at h
          · rename_i zs hzs
            split at h
            · rename_i hb
              simp at h; subst h
              exact ⟨t, ln, cp, e1, i, z, k, k', hop, ht, hsh, hi, rfl, hb.1, hz, hb.2.2, hzs, hb.2.1, hn, hc⟩
            · simp at h
          · simp at h
        · simp at h
      · simp at h
    · simp at h
  case convert src dst x =>
    simp only [hop] at h
    split at h
    · simp at h
    · simp at h
    · rename_i e1 s hs hd hx
      split at h
      · rename_i he
        split at h
        · split at h
          · rename_i hi
            obtain ⟨i, hi1, hi2⟩ : ∃ i, P.info? e1 = some i ∧ (Nat.beq i.bytes 1 && Nat.beq i.size 1) = true := by
              cases hii : P.info? e1 with
              | none => rw [hii] at hi; simp at hi
              | some i => rw [hii] at hi; exact ⟨i, rfl, by simpa using hi⟩
            simp only [Bool.and_eq_true] at hi2
            simp at h; subst h
            exact ⟨src, dst, e1, i, x, hop, hs, hd, he, hi1, Nat.eq_of_beq_eq_true hi2.1, Nat.eq_of_beq_eq_true hi2.2, hx⟩
          · simp at h
        · simp at h
      · simp at h
    · (repeat' split at h) <;> simp at h
    · rename_i e1 b o' n cap hs hd hx
      split at h
      · rename_i he
        simp at h; subst h
        exact ⟨src, dst, e1, x, cap, hop, hs, hd, he, hx⟩
      · simp at h
    · simp at h
  case binOp op t x y ty =>
    simp only [hop] at h
    unfold sBin at h
    split at h
    · (repeat' split at h) <;> simp at h
    · (repeat' split at h) <;> simp at h
    · rename_i sh b o' n cap sh2 tok2 hx hy
      split at h
      · rename_i e ht
        simp at h; subst h
        exact ⟨t, x, ty, e, sh, b, o', cap, hop, ht, hx⟩
      · simp at h
    · rename_i sh b o' n cap sh2 tok2 hx hy
      split at h
      · rename_i e ht
        simp at h; subst h
        exact ⟨t, x, ty, e, sh, b, o', cap, hop, ht, hx⟩
      · simp at h
    all_goals ((repeat' split at h) <;> simp at h)
  all_goals
    simp only [hop] at h
    exfalso
    (repeat' split at h) <;> simp at h

theorem inv_defer {c : Call} (h : o.op = .defer c) : sOp P live fr o = .bad := by
  unfold sOp; simp only [h]

end
end Go.Sv
