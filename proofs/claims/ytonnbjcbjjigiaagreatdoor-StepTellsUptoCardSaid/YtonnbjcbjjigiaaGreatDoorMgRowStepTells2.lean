/- Parts of the proof, one behind the other. -/
import Derived.Test.YtonnbjcbjjigiaaGreatDoorMgRowStepTells1
import Derived.Laws.MakeOwn
import Derived.Laws.IdiomCopy
import Derived.Lib.ConvBytes
import Derived.Lib.SliceRun
import Derived.WalkSpells
namespace Go.Sv
open Go
section
variable {P : Program} {live : List Nat} {ords : List (Nat × List Nat)} {fr : Fr} {o : Oper}
set_option maxHeartbeats 1000000 in
theorem inv_load {b off : Nat} {sh : Option Nat} (h : sOp P live fr o = .load b off sh) : ∃ t x, o.op = .load t x ∧ shapeOf P t = some sh ∧ ev fr x = .loc b off := by
  unfold sOp at h
  cases hop : o.op
  case load t x =>
    simp only [hop] at h
    split at h
    · (repeat' split at h) <;> simp at h
    · rename_i sh' b' off' h1 h2
      simp at h
      obtain ⟨rfl, rfl, rfl⟩ := h
      exact ⟨t, x, rfl, h1, h2⟩
    · simp at h
  all_goals
    simp only [hop] at h
    (try unfold sBin at h)
    exfalso
    (repeat' split at h) <;> simp at h
set_option maxHeartbeats 1000000 in
theorem inv_store {b off : Nat} {vs : List V} (h : sOp P live fr o = .store b off vs) : ∃ t x y sh, o.op = .store t x y ∧ shapeOf P t = some sh ∧ ev fr x = .loc b off ∧
    ((sh = none ∧ vs = [ev fr y]) ∨ ∃ cs, sh = some cs.length ∧ ev fr y = .agg cs ∧ vs = cs) := by
  unfold sOp at h
  cases hop : o.op
  case store t x y =>
    simp only [hop] at h
    split at h
    · rename_i b' off' h1 h2
      simp at h
      obtain ⟨rfl, rfl, rfl⟩ := h
      exact ⟨t, x, y, none, rfl, h1, h2, .inl ⟨rfl, rfl⟩⟩
    · rename_i k b' off' h1 h2
      split at h
      · rename_i cs hcs
        split at h
        · rename_i hk
          simp at h
          obtain ⟨rfl, rfl, rfl⟩ := h
          exact ⟨t, x, y, some k, rfl, h1, h2, .inr ⟨cs, by rw [hk], hcs, rfl⟩⟩
        · simp at h
      · simp at h
    · simp at h
  all_goals
    simp only [hop] at h
    (try unfold sBin at h)
    exfalso
    (repeat' split at h) <;> simp at h
set_option maxHeartbeats 1000000 in
theorem inv_alloc {cs : List V} (h : sOp P live fr o = .alloc cs) : (∃ t i z, o.op = .alloc t ∧ P.info? t = some i ∧ i.zero = some z ∧ cellsO (ofC z) = some cs) ∨ (∃ t x, o.op = .box t x ∧ cellsO (ev fr x) = some cs) := by
  unfold sOp at h
  cases hop : o.op
  case alloc t =>
    simp only [hop] at h
    split at h
    · rename_i i hi
      split at h
      · rename_i z hz
        split at h
        · rename_i cs' hcs
          simp at h; subst h
          exact .inl ⟨t, i, z, rfl, hi, hz, hcs⟩
        · simp at h
      · simp at h
    · simp at h
  case box t x =>
    simp only [hop] at h
    split at h
    · split at h
      · split at h
        · rename_i cs' hcs
          simp at h; subst h
          exact .inr ⟨t, x, rfl, hcs⟩
        · simp at h
      · split at h <;> simp at h
    · simp at h
  all_goals
    simp only [hop] at h
    (try unfold sBin at h)
    exfalso
    (repeat' split at h) <;> simp at h
set_option maxHeartbeats 1000000 in
theorem inv_made {sh : Option Nat} {xs : List V} (h : sOp P live fr o = .made sh xs) : ∃ t n parts e, o.op = .buildSlice t n parts ∧ P.underlying t = some (.slice e) ∧ shapeOf P e = some sh ∧ xs = parts.toList.map (fun p => ev fr p.2) ∧
    parts.toList.map (·.1) = List.range n ∧ xs.all (fitsB sh) = true ∧ n * width sh ≤ 65536 ∧ (P.info? e).any (fun i => i.zero.isSome) = true ∧ n ≤ 65536 := by
  unfold sOp at h
  cases hop : o.op
  case buildSlice t n parts =>
    simp only [hop] at h
    split at h
    · rename_i e ht
      split at h
      · rename_i sh' hsh
        split at h
        · rename_i hc
          split at h
          · split at h
            · simp at h
            · simp at h
              obtain ⟨rfl, rfl⟩ := h
              exact ⟨t, n, parts, e, rfl, ht, hsh, rfl, hc.1, hc.2.1, hc.2.2.1, hc.2.2.2.1, hc.2.2.2.2⟩
          · simp at h
        · simp at h
      · simp at h
    · simp at h
  all_goals
    simp only [hop] at h
    (try unfold sBin at h)
    exfalso
    (repeat' split at h) <;> simp at h
set_option maxHeartbeats 1000000 in
theorem inv_append {sh : Option Nat} {by_ : Nat} {x : V} {ys : List V} (h : sOp P live fr o = .append sh by_ x ys) : ∃ args ats t tx e i s y, o.op = .call { callee := .builtin .append, args := args, argTypes := ats } ∧ ats.toList = [t, tx] ∧ args.toList = [s, y] ∧
    P.underlying t = some (.slice e) ∧ shapeOf P e = some sh ∧ P.info? e = some i ∧ by_ = i.bytes ∧ 0 < i.bytes ∧ (i.zero.map fun z => z.cells.size) = some i.size ∧ ev fr s = x ∧
    ((∃ e' tok, P.underlying tx = some (.slice e') ∧ ev fr y = .sl sh ys tok) ∨ (∃ e' sh' tok, P.underlying tx = some (.slice e') ∧ ev fr y = .sl sh' [] tok ∧ ys = []) ∨
     (∃ str, P.underlying tx = some .string ∧ ev fr y = .c (.string str) ∧ sh = none ∧ ys = str.data.toList.map fun b => .c (.int .u8 b.toNat))) := by
  unfold sOp at h
  cases hop : o.op
  case call c =>
    obtain ⟨callee, args, ats⟩ := c
    have two : ∀ {β : Type} {f : TypeId → β} {p q : β}, ats.toList.map f = [p, q] → ∃ t u, ats.toList = [t, u] ∧ f t = p ∧ f u = q := by
      intro β f p q hm
      match hl : ats.toList with
      | [] => rw [hl] at hm; simp at hm
      | [_] => rw [hl] at hm; simp at hm
      | [t, u] => rw [hl] at hm; simp at hm; exact ⟨t, u, rfl, hm.1, hm.2⟩
      | _ :: _ :: _ :: _ => rw [hl] at hm; simp at hm
    have twoA : ∀ {p q : V}, args.toList.map (ev fr) = [p, q] → ∃ t u, args.toList = [t, u] ∧ ev fr t = p ∧ ev fr u = q := by
      intro p q hm
      match hl : args.toList with
      | [] => rw [hl] at hm; simp at hm
      | [_] => rw [hl] at hm; simp at hm
      | [t, u] => rw [hl] at hm; simp at hm; exact ⟨t, u, rfl, hm.1, hm.2⟩
      | _ :: _ :: _ :: _ => rw [hl] at hm; simp at hm
    simp only [hop] at h
    split at h
    · (repeat' split at h) <;> simp at h
    · (repeat' split at h) <;> simp at h
    · (repeat' split at h) <;> simp at h
    · (repeat' split at h) <;> simp at h
    · split at h
      · rename_i e e' x' sh' ys' tok ht ha
        obtain ⟨t, tx, hts, ht1, ht2⟩ := two ht
        obtain ⟨s, y, has, hs1, hs2⟩ := twoA ha
        split at h
        · rename_i sh2 i hsh hi
          split at h
          · rename_i hb
            split at h
            · (repeat' split at h) <;> simp at h
            split at h
            · rename_i hse
              simp at h
              obtain ⟨rfl, rfl, rfl, rfl⟩ := h
              subst hse
              exact ⟨args, ats, t, tx, e, i, s, y, rfl, hts, has, ht1, hsh, hi, rfl, hb.1, hb.2, hs1, .inl ⟨e', tok, ht2, hs2⟩⟩
            · split at h
              · simp at h
                obtain ⟨rfl, rfl, rfl, rfl⟩ := h
                exact ⟨args, ats, t, tx, e, i, s, y, rfl, hts, has, ht1, hsh, hi, rfl, hb.1, hb.2, hs1, .inr (.inl ⟨e', sh', tok, ht2, hs2, rfl⟩)⟩
              · simp at h
          · simp at h
        · simp at h
      · (repeat' split at h) <;> simp at h
      · (repeat' split at h) <;> simp at h
      · rename_i e x' str ht ha
        obtain ⟨t, tx, hts, ht1, ht2⟩ := two ht
        obtain ⟨s, y, has, hs1, hs2⟩ := twoA ha
        split at h
        · rename_i i hsh hi
          split at h
          · rename_i hb
            simp at h
            obtain ⟨rfl, rfl, rfl, rfl⟩ := h
            exact ⟨args, ats, t, tx, e, i, s, y, rfl, hts, has, ht1, hsh, hi, rfl, hb.1, hb.2, hs1, .inr (.inr ⟨str, ht2, hs2, rfl, rfl⟩)⟩
          · simp at h
        · simp at h
      · simp at h
    · (repeat' split at h) <;> simp at h
    · (repeat' split at h) <;> simp at h
    · (repeat' split at h) <;> simp at h
    · simp at h
  all_goals
    simp only [hop] at h
    (try unfold sBin at h)
    exfalso
    (repeat' split at h) <;> simp at h
set_option maxHeartbeats 1000000 in
theorem inv_call {f : FuncId} {vs : List V} (h : sOp P live fr o = .call f vs) : ∃ x args ats first caps, o.op = .call { callee := .value x, args := args, argTypes := ats } ∧ ev fr x = .fn (.func f) first caps ∧ vs = first ++ args.toList.map (ev fr) ++ caps := by
  unfold sOp at h
  cases hop : o.op
  case call c =>
    obtain ⟨callee, args, ats⟩ := c
    simp only [hop] at h
    split at h
    · (repeat' split at h) <;> simp at h
    · (repeat' split at h) <;> simp at h
    · (repeat' split at h) <;> simp at h
    · (repeat' split at h) <;> simp at h
    · (repeat' split at h) <;> simp at h
    · (repeat' split at h) <;> simp at h
    · (repeat' split at h) <;> simp at h
    · rename_i _ x
      split at h
      · rename_i g first caps hx
        simp at h
        obtain ⟨rfl, rfl⟩ := h
        exact ⟨x, args, ats, first, caps, rfl, hx, by simp⟩
      · simp at h
      · simp at h
    · simp at h
  all_goals
    simp only [hop] at h
    (try unfold sBin at h)
    exfalso
    (repeat' split at h) <;> simp at h
set_option maxHeartbeats 1000000 in
theorem inv_yld {l : Nat} {vs : List V} (h : sOp P live fr o = .yld l vs) : ∃ x args ats, o.op = .call { callee := .value x, args := args, argTypes := ats } ∧ ev fr x = .fn (.yield l) [] [] ∧ vs = args.toList.map (ev fr) := by
  unfold sOp at h
  cases hop : o.op
  case call c =>
    obtain ⟨callee, args, ats⟩ := c
    simp only [hop] at h
    split at h
    · (repeat' split at h) <;> simp at h
    · (repeat' split at h) <;> simp at h
    · (repeat' split at h) <;> simp at h
    · (repeat' split at h) <;> simp at h
    · (repeat' split at h) <;> simp at h
    · (repeat' split at h) <;> simp at h
    · (repeat' split at h) <;> simp at h
    · rename_i _ x
      split at h
      · simp at h
      · rename_i l' hx
        simp at h
        obtain ⟨rfl, rfl⟩ := h
        exact ⟨x, args, ats, rfl, hx, rfl⟩
      · simp at h
    · simp at h
  all_goals
    simp only [hop] at h
    (try unfold sBin at h)
    exfalso
    (repeat' split at h) <;> simp at h
set_option maxHeartbeats 1000000 in
theorem inv_nilcmp {eq : Bool} {xs : List V} (h : sOp P live fr o = .nilcmp eq xs) : ∃ t x ty e sh tok, o.op = .binOp (if eq then .eql else .neq) t x (.const (.slice none 0 0)) ty ∧ P.underlying t = some (.slice e) ∧ ev fr x = .sl sh xs tok := by
  unfold sOp at h
  cases hop : o.op
  case binOp op t x y ty =>
    simp only [hop] at h
    unfold sBin at h
    split at h
    · rename_i sh xs' tok sh2 tok2 hx hy
      split at h
      · rename_i e ht
        simp at h
        obtain ⟨rfl, rfl⟩ := h
        exact ⟨t, x, ty, e, sh, tok, rfl, ht, hx⟩
      · simp at h
    · rename_i sh xs' tok sh2 tok2 hx hy
      split at h
      · rename_i e ht
        simp at h
        obtain ⟨rfl, rfl⟩ := h
        exact ⟨t, x, ty, e, sh, tok, rfl, ht, hx⟩
      · simp at h
    all_goals ((repeat' split at h) <;> simp at h)
  all_goals
    simp only [hop] at h
    (try unfold sBin at h)
    exfalso
    (repeat' split at h) <;> simp at h
theorem arg_two {α β : Type} {f : α → β} {l : List α} {p q : β} (hm : l.map f = [p, q]) : ∃ t u, l = [t, u] ∧ f t = p ∧ f u = q := by
  match l with
  | [] => simp at hm
  | [_] => simp at hm
  | [t, u] => simp at hm; exact ⟨t, u, rfl, hm.1, hm.2⟩
  | _ :: _ :: _ :: _ => simp at hm
theorem arg_one {α β : Type} {f : α → β} {l : List α} {p : β} (hm : l.map f = [p]) : ∃ t, l = [t] ∧ f t = p := by
  match l with
  | [] => simp at hm
  | [t] => simp at hm; exact ⟨t, rfl, hm⟩
  | _ :: _ :: _ => simp at hm
def EffOp (P : Program) (fr : Fr) (o : Oper) : Eff → Prop
  | .app sh by_ x ys => ∃ args ats t tx e i s y, o.op = .call { callee := .builtin .append, args := args, argTypes := ats } ∧ ats.toList = [t, tx] ∧ args.toList = [s, y] ∧
      P.underlying t = some (.slice e) ∧ shapeOf P e = some sh ∧ P.info? e = some i ∧ by_ = i.bytes ∧ 0 < i.bytes ∧ (i.zero.map fun z => z.cells.size) = some i.size ∧ ev fr s = x ∧
      ((∃ e' tok, P.underlying tx = some (.slice e') ∧ ev fr y = .sl sh ys tok) ∨ (∃ e' sh' tok, P.underlying tx = some (.slice e') ∧ ev fr y = .sl sh' [] tok ∧ ys = []))
  | .appL sh by_ x b o' n => ∃ args ats t tx e e' i s y cap, o.op = .call { callee := .builtin .append, args := args, argTypes := ats } ∧ ats.toList = [t, tx] ∧ args.toList = [s, y] ∧
      P.underlying t = some (.slice e) ∧ shapeOf P e = some sh ∧ P.info? e = some i ∧ by_ = i.bytes ∧ 0 < i.bytes ∧ (i.zero.map fun z => z.cells.size) = some i.size ∧ ev fr s = x ∧
      P.underlying tx = some (.slice e') ∧ ev fr y = .lsl sh b o' n cap
  | .appZ sh by_ x zs m => ∃ args ats t tx e k k' i z s y, o.op = .call { callee := .builtin .append, args := args, argTypes := ats } ∧ ats.toList = [t, tx] ∧ args.toList = [s, y] ∧
      P.underlying t = some (.slice e) ∧ shapeOf P e = some sh ∧ P.info? e = some i ∧ by_ = i.bytes ∧ 0 < i.bytes ∧ i.zero = some z ∧ z.cells.size = i.size ∧ cellsO (ofC z) = some zs ∧ zs.length = width sh ∧ ev fr s = x ∧
      P.underlying tx = some (.int k) ∧ ev fr y = .c (.int k' m)
  | .copy sh b o' n ys => ∃ args ats t tx e e' s y cap, o.op = .call { callee := .builtin .copy, args := args, argTypes := ats } ∧ ats.toList = [t, tx] ∧ args.toList = [s, y] ∧
      P.underlying t = some (.slice e) ∧ shapeOf P e = some sh ∧ P.underlying tx = some (.slice e') ∧ ev fr s = .lsl sh b o' n cap ∧ ((∃ tok, ev fr y = .sl sh ys tok) ∨ (∃ sh' tok, ev fr y = .sl sh' [] tok ∧ ys = []))
  | .copyL sh b o' n b' o2 n' => ∃ args ats t tx e e' s y cap cap', o.op = .call { callee := .builtin .copy, args := args, argTypes := ats } ∧ ats.toList = [t, tx] ∧ args.toList = [s, y] ∧
      P.underlying t = some (.slice e) ∧ shapeOf P e = some sh ∧ P.underlying tx = some (.slice e') ∧ ev fr s = .lsl sh b o' n cap ∧ ev fr y = .lsl sh b' o2 n' cap'
  | .clear sh b o' n zs => ∃ args ats t e i z s cap, o.op = .call { callee := .builtin .clear, args := args, argTypes := ats } ∧ ats.toList = [t] ∧ args.toList = [s] ∧
      P.underlying t = some (.slice e) ∧ shapeOf P e = some sh ∧ P.info? e = some i ∧ i.zero = some z ∧ cellsO (ofC z) = some zs ∧ zs.length = width sh ∧ ev fr s = .lsl sh b o' n cap
  | .make sh by_ zs n c => ∃ t ln cp e i z k k', o.op = .makeSlice t ln cp ∧ P.underlying t = some (.slice e) ∧ shapeOf P e = some sh ∧ P.info? e = some i ∧ by_ = i.bytes ∧ 0 < i.bytes ∧ i.zero = some z ∧ z.cells.size = i.size ∧ cellsO (ofC z) = some zs ∧ zs.length = width sh ∧
      ev fr ln = .c (.int k n) ∧ ev fr cp = .c (.int k' c)
  | .bytes s => ∃ src dst e i x, o.op = .convert src dst x ∧ P.underlying src = some .string ∧ P.underlying dst = some (.slice e) ∧ P.underlying e = some (.int .u8) ∧ P.info? e = some i ∧ i.bytes = 1 ∧ i.size = 1 ∧ ev fr x = .c (.string s)
  | .str b o' n => ∃ src dst e x cap, o.op = .convert src dst x ∧ P.underlying src = some (.slice e) ∧ P.underlying dst = some .string ∧ P.underlying e = some (.int .u8) ∧ ev fr x = .lsl none b o' n cap
  | .isNil eq n => ∃ t x ty e sh b o' cap, o.op = .binOp (if eq then .eql else .neq) t x (.const (.slice none 0 0)) ty ∧ P.underlying t = some (.slice e) ∧ ev fr x = .lsl sh b o' n cap
  | .lit sh xs => ∃ t n parts e, o.op = .buildSlice t n parts ∧ P.underlying t = some (.slice e) ∧ shapeOf P e = some sh ∧ xs = parts.toList.map (fun p => ev fr p.2) ∧
      parts.toList.map (·.1) = List.range n ∧ xs.all (fitsB sh) = true ∧ n * width sh ≤ 65536 ∧ (P.info? e).any (fun i => i.zero.isSome) = true ∧ n ≤ 65536
set_option maxHeartbeats 4000000 in
theorem inv_eff {e : Eff} (h : sOp P live fr o = .eff e) : EffOp P fr o e := by
  unfold sOp at h
  cases hop : o.op
  case buildSlice t n parts =>
    simp only [hop] at h
    split at h
    · rename_i e ht
      split at h
      · rename_i sh' hsh
        split at h
        · rename_i hc
          split at h
          · split at h
            · simp at h
              subst h
              exact ⟨t, n, parts, e, hop, ht, hsh, rfl, hc.1, hc.2.1, hc.2.2.1, hc.2.2.2.1, hc.2.2.2.2⟩
            · simp at h
          · simp at h
        · simp at h
      · simp at h
    · simp at h
  case call c =>
    obtain ⟨callee, args, ats⟩ := c
    simp only [hop] at h
    split at h
    · (repeat' split at h) <;> simp at h
    · (repeat' split at h) <;> simp at h
    · -- copy
      split at h
      · rename_i e1 e2 sh b o' n cap sh' ys tok ht ha
        obtain ⟨t, tx, hts, ht1, ht2⟩ := arg_two ht
        obtain ⟨s, y, has, hs1, hs2⟩ := arg_two ha
        split at h
        · rename_i hsh
          split at h
          · rename_i hse; subst hse
            simp at h; subst h
            exact ⟨args, ats, t, tx, e1, e2, s, y, cap, hop, hts, has, ht1, hsh, ht2, hs1, .inl ⟨tok, hs2⟩⟩
          · split at h
            · simp at h; subst h
              exact ⟨args, ats, t, tx, e1, e2, s, y, cap, hop, hts, has, ht1, hsh, ht2, hs1, .inr ⟨sh', tok, hs2, rfl⟩⟩
            · simp at h
        · simp at h
      · rename_i e1 e2 sh b o' n cap sh' b' o2 n' cap' ht ha
        obtain ⟨t, tx, hts, ht1, ht2⟩ := arg_two ht
        obtain ⟨s, y, has, hs1, hs2⟩ := arg_two ha
        split at h
        · rename_i hsh
          obtain ⟨hsh, rfl⟩ := hsh
          simp at h; subst h
          exact ⟨args, ats, t, tx, e1, e2, s, y, cap, cap', hop, hts, has, ht1, hsh, ht2, hs1, hs2⟩
        · simp at h
      · simp at h
    · -- clear
      split at h
      · rename_i e1 sh b o' n cap ht ha
        obtain ⟨t, hts, ht1⟩ := arg_one ht
        obtain ⟨s, has, hs1⟩ := arg_one ha
        split at h
        · rename_i z hz
          obtain ⟨i, hi, hz⟩ := Option.bind_eq_some_iff.1 hz
          split at h
          · rename_i zs hzs
            split at h
            · rename_i hsh
              simp at h; subst h
              exact ⟨args, ats, t, e1, i, z, s, cap, hop, hts, has, ht1, hsh.1, hi, hz, hzs, hsh.2, hs1⟩
            · simp at h
          · simp at h
        · simp at h
      · simp at h
    · -- append
      split at h
      · rename_i e1 e2 x sh' ys tok ht ha
        obtain ⟨t, tx, hts, ht1, ht2⟩ := arg_two ht
        obtain ⟨s, y, has, hs1, hs2⟩ := arg_two ha
        split at h
        · rename_i sh i hsh hi
          split at h
          · rename_i hb
            split at h
            · split at h
              · rename_i hse; subst hse
                simp at h; subst h
                exact ⟨args, ats, t, tx, e1, i, s, y, hop, hts, has, ht1, hsh, hi, rfl, hb.1, hb.2, hs1, .inl ⟨e2, tok, ht2, hs2⟩⟩
              · split at h
                · simp at h; subst h
                  exact ⟨args, ats, t, tx, e1, i, s, y, hop, hts, has, ht1, hsh, hi, rfl, hb.1, hb.2, hs1, .inr ⟨e2, sh', tok, ht2, hs2, rfl⟩⟩
                · simp at h
            · (repeat' split at h) <;> simp at h
          · simp at h
        · simp at h
      · rename_i e1 e2 x sh' b o' n cap ht ha
        obtain ⟨t, tx, hts, ht1, ht2⟩ := arg_two ht
        obtain ⟨s, y, has, hs1, hs2⟩ := arg_two ha
        split at h
        · rename_i sh i hsh hi
          split at h
          · rename_i hb
            obtain ⟨hb1, hb2, rfl⟩ := hb
            simp at h; subst h
            exact ⟨args, ats, t, tx, e1, e2, i, s, y, cap, hop, hts, has, ht1, hsh, hi, rfl, hb1, hb2, hs1, ht2, hs2⟩
          · simp at h
        · simp at h
      · rename_i e1 k x k' m ht ha
        obtain ⟨t, tx, hts, ht1, ht2⟩ := arg_two ht
        obtain ⟨s, y, has, hs1, hs2⟩ := arg_two ha
        split at h
        · rename_i sh i hsh hi
          split at h
          · rename_i z hz
            split at h
            · rename_i zs hzs
              split at h
              · rename_i hb
                simp at h; subst h
                exact ⟨args, ats, t, tx, e1, k, k', i, z, s, y, hop, hts, has, ht1, hsh, hi, rfl, hb.1, hz, hb.2.1, hzs, hb.2.2, hs1, ht2, hs2⟩
              · simp at h
            · simp at h
          · simp at h
        · simp at h
      · (repeat' split at h) <;> simp at h
      · simp at h
    · (repeat' split at h) <;> simp at h
    · (repeat' split at h) <;> simp at h
    · (repeat' split at h) <;> simp at h
    · simp at h
  case makeSlice t ln cp =>
    simp only [hop] at h
    split at h
    · rename_i e1 k n k' c ht hn hc
      split at h
      · rename_i sh i hsh hi
        split at h
        · rename_i z hz
          split at h
          · rename_i zs hzs
            split at h
            · rename_i hb
              simp at h; subst h
              exact ⟨t, ln, cp, e1, i, z, k, k', hop, ht, hsh, hi, rfl, hb.1, hz, hb.2.2, hzs, hb.2.1, hn, hc⟩
            · simp at h
          · simp at h
        · simp at h
      · simp at h
    · simp at h
  case convert src dst x =>
    simp only [hop] at h
    split at h
    · simp at h
    · simp at h
    · rename_i e1 s hs hd hx
      split at h
      · rename_i he
        split at h
        · split at h
          · rename_i hi
            obtain ⟨i, hi1, hi2⟩ : ∃ i, P.info? e1 = some i ∧ (Nat.beq i.bytes 1 && Nat.beq i.size 1) = true := by
              cases hii : P.info? e1 with
              | none => rw [hii] at hi; simp at hi
              | some i => rw [hii] at hi; exact ⟨i, rfl, by simpa using hi⟩
            simp only [Bool.and_eq_true] at hi2
            simp at h; subst h
            exact ⟨src, dst, e1, i, x, hop, hs, hd, he, hi1, Nat.eq_of_beq_eq_true hi2.1, Nat.eq_of_beq_eq_true hi2.2, hx⟩
          · simp at h
        · simp at h
      · simp at h
    · (repeat' split at h) <;> simp at h
    · rename_i e1 b o' n cap hs hd hx
      split at h
      · rename_i he
        simp at h; subst h
        exact ⟨src, dst, e1, x, cap, hop, hs, hd, he, hx⟩
      · simp at h
    · simp at h
  case binOp op t x y ty =>
    simp only [hop] at h
    unfold sBin at h
    split at h
    · (repeat' split at h) <;> simp at h
    · (repeat' split at h) <;> simp at h
    · rename_i sh b o' n cap sh2 tok2 hx hy
      split at h
      · rename_i e ht
        simp at h; subst h
        exact ⟨t, x, ty, e, sh, b, o', cap, hop, ht, hx⟩
      · simp at h
    · rename_i sh b o' n cap sh2 tok2 hx hy
      split at h
      · rename_i e ht
        simp at h; subst h
        exact ⟨t, x, ty, e, sh, b, o', cap, hop, ht, hx⟩
      · simp at h
    all_goals ((repeat' split at h) <;> simp at h)
  all_goals
    simp only [hop] at h
    exfalso
    (repeat' split at h) <;> simp at h
theorem inv_defer {c : Call} (h : o.op = .defer c) : sOp P live fr o = .bad := by
  unfold sOp; simp only [h]
end
end Go.Sv
namespace Go.Sv
open Go
section
variable {P : Program} {N n0 : Nat} {g : Gh} {w : World} {R : List Res} {fr : Fr} {a : Act} {o : Oper}
theorem set_self {α : Type} {l : List α} {i : Nat} {x : α} (h : l[i]? = some x) : l.set i x = l := by
  apply List.ext_getElem?
  intro j
  rw [List.getElem?_set]
  split
  · rename_i e; subst e
    split
    · exact h.symm
    · rename_i hn; rw [List.getElem?_eq_none (by omega)]
  · rfl
theorem splice_nil {cs : List V} {o : Nat} : splice cs o [] = cs := by simp [splice]
theorem e_put (hw : Wf g w) (hr : RelR g w R) {i b o : Nat} {cs src : List V} {news : List Value} (hR : R[i]? = some (.obj b cs)) (hl : RelL g w src news) (h1 : ∀ u ∈ news, u.oneCell' = true) (hle : o + src.length ≤ cs.length) :
    After g w R g (w.setCells b o news) (R.set i (.obj b (splice cs o src))) ∧ (∀ j, j < news.length → (w.cell? ⟨b, o + j, none⟩).isSome = true) ∧ (∀ j, j < news.length → w.frozen? ⟨b, o + j, none⟩ = false) := by
  have hln := relL_length hl
  by_cases hn : cs = []
  · subst hn
    have hs : src = [] := List.eq_nil_of_length_eq_zero (by have := hle; rw [List.length_nil] at this; omega)
    subst hs
    have hnn : news = [] := List.eq_nil_of_length_eq_zero (by simpa using hln)
    subst hnn
    refine ⟨?_, by simp, by simp⟩
    rw [splice_nil, set_self hR]
    exact After.refl hw hr
  · obtain ⟨A, B, rfl, hset⟩ := split_at hR
    have hobj := hr.all (.obj b cs) (by simp)
    obtain ⟨vals, e, fz, hh, hz, hlv, hcm⟩ := obj_cons hn hobj
    have hlv2 := relL_length hlv
    simp at hlv2
    refine ⟨?_, fun j hj => by simp [World.cell?, hh]; omega, fun j hj => frozen_cells hh hz (by omega)⟩
    rw [hset, setCells_row news o vals w hh (by omega)]
    refine After.frame hr (after_setRow hw hn (.inr ⟨vals, e, fz, hh, hz, hlv, hcm⟩) ?_ (by simp [splice]; omega))
    have := relL_append (relL_append (relL_take hlv o) hl) (relL_drop hlv (o + src.length))
    rw [← hln] at this
    simpa [splice, hln] using this
theorem e_fresh (hw : Wf g w) {w1 : World} (h1 : w1.heap = w.heap) (h2 : w1.os = w.os) (h3 : w1.tape = w.tape) (h4 : w1.output = w.output) (h5 : w.drawn ≤ w1.drawn) {cells : Array Value} {e : TypeId} {cs : List V} (hl : RelL g w cs cells.toList) : After g w [] g (w1.alloc (.cells cells e)) [.obj w.heap.size cs] := by
  have hc : ∀ b o, cell w1 b o = cell w b o := fun b o => by simp only [cell, World.cell?, h1]
  have hp : Pre g w g w1 := ⟨fun _ => Nat.le_refl _, fun b o _ => hc b o, Nat.le_refl _, fun _ _ => rfl, fun b o _ => by rw [hc]⟩
  have hw1 : Wf g w1 := ⟨fun b hb => hw.cm b (by rw [← h1]; exact hb), fun b o ho => by rw [hc]; exact hw.ex b o ho, hp.st hw⟩
  have hA := after_alloc_obj hw1 (e := e) (RelL.mono hp _ _ hl)
  rw [h1] at hA
  have hx := hA.ext
  refine ⟨?_, hA.res, fun b hb => by rw [← h1]; exact hA.own b hb⟩
  exact {
    cmle := hx.cmle
    com := fun b o ho => (hx.com b o ho).trans (hc b o)
    dm := fun b o h0 => (hx.dm b o h0).trans (by rw [hc])
    nt := hx.nt
    th := hx.th
    os := hx.os.trans h2
    tape := hx.tape.trans h3
    output := hx.output.trans h4
    drawn := fun d => Nat.le_trans h5 (hx.drawn d)
    size := by rw [← h1]; exact hx.size
    frame := fun b hb hn => by rw [← h1]; exact hx.frame b (by rw [h1]; exact hb) hn
    cmeq := fun b hb hn => hx.cmeq b (by rw [h1]; exact hb) hn
    wf := hx.wf }
theorem relL_undef : ∀ {xs : List Value}, RelL g w (List.replicate xs.length .undef) xs
  | [] => by simp [RelL]
  | x :: xs => by
    simp only [List.length_cons, List.replicate_succ, RelL]
    exact ⟨x, xs, rfl, by simp [RelV], relL_undef⟩
theorem after_more {g' : Gh} {w' : World} {x : Res} (hr : RelR g w R) (h : After g w [] g' w' [x]) : After g w R g' w' (R ++ [x]) := by
  have := After.frame (A := R) (B := []) (R := []) (by simpa using hr) h
  simpa using this
theorem after_instead {g' : Gh} {w' : World} {i : Nat} {x y : Res} (hr : RelR g w R) (hR : R[i]? = some y) (h : After g w [] g' w' [x]) : After g w R g' w' (R.set i x) := by
  obtain ⟨A, B, rfl, hset⟩ := split_at hR
  rw [hset]
  have h1 : After g w [y] g' w' [x] := by
    have := After.frame (A := [y]) (B := []) (R := []) (by simpa using hr.sub (R' := [y]) (by simp)) h
    exact this.sub (by simp)
  exact After.frame hr h1
theorem relR_dummy (hr : RelR g w R) (b : Nat) : RelR g w (R ++ [.obj b []]) := by
  refine ⟨fun x hx => ?_, ?_⟩
  · rcases List.mem_append.1 hx with hx | hx
    · exact hr.all x hx
    · simp only [List.mem_singleton] at hx; subst hx; exact .inl rfl
  · rw [blocks_append]
    have : blocks g [.obj b []] = [] := by simp [blocks, Res.blocks]
    rw [this, List.append_nil]; exact hr.nodup
theorem after_dummy (hw : Wf g w) (hr : RelR g w R) (b : Nat) : After g w R g w (R ++ [.obj b []]) := by
  refine ⟨Ext.refl _ hw, relR_dummy hr b, fun c hc => .inl ?_⟩
  rw [blocks_append] at hc
  have : blocks g [.obj b []] = [] := by simp [blocks, Res.blocks]
  rw [this, List.append_nil] at hc; exact hc
theorem grown_cells {sh : Option Nat} {oldsV src : List V} {olds news : List Value} {z : Array Value} {k : Nat} (ho : RelL g w oldsV olds) (hl : RelL g w src news) (hz : z.size = width sh) :
    RelL g w (oldsV ++ src ++ List.replicate (k * width sh) .undef) ((olds ++ news).toArray ++ Builtin.zeroCells z k).toList := by
  have h1 : (Builtin.zeroCells z k).toList.length = k * width sh := by simp [size_zeroCells, hz]
  have := relL_append (relL_append ho hl) (relL_undef (g := g) (w := w) (xs := (Builtin.zeroCells z k).toList))
  rw [h1] at this
  simpa using this
theorem e_app (hw : Wf g w) (hr : RelR g w R) {run : Value → Sem Value} {sh : Option Nat} {by_ m : Nat} {src : List V} {news : List Value} {z : Array Value} {e : TypeId} {x : V} {s : Value} {Y : V → List Res → Prop}
    (hroom : ∀ b off n c, n + m ≤ c → (∀ j, j < news.length → (w.cell? ⟨b, off + n * width sh + j, none⟩).isSome = true) → (∀ j, j < news.length → w.frozen? ⟨b, off + n * width sh + j, none⟩ = false) →
      (run (.slice (some ⟨b, off, none⟩) n c)).run P w = .ok (.slice (some ⟨b, off, none⟩) (n + m) c) (w.setCells b (off + n * width sh) news))
    (hnone : m = 0 → ∀ A n c, n ≤ c → (run (.slice A n c)).run P w = .ok (.slice A n c) w)
    (hgrow : ∀ A n c olds, (Builtin.firstCells (width sh) n (.slice A n c)).run P w.drew = .ok (List.toArray olds) w.drew → c < n + m → (n + m) * by_ ≤ 140737488355328 →
      (run (.slice A n c)).run P w = .ok (.slice (some ⟨w.heap.size, 0, none⟩) (n + m) (grownCap w (n + m) c e)) (w.drew.alloc (.cells ((olds ++ news).toArray ++ Builtin.zeroCells z (grownCap w (n + m) c e - (n + m))) e)))
    (hz : z.size = width sh) (hl : RelL g w src news) (hlen : src.length = m * width sh) (h1 : ∀ u ∈ news, u.oneCell' = true) (hx : RelV g w x s) (h : AppW sh by_ x m src R Y) :
    ∃ v u g' w' R', (run s).run P w = .ok u w' ∧ After g w R g' w' R' ∧ RelV g' w' v u ∧ Y v R' := by
  have hln := relL_length hl
  rcases h with ⟨sh', rfl, hle, hk⟩ | ⟨i, b, q, n, cap, cs, rfl, hR, hroom', hfit, hk⟩ | ⟨i, b, n, cap, cs, rfl, hR, hcs, hle, hk⟩
  · simp only [RelV] at hx
    obtain ⟨A, n, c, rfl, hn, hc, hcap, _⟩ := hx
    simp at hn; subst hn; subst hcap
    by_cases h0 : m = 0
    · subst h0
      have hs : src = [] := List.eq_nil_of_length_eq_zero (by simpa using hlen)
      subst hs
      refine ⟨_, _, g, w, _, hnone rfl A 0 0 (Nat.le_refl _), after_dummy hw hr 0, ?_, hk 0 0 [] (by simp) (Nat.le_refl _)⟩
      simp only [RelV]
      exact ⟨A, rfl, Nat.le_refl _, .inl (by trivial)⟩
    · have hold : (Builtin.firstCells (width sh) 0 (.slice A 0 0)).run P w.drew = .ok ([] : List Value).toArray w.drew := by
        cases A <;> simp [Builtin.firstCells, loadCells, loadCellsFrom]
      have hrun := hgrow A 0 0 [] hold (by omega) (by simpa using hle)
      simp only [Nat.zero_add] at hrun
      have hge := grownCap_ge w m 0 e
      have hrel := grown_cells (g := g) (w := w) (sh := sh) (oldsV := []) (olds := []) (z := z) (k := grownCap w m 0 e - m) (by simp [RelL]) hl hz
      simp only [List.nil_append] at hrel
      have hA := e_fresh (w1 := w.drew) (e := e) hw rfl rfl rfl rfl (Nat.le_succ _) hrel
      refine ⟨_, _, g, _, _, hrun, after_more hr hA, ?_, hk w.heap.size (grownCap w m 0 e) (List.replicate ((grownCap w m 0 e - m) * width sh) .undef) ?_ hge⟩
      · simp only [RelV]
        exact ⟨_, rfl, hge, .inr rfl⟩
      · simp only [List.length_append, hlen, List.length_replicate, ← Nat.add_mul]
        congr 1; omega
  · simp only [RelV] at hx
    obtain ⟨A, rfl, hc, hA⟩ := hx
    by_cases h0 : cap = 0
    · have hm : m = 0 := by omega
      subst hm
      have hs : src = [] := List.eq_nil_of_length_eq_zero (by simpa using hlen)
      subst hs
      rw [splice_nil, set_self hR] at hk
      refine ⟨_, _, g, w, _, hnone rfl A n cap hc, After.refl hw hr, ?_, hk⟩
      simp only [RelV]
      exact ⟨A, rfl, hc, hA⟩
    · have hA' : A = some ⟨b, q, none⟩ := by rcases hA with h | h; exact absurd h h0; exact h
      subst hA'
      have hmul : (n + m) * width sh ≤ cap * width sh := Nat.mul_le_mul_right _ hroom'
      rw [Nat.add_mul] at hmul
      obtain ⟨p1, p2, p3⟩ := e_put hw hr (o := q + n * width sh) hR hl h1 (by omega)
      refine ⟨_, _, g, _, _, hroom b q n cap hroom' p2 p3, p1, ?_, hk⟩
      simp only [RelV]
      exact ⟨_, rfl, hroom', .inr rfl⟩
  · simp only [RelV] at hx
    obtain ⟨A, rfl, hc, hA⟩ := hx
    have hmul0 : n * width sh ≤ cap * width sh := Nat.mul_le_mul_right _ hc
    by_cases hfit : n + m ≤ cap
    · have hmul : (n + m) * width sh ≤ cap * width sh := Nat.mul_le_mul_right _ hfit
      rw [Nat.add_mul] at hmul
      have hsp : splice cs (n * width sh) src = cs.take (n * width sh) ++ src ++ cs.drop (n * width sh + src.length) := rfl
      have hk' := hk b cap (cs.drop (n * width sh + src.length)) (by simp; omega) hfit
      by_cases h0 : cap = 0
      · have hm : m = 0 := by omega
        subst hm
        have hs : src = [] := List.eq_nil_of_length_eq_zero (by simpa using hlen)
        subst hs
        rw [← hsp, splice_nil, set_self hR] at hk'
        refine ⟨_, _, g, w, _, hnone rfl A n cap hc, After.refl hw hr, ?_, hk'⟩
        simp only [RelV]
        exact ⟨A, rfl, hc, hA⟩
      · have hA' : A = some ⟨b, 0, none⟩ := by rcases hA with h | h; exact absurd h h0; exact h
        subst hA'
        obtain ⟨p1, p2, p3⟩ := e_put hw hr (o := 0 + n * width sh) hR hl h1 (by omega)
        refine ⟨_, _, g, _, _, hroom b 0 n cap hfit p2 p3, p1, ?_, by rw [Nat.zero_add, hsp]; exact hk'⟩
        simp only [RelV]
        exact ⟨_, rfl, hfit, .inr rfl⟩
    · -- a new row
      have hold : ∃ olds : List Value, (Builtin.firstCells (width sh) n (.slice A n cap)).run P w.drew = .ok olds.toArray w.drew ∧ RelL g w (cs.take (n * width sh)) olds := by
        by_cases h0 : n * width sh = 0
        · refine ⟨[], ?_, by rw [h0]; simp [RelL]⟩
          cases A <;> simp [Builtin.firstCells, loadCells, loadCellsFrom, h0]
        · have hcap : cap ≠ 0 := by rintro rfl; simp at hc; subst hc; simp at h0
          have hA' : A = some ⟨b, 0, none⟩ := by rcases hA with h | h; exact absurd h hcap; exact h
          subst hA'
          have hn : cs ≠ [] := by rintro rfl; simp at hcs; omega
          obtain ⟨vals, e', fz, hh, hz', hlv, hcm⟩ := obj_cons hn (hr.all _ (List.mem_of_getElem? hR))
          have hlv2 := relL_length hlv
          simp at hlv2
          refine ⟨vals.toList.take (n * width sh), ?_, relL_take hlv _⟩
          refine run_firstCells_some w.drew (width sh) n ⟨b, 0, none⟩ n cap _ (by simp; omega) fun j v hj => ?_
          rw [Addr.add_lit, Nat.zero_add]
          rw [List.getElem?_take] at hj
          split at hj
          · have hh' : w.drew.heap[b]? = some (.cells vals e' fz) := hh
            simp only [World.cell?, hh']
            simpa using hj
          · cases hj
      obtain ⟨olds, ho1, ho2⟩ := hold
      have hrun := hgrow A n cap olds ho1 (by omega) hle
      have hge := grownCap_ge w (n + m) cap e
      have hrel := grown_cells (g := g) (w := w) (sh := sh) (z := z) (k := grownCap w (n + m) cap e - (n + m)) ho2 hl hz
      have hA := e_fresh (w1 := w.drew) (e := e) hw rfl rfl rfl rfl (Nat.le_succ _) hrel
      refine ⟨_, _, g, _, _, hrun, after_instead hr hR hA, ?_, hk w.heap.size (grownCap w (n + m) cap e) (List.replicate ((grownCap w (n + m) cap e - (n + m)) * width sh) .undef) ?_ hge⟩
      · simp only [RelV]
        exact ⟨_, rfl, hge, .inr rfl⟩
      · simp only [List.length_append, hlen, List.length_replicate, List.length_take, hcs, Nat.min_eq_left hmul0, ← Nat.add_mul]
        congr 1; omega
theorem row_cells {sh : Option Nat} : ∀ {ys : List V} {rd : Nat → Option Value} {news : List Value}, RelXs g w sh ys rd → (∀ y ∈ ys, okE sh y) → news.length = ys.length * width sh → (∀ i, i < news.length → rd i = news[i]?) → RelL g w (rowC sh ys) news
  | [], rd, news, _, _, hl, _ => by
    have : news = [] := List.eq_nil_of_length_eq_zero (by simpa using hl)
    subst this
    cases sh <;> simp [rowC, RelL]
  | y :: ys, rd, news, h, hok, hl, hrd => by
    rw [relXs_cons] at h
    have hl' : news.length = width sh + ys.length * width sh := by rw [hl]; simp [Nat.add_mul]; omega
    have ih := row_cells (news := news.drop (width sh)) h.2 (fun y hy => hok y (by simp [hy])) (by simp; omega) (fun i hi => by
      simp at hi
      rw [hrd _ (by omega), List.getElem?_drop, Nat.add_comm])
    have hy := hok y (by simp)
    have hhead : ∃ cs, rowC sh (y :: ys) = cs ++ rowC sh ys ∧ RelL g w cs (news.take (width sh)) := by
      cases sh with
      | none =>
        refine ⟨[y], by simp [rowC], ?_⟩
        obtain ⟨x, hx, hr⟩ := h.1
        have h0 := hrd 0 (by simp [width] at hl'; omega)
        rw [hx] at h0
        have : news.take (width none) = [x] := by
          cases news with
          | nil => simp at h0
          | cons u us => simp at h0; subst h0; simp [width]
        rw [this]
        simp only [RelL]
        exact ⟨x, [], rfl, hr, rfl⟩
      | some k =>
        obtain ⟨cs, rfl, hlen, _⟩ := hy
        refine ⟨cs, by simp [rowC, aggC], ?_⟩
        obtain ⟨l, hls, hc, hr⟩ := h.1
        simp only [RelV] at hr
        obtain ⟨l', he, hr⟩ := hr
        cases he
        have : news.take (width (some k)) = l.toList := by
          apply List.ext_getElem?
          intro i
          rw [List.getElem?_take]
          split
          · rename_i hi
            simp only [width] at hi hl'
            rw [← hrd i (by omega), hc i hi]; simp
          · rename_i hi
            simp only [width] at hi
            rw [List.getElem?_eq_none (by simp; omega)]
        rw [this]; exact hr
    obtain ⟨cs, h1, h2⟩ := hhead
    rw [h1]
    have := relL_append h2 ih
    rwa [List.take_append_drop] at this
theorem rowC_length {sh : Option Nat} : ∀ {ys : List V}, (∀ y ∈ ys, okE sh y) → (rowC sh ys).length = ys.length * width sh
  | [], _ => by cases sh <;> simp [rowC]
  | y :: ys, h => by
    have ih := rowC_length (ys := ys) fun y hy => h y (by simp [hy])
    cases sh with
    | none => simp [rowC, width]
    | some k =>
      obtain ⟨cs, rfl, hlen, _⟩ := h y (by simp)
      simp only [rowC] at ih
      simp [rowC, aggC, ih, width, Nat.add_mul, hlen]; omega
theorem part_src (hr : RelR g w R) {j b o' n : Nat} {cs : List V} {A : Option Addr} {cap k : Nat} (hR : R[j]? = some (.obj b cs)) (hle : o' + k ≤ cs.length) (hk : k = 0 ∨ A = some ⟨b, o', none⟩) :
    ∃ news : List Value, RelL g w ((cs.drop o').take k) news ∧ news.length = k ∧ ∀ w' : World, w'.heap = w.heap → ∀ size, n * size = k → (Builtin.firstCells size n (.slice A n cap)).run P w' = .ok news.toArray w' := by
  by_cases h0 : k = 0
  · subst h0
    refine ⟨[], by simp [RelL], rfl, fun w' hw' size hs => ?_⟩
    cases A <;> simp [Builtin.firstCells, loadCells, loadCellsFrom, hs]
  · have hA : A = some ⟨b, o', none⟩ := hk.resolve_left h0
    subst hA
    have hn : cs ≠ [] := by rintro rfl; simp at hle; omega
    obtain ⟨vals, e', fz, hh, hz', hlv, hcm⟩ := obj_cons hn (hr.all _ (List.mem_of_getElem? hR))
    have hlv2 := relL_length hlv
    simp at hlv2
    refine ⟨(vals.toList.drop o').take k, relL_take (relL_drop hlv _) _, by simp; omega, fun w' hw' size hs => ?_⟩
    refine run_firstCells_some w' size n ⟨b, o', none⟩ n cap _ (by simp; omega) fun i v hi => ?_
    rw [Addr.add_lit]
    rw [List.getElem?_take] at hi
    split at hi
    · have hh' : w'.heap[b]? = some (.cells vals e' fz) := by rw [hw']; exact hh
      simp only [World.cell?, hh']
      rw [List.getElem?_drop] at hi
      simpa using hi
    · cases hi
theorem one_of_rel {src : List V} {news : List Value} (hl : RelL g w src news) (h : ∀ v ∈ src, oneV v = true) : ∀ u ∈ news, u.oneCell' = true := by
  intro u hu
  obtain ⟨j, hj⟩ := List.getElem?_of_mem hu
  have hjlt := (List.getElem?_eq_some_iff.1 hj).1
  have hln := relL_length hl
  have hjv : src[j]? = some src[j] := List.getElem?_eq_getElem (by omega)
  obtain ⟨z, hz, hrel⟩ := relL_get hl hjv
  rw [hj] at hz; cases hz
  exact oneV_one (h _ (List.getElem_mem _)) hrel
theorem getElem_bang {z : Array Value} {i : Nat} (h : i < z.size) : z[i]! = z[i] := by simp [h]
theorem rel_zeros {z : Array Value} {zs : List V} (hz : RelL g w zs z.toList) : ∀ n : Nat, RelL g w (List.replicate n zs).flatten (Builtin.zeroCells z n).toList := by
  intro n
  have hlen := relL_length hz
  simp at hlen
  have key : (Builtin.zeroCells z n).toList = (List.replicate n z.toList).flatten := by
    induction n with
    | zero => simp [Builtin.zeroCells]
    | succ n ih =>
      have e1 : Builtin.zeroCells z (n + 1) = Builtin.zeroCells z n ++ z := by
        apply Array.ext
        · simp [size_zeroCells, Nat.add_mul]
        · intro i h1 h2
          rw [Array.getElem_append]
          simp only [Builtin.zeroCells, Array.getElem_map, Array.getElem_range, Array.size_map, Array.size_range]
          simp only [size_zeroCells, Nat.add_mul, Nat.one_mul] at h1
          split
          · rfl
          · rename_i hn
            have h0 : i % z.size = i - n * z.size := by
              have hcm := Nat.mul_comm z.size n
              have : i = (i - n * z.size) + z.size * n := by omega
              rw [this, Nat.add_mul_mod_self_left]
              rw [Nat.mod_eq_of_lt (by omega)]
              rw [Nat.mul_comm z.size n]; omega
            rw [h0, getElem_bang (by omega)]
      rw [e1, Array.toList_append, ih, ← List.flatten_concat]
      rw [show List.replicate n z.toList ++ [z.toList] = List.replicate (n + 1) z.toList from (List.replicate_succ').symm]
  rw [key]
  clear key
  induction n with
  | zero => simp [RelL]
  | succ n ih => simp only [List.replicate_succ, List.flatten_cons]; exact relL_append hz ih
theorem flat_length {zs : List V} {n k : Nat} (h : zs.length = k) : (List.replicate n zs).flatten.length = n * k := by
  induction n with
  | zero => simp
  | succ n ih => simp only [List.replicate_succ, List.flatten_cons, List.length_append, ih, h, Nat.add_mul]; omega
theorem flat_mem {zs : List V} {n : Nat} {Q : V → Prop} (h : ∀ v ∈ zs, Q v) : ∀ v ∈ (List.replicate n zs).flatten, Q v := by
  intro v hv
  obtain ⟨l, hl, hv⟩ := List.mem_flatten.1 hv
  rw [List.eq_of_mem_replicate hl] at hv
  exact h v hv
theorem made_zero {z : Array Value} {n k : Nat} (h : z.size = k) : madeCells z (n * k) = Builtin.zeroCells z n := by subst h; rfl
theorem run_copy {dT sT ty elem : TypeId} {i : TypeInfo} {A : Option Addr} {n cap m : Nat} {src : Value} {news : List Value} {w2 : World} (hu : P.underlying dT = some (.slice elem)) (hi : P.info? elem = some i) (hm : (Builtin.lenOf src).run P w = .ok m w)
    (hc : (Builtin.firstCells i.size (min m n) src).run P w = .ok news.toArray w) (hst : (A = none ∧ w2 = w) ∨ ∃ ad, A = some ad ∧ (storeCells ad news).run P w = .ok () w2) :
    (Builtin.copy_ #[dT, sT] ty #[.slice A n cap, src]).run P w = .ok (.int .i64 (min m n : Nat)) w2 := by
  have hc' : (Builtin.firstCells i.size (Nat.min m n) src).run P w = .ok news.toArray w := hc
  rcases hst with ⟨rfl, rfl⟩ | ⟨ad, rfl, hst⟩
  · simp [Builtin.copy_, run_underlying hu, sizeOf, typeInfo, hi, hm, hc', goInt]
  · simp [Builtin.copy_, run_underlying hu, sizeOf, typeInfo, hi, hm, hc', goInt, hst]
theorem run_clear {t e ty : TypeId} {i : TypeInfo} {z : Value} {A : Option Addr} {n cap : Nat} {w2 : World} (hu : P.underlying t = some (.slice e)) (hi : P.info? e = some i) (hz : i.zero = some z)
    (hst : (A = none ∧ w2 = w) ∨ (n = 0 ∧ w2 = w) ∨ ∃ ad, A = some ad ∧ n ≠ 0 ∧ (storeCells ad (Builtin.zeroCells z.cells n).toList).run P w = .ok () w2) :
    (Builtin.clear_ #[t] ty #[.slice A n cap]).run P w = .ok (.tuple #[]) w2 := by
  rcases hst with ⟨rfl, rfl⟩ | ⟨rfl, rfl⟩ | ⟨ad, rfl, hn, hst⟩
  · simp [Builtin.clear_, run_underlying hu]
  · cases A <;> simp [Builtin.clear_, run_underlying hu]
  · obtain ⟨k, rfl⟩ : ∃ k, n = k + 1 := ⟨n - 1, by omega⟩
    simp [Builtin.clear_, run_underlying hu, zeroValue, typeInfo, hi, hz, hst]
theorem run_appZ {t tx ty e : TypeId} {i : TypeInfo} {z : Value} {k k' : IntKind} {m : Nat} (ht : P.underlying t = some (.slice e)) (hi : P.info? e = some i) (hz : i.zero = some z) (hzs : z.cells.size = i.size) (htx : P.underlying tx = some (.int k)) (hm : m ≤ 140737488355328) (hmb : m * i.bytes ≤ 140737488355328) :
    (∀ b off n c, n + m ≤ c → (∀ j, j < (Builtin.zeroCells z.cells m).toList.length → (w.cell? ⟨b, off + n * i.size + j, none⟩).isSome = true) → (∀ j, j < (Builtin.zeroCells z.cells m).toList.length → w.frozen? ⟨b, off + n * i.size + j, none⟩ = false) → (∀ u ∈ (Builtin.zeroCells z.cells m).toList, u.oneCell' = true) →
      (Builtin.append_ #[t, tx] ty #[.slice (some ⟨b, off, none⟩) n c, .int k' m]).run P w = .ok (.slice (some ⟨b, off, none⟩) (n + m) c) (w.setCells b (off + n * i.size) (Builtin.zeroCells z.cells m).toList)) ∧
    (m = 0 → ∀ A n c, n ≤ c → (Builtin.append_ #[t, tx] ty #[.slice A n c, .int k' m]).run P w = .ok (.slice A n c) w) ∧
    (∀ A n c olds, (Builtin.firstCells i.size n (.slice A n c)).run P w.drew = .ok (List.toArray olds) w.drew → c < n + m → ((n + m : Nat) : Int) ≤ 9223372036854775807 → Builtin.nextslicecap (n + m) c * i.bytes ≤ 281474976710656 →
      (Builtin.append_ #[t, tx] ty #[.slice A n c, .int k' m]).run P w = .ok (.slice (some ⟨w.heap.size, 0, none⟩) (n + m) (grownCap w (n + m) c e)) (w.drew.alloc (.cells ((olds ++ (Builtin.zeroCells z.cells m).toList).toArray ++ Builtin.zeroCells z.cells (grownCap w (n + m) c e - (n + m))) e))) := by
  have wm : IntKind.i64.wrap (m : Int) = m := by rw [IntKind.wrap_i64]; omega
  have w0 : IntKind.i64.wrap 0 = 0 := by rw [IntKind.wrap_i64]; omega
  have n1 : ¬ ((m : Int) < 0) := by omega
  have n2 : ¬ ((281474976710656 : Int) < (m : Int) * (i.bytes : Int)) := by
    have : ((m * i.bytes : Nat) : Int) ≤ 140737488355328 := by omega
    rw [Int.natCast_mul] at this; omega
  refine ⟨?_, ?_, ?_⟩
  · intro b off n c hroom hc hf h1
    have hst := run_storeCells_cells (P := P) b (off + n * i.size) (Builtin.zeroCells z.cells m).toList 0 w (by simpa using hc) (by simpa using hf) h1
    simp only [Nat.add_zero] at hst
    by_cases h0 : m * i.size = 0
    · have he : Builtin.zeroCells z.cells m = #[] := Array.eq_empty_of_size_eq_zero (by rw [size_zeroCells, hzs, h0])
      rw [he] at hst ⊢
      simp at hst
      rcases Nat.mul_eq_zero.1 h0 with h2 | h2
      · subst h2
        have hroom' : n ≤ c := by omega
        simp [Builtin.append_, run_underlying ht, run_underlying htx, sizeOf, typeInfo, hi, asInt, asIntOf, w0, hroom', Addr.add_lit, storeCells, World.setCells]
      · simp [Builtin.append_, run_underlying ht, run_underlying htx, sizeOf, typeInfo, hi, asInt, asIntOf, wm, n1, n2, hroom, Addr.add_lit, h2, storeCells, World.setCells]
    · simp [Builtin.append_, run_underlying ht, run_underlying htx, sizeOf, typeInfo, zeroValue, hi, hz, asInt, asIntOf, wm, n1, n2, hroom, Addr.add_lit, h0, hst]
  · intro h0 A n c hle
    subst h0
    cases A <;> simp [Builtin.append_, run_underlying ht, run_underlying htx, sizeOf, typeInfo, hi, asInt, asIntOf, w0, hle, storeCells]
  · intro A n c olds hold hg h63 hfit
    have hn : ¬ (n + m ≤ c) := by omega
    have h63' : ¬ (9223372036854775807 < ((n : Int) + (m : Int))) := by omega
    have h48' : ¬ (281474976710656 < Builtin.nextslicecap (n + m) c * i.bytes) := by omega
    by_cases h0 : m * i.size = 0
    · have he : Builtin.zeroCells z.cells m = #[] := Array.eq_empty_of_size_eq_zero (by rw [size_zeroCells, hzs, h0])
      rw [he]
      rcases Nat.mul_eq_zero.1 h0 with h2 | h2
      · subst h2
        simp [Builtin.append_, run_underlying ht, run_underlying htx, sizeOf, typeInfo, zeroValue, hi, hz, asInt, asIntOf, w0, show ¬ n ≤ c by omega, show ¬ (281474976710656 < Builtin.nextslicecap n c * i.bytes) by simpa using h48', show ¬ (9223372036854775807 < (n : Int)) by omega, Question.forced, hold, newRow, grownCap]
      · simp [h2] at hold
        simp [Builtin.append_, run_underlying ht, run_underlying htx, sizeOf, typeInfo, zeroValue, hi, hz, asInt, asIntOf, wm, n1, n2, hn, h63', h48', Question.forced, h2, hold, newRow, grownCap]
    · simp [Builtin.append_, run_underlying ht, run_underlying htx, sizeOf, typeInfo, zeroValue, hi, hz, asInt, asIntOf, wm, n1, n2, hn, h63', h48', Question.forced, hold, newRow, grownCap, h0]
      congr 2
      apply Array.ext'
      simp [List.append_assoc]
theorem shape_size {e : TypeId} {sh : Option Nat} {i : TypeInfo} (h : shapeOf P e = some sh) (hi : P.info? e = some i) : i.size = width sh := by
  obtain ⟨j, hj, hs⟩ := shape_info h
  rw [hi] at hj; cases hj; exact hs
set_option maxHeartbeats 1000000 in
theorem eff_sound (hw : Wf g w) (hr : RelR g w R) (hF : RelF N g w fr a.tmps) {e : Eff} (ho : EffOp P fr o e) {Y : V → List Res → Prop} (h : e.W R Y) :
    ∃ v u g' w' R', (execOp a.eval o).run P w = .ok (.value u) w' ∧ After g w R g' w' R' ∧ RelV g' w' v u ∧ Y v R' := by
  have args2 : ∀ {args : Array Operand} {s y : Operand}, args.toList = [s, y] → args.map a.eval = #[a.eval s, a.eval y] := by
    intro args s y h; apply Array.ext'; simp [h]
  have ats2 : ∀ {ats : Array TypeId} {t tx : TypeId}, ats.toList = [t, tx] → ats = #[t, tx] := by
    intro ats t tx h; apply Array.ext'; simp [h]
  cases e with
  | app sh by_ x ys =>
    obtain ⟨src, hsrc, hok, hA⟩ := h
    obtain ⟨args, ats, t, tx, e, i, s, y, hop, hts, has, ht, hsh, hi, rfl, hby, hz, hs1, hy⟩ := ho
    have hsz := shape_size hsh hi
    obtain ⟨z, hz1, hz2⟩ := Option.map_eq_some_iff.1 hz
    have hap : Nonempty (Appended P g w sh i.size tx (a.eval y) ys) := by
      have hv := ev_rel hF y
      rcases hy with ⟨e', tok, h1, h2⟩ | ⟨e', sh', tok, h1, h2, rfl⟩
      · rw [h2] at hv; exact appended_slice hsz h1 hv hok
      · rw [h2] at hv; exact appended_nil h1 hv
    obtain ⟨⟨news, aps, apr⟩⟩ := hap
    have hnl : news.length = ys.length * width sh := by rw [aps.newsLen, hsz]
    have hl := hsrc.rel (row_cells apr hok hnl fun _ _ => rfl)
    obtain ⟨v, u, g', w', R', h1, h2, h3, h4⟩ := e_app (P := P) (run := fun s => Builtin.append_ #[t, tx] o.type #[s, a.eval y]) (m := ys.length) (z := z.cells) (e := e) hw hr
      (fun b off n c hroom hc hf => by
        have := run_append_room_src w t tx o.type e i ht hi b off n c (a.eval y) ys.length news aps hroom (by rw [hsz]; exact hc) (by rw [hsz]; exact hf)
        rw [hsz] at this; exact this)
      (fun h0 A n c hle => run_append_nothing w t tx o.type e i ht hi A n c hle (a.eval y) (by
        have hn : news = [] := List.eq_nil_of_length_eq_zero (by rw [hnl, h0]; simp)
        have := aps
        rw [hn, h0] at this; exact this))
      (fun A n c olds hold hg hle => run_append_grow_src w t tx o.type e i z ht hi hz1 A n c olds (by rw [hsz]; exact hold) (a.eval y) ys.length news aps hg (by
        have := Nat.le_mul_of_pos_right (n + ys.length) hby
        omega) (growslice_fits (by omega) hle))
      (by rw [hz2, hsz]) hl (by rw [hsrc.length, rowC_length hok]) aps.one (hs1 ▸ ev_rel hF s) hA
    refine ⟨v, u, g', w', R', ?_, h2, h3, h4⟩
    simp [execOp, hop, resolve, invoke, builtin, args2 has, ats2 hts, h1]
  | appL sh by_ x b o' n =>
    obtain ⟨j, cs, src, hR, hfit, rfl, hone, hA⟩ := h
    obtain ⟨args, ats, t, tx, e, e', i, s, y, cap, hop, hts, has, ht, hsh, hi, rfl, hby, hz, hs1, htx, hy⟩ := ho
    have hsz := shape_size hsh hi
    obtain ⟨z, hz1, hz2⟩ := Option.map_eq_some_iff.1 hz
    have hv := ev_rel hF y
    rw [hy] at hv
    simp only [RelV] at hv
    obtain ⟨A', hye, hnc, hA'⟩ := hv
    obtain ⟨news, hl, hln, hcells⟩ := part_src (P := P) hr (A := A') (cap := cap) (n := n) hR hfit (by
      rcases hA' with h0 | h0
      · left; have : n = 0 := by omega
        rw [this]; simp
      · exact .inr h0)
    have hsrc : Src P i.size tx (a.eval y) n news w := by
      refine ⟨.inl ⟨e', htx⟩, fun w' => by rw [hye]; rfl, ?_, ?_, by rw [hln, hsz], one_of_rel hl hone⟩
      · rw [hye, hsz]; exact hcells w rfl _ rfl
      · rw [hye, hsz]; exact hcells w.drew rfl _ rfl
    obtain ⟨v, u, g', w', R', h1, h2, h3, h4⟩ := e_app (P := P) (run := fun s => Builtin.append_ #[t, tx] o.type #[s, a.eval y]) (m := n) (z := z.cells) (e := e) hw hr
      (fun b off n' c hroom hc hf => by
        have := run_append_room_src w t tx o.type e i ht hi b off n' c (a.eval y) n news hsrc hroom (by rw [hsz]; exact hc) (by rw [hsz]; exact hf)
        rw [hsz] at this; exact this)
      (fun h0 A n' c hle => run_append_nothing w t tx o.type e i ht hi A n' c hle (a.eval y) (by
        have hn : news = [] := List.eq_nil_of_length_eq_zero (by rw [hln, h0]; simp)
        have := hsrc
        rw [hn, h0] at this; exact this))
      (fun A n' c olds hold hg hle => run_append_grow_src w t tx o.type e i z ht hi hz1 A n' c olds (by rw [hsz]; exact hold) (a.eval y) n news hsrc hg (by
        have := Nat.le_mul_of_pos_right (n' + n) hby
        omega) (growslice_fits (by omega) hle))
      (by rw [hz2, hsz]) hl (by simp; omega) (one_of_rel hl hone) (hs1 ▸ ev_rel hF s) hA
    refine ⟨v, u, g', w', R', ?_, h2, h3, h4⟩
    simp [execOp, hop, resolve, invoke, builtin, args2 has, ats2 hts, h1]
  | appZ sh by_ x zs m =>
    obtain ⟨h0, hm, hone, hA⟩ := h
    obtain ⟨args, ats, t, tx, e, k, k', i, z, s, y, hop, hts, has, ht, hsh, hi, rfl, hby, hz, hzi, hzs, hzl, hs1, htx, hy⟩ := ho
    have hsz := shape_size hsh hi
    have hv := ev_rel hF y
    rw [hy] at hv
    simp only [RelV] at hv
    obtain ⟨m, rfl⟩ : ∃ k : Nat, m = k := ⟨m.toNat, by omega⟩
    simp only [Int.toNat_natCast] at hA
    have hzr : RelL g w zs z.cells.toList := relL_cells (ofC_rel g w z) hzs
    have hl := rel_zeros hzr m
    have hone' := one_of_rel hl (flat_mem (n := m) hone)
    have hsl : (List.replicate m zs).flatten.length = m * width sh := flat_length hzl
    have hmb : m * i.bytes ≤ 140737488355328 := by
      have : ((m * i.bytes : Nat) : Int) ≤ 140737488355328 := by rw [Int.natCast_mul]; exact hm
      omega
    have hm' : m ≤ 140737488355328 := Nat.le_trans (Nat.le_mul_of_pos_right m hby) hmb
    · obtain ⟨r1, r2, r3⟩ := run_appZ (P := P) (w := w) (ty := o.type) (k' := k') ht hi hz hzi htx hm' hmb
      obtain ⟨v, u, g', w', R', h1, h2, h3, h4⟩ := e_app (P := P) (run := fun s => Builtin.append_ #[t, tx] o.type #[s, a.eval y]) (m := m) (z := z.cells) (e := e) hw hr
        (fun b off n c hroom hc hf => by
          have := r1 b off n c hroom (by rw [hsz]; exact hc) (by rw [hsz]; exact hf) hone'
          rw [hv, ← hsz]; exact this)
        (fun h0 A n c hle => by rw [hv]; exact r2 h0 A n c hle)
        (fun A n c olds hold hg hle => by
          rw [hv]
          refine r3 A n c olds (by rw [hsz]; exact hold) hg ?_ (growslice_fits (by omega) hle)
          have := Nat.le_mul_of_pos_right (n + m) hby
          omega)
        (by rw [hzi, hsz]) hl hsl hone' (hs1 ▸ ev_rel hF s) hA
      refine ⟨v, u, g', w', R', ?_, h2, h3, h4⟩
      simp [execOp, hop, resolve, invoke, builtin, args2 has, ats2 hts, h1]
  | copy sh b o' n ys =>
    obtain ⟨i, cs, src, hsrc, hok, hR, hfit, hY⟩ := h
    obtain ⟨args, ats, t, tx, e, e', s, y, cap, hop, hts, has, ht, hsh, htx, hs1, hy⟩ := ho
    obtain ⟨ii, hi, hsz⟩ := shape_info hsh
    have hv := ev_rel hF s
    rw [hs1] at hv
    simp only [RelV] at hv
    obtain ⟨A, hse, hnc, hA⟩ := hv
    have hy' : ∃ (A2 : Option Addr) (c2 : Nat) (news : List Value), a.eval y = .slice A2 ys.length c2 ∧ (Builtin.firstCells ii.size (min ys.length n) (.slice A2 ys.length c2)).run P w = .ok news.toArray w ∧ RelL g w (rowC sh (ys.take n)) news := by
      have hv := ev_rel hF y
      have key : ∃ sh2 tok, RelV g w (.sl sh2 ys tok) (a.eval y) ∧ (ys = [] ∨ sh2 = sh) := by
        rcases hy with ⟨tok, h1⟩ | ⟨sh', tok, h1, rfl⟩
        · exact ⟨sh, tok, h1 ▸ hv, .inr rfl⟩
        · exact ⟨sh', tok, h1 ▸ hv, .inl rfl⟩
      obtain ⟨sh2, tok, hv, hk⟩ := key
      simp only [RelV] at hv
      obtain ⟨A2, n2, c2, he, hn2, hc2, _, hrow⟩ := hv
      subst hn2
      by_cases h0 : ys = []
      · subst h0
        refine ⟨A2, c2, [], he, ?_, by cases sh <;> simp [rowC, RelL]⟩
        cases A2 <;> simp [Builtin.firstCells, loadCells, loadCellsFrom]
      · have hk' := hk.resolve_left h0
        subst hk'
        obtain ⟨b2, q2, rfl, hle2, hrow⟩ := hrow.resolve_left h0
        obtain ⟨all, hal, hac⟩ := relXs_cells hrow
        have hall := row_cells hrow hok hal hac
        have htk : rowC sh2 (ys.take n) = (rowC sh2 ys).take (min ys.length n * width sh2) := by
          have h1 : rowC sh2 ys = rowC sh2 (ys.take n) ++ rowC sh2 (ys.drop n) := by
            cases sh2
            · simp [rowC]
            · simp only [rowC, ← List.flatMap_append, List.take_append_drop]
          have h2 : (rowC sh2 (ys.take n)).length = min ys.length n * width sh2 := by
            rw [rowC_length (fun y hy => hok y (List.mem_of_mem_take hy)), List.length_take, Nat.min_comm]
          rw [h1, ← h2, List.take_left]
        refine ⟨_, c2, all.take (min ys.length n * width sh2), he, ?_, by rw [htk]; exact relL_take hall _⟩
        have hmin : min ys.length n * width sh2 ≤ ys.length * width sh2 := Nat.mul_le_mul_right _ (Nat.min_le_left _ _)
        have := run_firstCells_some (P := P) w (width sh2) (min ys.length n) ⟨b2, q2, none⟩ ys.length c2 (all.take (min ys.length n * width sh2)) (by rw [List.length_take, hal]; omega) (fun j v hj => by
          rw [Addr.add_lit]
          rw [List.getElem?_take] at hj
          split at hj
          · have := hac j (by omega)
            simp only [cell] at this
            rw [this]; exact hj
          · cases hj)
        rw [hsz]; exact this
    obtain ⟨A2, c2, news, hye, hcells, hnews⟩ := hy'
    have hl := hsrc.rel hnews
    have hone : ∀ u ∈ news, u.oneCell' = true := one_of_rel hnews (by
      intro v hv
      cases sh with
      | none => exact hok v (List.mem_of_mem_take hv)
      | some k =>
        simp only [rowC, List.mem_flatMap] at hv
        obtain ⟨y, hy1, hy2⟩ := hv
        obtain ⟨ds, rfl, _, hds⟩ := hok y (List.mem_of_mem_take hy1)
        exact hds v hy2)
    have hsl : src.length = min n ys.length * width sh := by
      rw [hsrc.length, rowC_length (fun y hy => hok y (List.mem_of_mem_take hy)), List.length_take]
    have hmn : min n ys.length * width sh ≤ n * width sh := Nat.mul_le_mul_right _ (Nat.min_le_left _ _)
    obtain ⟨p1, p2, p3⟩ := e_put hw hr (o := o') hR hl hone (by omega)
    have hst := run_storeCells_cells (P := P) b o' news 0 w (by simpa using p2) (by simpa using p3) hone
    simp only [Nat.add_zero] at hst
    have hfin : ∀ w2, (A = none ∧ w2 = w) ∨ (∃ ad, A = some ad ∧ (storeCells ad news).run P w = .ok () w2) → (execOp a.eval o).run P w = .ok (.value (.int .i64 (min ys.length n : Nat))) w2 := by
      intro w2 hw2
      have := run_copy (P := P) (sT := tx) (ty := o.type) (cap := cap) (m := ys.length) (n := n) (src := a.eval y) (w := w) ht hi (by rw [hye]; rfl) (by rw [hye]; exact hcells) hw2
      simp [execOp, hop, resolve, invoke, builtin, args2 has, ats2 hts, hse, this]
    by_cases hnil : news = []
    · subst hnil
      have hs0 : src = [] := by simpa [RelL] using (relL_length hl).symm
      subst hs0
      rw [splice_nil, set_self hR] at hY
      refine ⟨_, _, g, w, _, hfin w ?_, After.refl hw hr, by simp only [RelV], hY⟩
      cases A with
      | none => exact .inl ⟨rfl, rfl⟩
      | some ad => exact .inr ⟨ad, rfl, rfl⟩
    · have hcap : cap ≠ 0 := by
        rintro rfl
        have h1 : src = [] := List.eq_nil_of_length_eq_zero (by rw [hsl]; have : n = 0 := by omega
                                                                subst this; simp)
        have := relL_length hl
        rw [h1] at this
        exact hnil (List.eq_nil_of_length_eq_zero this)
      have hA' : A = some ⟨b, o', none⟩ := hA.resolve_left hcap
      exact ⟨_, _, g, _, _, hfin _ (.inr ⟨_, hA', hst⟩), p1, by simp only [RelV], hY⟩
  | copyL sh b o' n b' o2 n' =>
    obtain ⟨i, j, cs, cs', src, hR, hR', hfit, hfit', hsrc, hone, hY⟩ := h
    obtain ⟨args, ats, t, tx, e, e', s, y, cap, cap', hop, hts, has, ht, hsh, htx, hs1, hy⟩ := ho
    obtain ⟨ii, hi, hsz⟩ := shape_info hsh
    have hv := ev_rel hF s
    rw [hs1] at hv
    simp only [RelV] at hv
    obtain ⟨A, hse, hnc, hA⟩ := hv
    have hv := ev_rel hF y
    rw [hy] at hv
    simp only [RelV] at hv
    obtain ⟨A2, hye, hnc2, hA2⟩ := hv
    have hm1 : min n' n * width sh ≤ n' * width sh := Nat.mul_le_mul_right _ (Nat.min_le_left _ _)
    have hm2 : min n' n * width sh ≤ n * width sh := Nat.mul_le_mul_right _ (Nat.min_le_right _ _)
    obtain ⟨news, hl, hln, hcells⟩ := part_src (P := P) hr (A := A2) (cap := cap') (o' := o2) (n := min n' n) (k := min n' n * width sh) hR' (by omega) (by
      rcases hA2 with h0 | h0
      · left; have : min n' n = 0 := by omega
        rw [this]; simp
      · exact .inr h0)
    rw [← hsrc] at hl
    have hcells' : (Builtin.firstCells ii.size (min n' n) (.slice A2 n' cap')).run P w = .ok news.toArray w := by
      have := hcells w rfl ii.size (by rw [hsz])
      rw [← this]; cases A2 <;> rfl
    have hone' := one_of_rel hl hone
    have hsl : src.length = min n' n * width sh := by rw [hsrc]; simp; omega
    obtain ⟨p1, p2, p3⟩ := e_put hw hr (o := o') hR hl hone' (by omega)
    have hst := run_storeCells_cells (P := P) b o' news 0 w (by simpa using p2) (by simpa using p3) hone'
    simp only [Nat.add_zero] at hst
    have hfin : ∀ w2, (A = none ∧ w2 = w) ∨ (∃ ad, A = some ad ∧ (storeCells ad news).run P w = .ok () w2) → (execOp a.eval o).run P w = .ok (.value (.int .i64 (min n' n : Nat))) w2 := by
      intro w2 hw2
      have := run_copy (P := P) (sT := tx) (ty := o.type) (cap := cap) (m := n') (n := n) (src := a.eval y) (w := w) ht hi (by rw [hye]; rfl) (by rw [hye]; exact hcells') hw2
      simp [execOp, hop, resolve, invoke, builtin, args2 has, ats2 hts, hse, this]
    by_cases hnil : news = []
    · subst hnil
      have hs0 : src = [] := List.eq_nil_of_length_eq_zero (by simpa using (relL_length hl).symm)
      rw [hs0, splice_nil, set_self hR] at hY
      refine ⟨_, _, g, w, _, hfin w ?_, After.refl hw hr, by simp only [RelV], hY⟩
      cases A with
      | none => exact .inl ⟨rfl, rfl⟩
      | some ad => exact .inr ⟨ad, rfl, rfl⟩
    · have hcap : cap ≠ 0 := by
        rintro rfl
        have h1 : min n' n = 0 := by omega
        rw [h1] at hln
        exact hnil (List.eq_nil_of_length_eq_zero (by simpa using hln))
      have hA' : A = some ⟨b, o', none⟩ := hA.resolve_left hcap
      exact ⟨_, _, g, _, _, hfin _ (.inr ⟨_, hA', hst⟩), p1, by simp only [RelV], hY⟩
  | clear sh b o' n zs =>
    obtain ⟨i, cs, hR, hfit, hone, hY⟩ := h
    obtain ⟨args, ats, t, e, ii, z, s, cap, hop, hts, has, ht, hsh, hi, hz, hzs, hzl, hs1⟩ := ho
    have hv := ev_rel hF s
    rw [hs1] at hv
    simp only [RelV] at hv
    obtain ⟨A, hse, hnc, hA⟩ := hv
    have hzr : RelL g w zs z.cells.toList := relL_cells (ofC_rel g w z) hzs
    have hl := rel_zeros hzr n
    have hone' := one_of_rel hl (flat_mem (n := n) hone)
    have hsl : (List.replicate n zs).flatten.length = n * width sh := flat_length hzl
    obtain ⟨p1, p2, p3⟩ := e_put hw hr (o := o') hR hl hone' (by omega)
    have hst := run_storeCells_cells (P := P) b o' _ 0 w (by simpa using p2) (by simpa using p3) hone'
    simp only [Nat.add_zero] at hst
    have ha1 : args.map a.eval = #[a.eval s] := by apply Array.ext'; simp [has]
    have hat1 : ats = #[t] := by apply Array.ext'; simp [hts]
    have hfin : ∀ w2, (A = none ∧ w2 = w) ∨ (n = 0 ∧ w2 = w) ∨ (∃ ad, A = some ad ∧ n ≠ 0 ∧ (storeCells ad (Builtin.zeroCells z.cells n).toList).run P w = .ok () w2) → (execOp a.eval o).run P w = .ok (.value (.tuple #[])) w2 := by
      intro w2 hw2
      have := run_clear (P := P) (ty := o.type) (cap := cap) ht hi hz hw2
      simp [execOp, hop, resolve, invoke, builtin, ha1, hat1, hse, this]
    have htup : RelV g w (.tup []) (.tuple #[]) := by simp only [RelV]; exact ⟨#[], rfl, by simp [RelL]⟩
    by_cases h0 : n = 0
    · subst h0
      simp only [List.replicate_zero, List.flatten_nil] at hY
      rw [splice_nil, set_self hR] at hY
      exact ⟨_, _, g, w, _, hfin w (.inr (.inl ⟨rfl, rfl⟩)), After.refl hw hr, htup, hY⟩
    · have hA' : A = some ⟨b, o', none⟩ := by rcases hA with h | h; omega; exact h
      exact ⟨_, _, g, _, _, hfin _ (.inr (.inr ⟨_, hA', h0, hst⟩)), p1, RelV.mono p1.ext.toPre _ _ htup, hY⟩
  | make sh by_ zs n c =>
    obtain ⟨h0, hnc, hb, hY⟩ := h
    obtain ⟨t, ln, cp, e, i, z, k, k', hop, ht, hsh, hi, rfl, hby, hz, hzi, hzs, hzl, hln, hcp⟩ := ho
    have hsz := shape_size hsh hi
    have hv1 := ev_rel hF ln
    have hv2 := ev_rel hF cp
    rw [hln] at hv1; rw [hcp] at hv2
    simp only [RelV] at hv1 hv2
    obtain ⟨n, rfl⟩ : ∃ m : Nat, n = m := ⟨n.toNat, by omega⟩
    obtain ⟨c, rfl⟩ : ∃ m : Nat, c = m := ⟨c.toNat, by omega⟩
    have hzr : RelL g w zs z.cells.toList := relL_cells (ofC_rel g w z) hzs
    have hl := rel_zeros hzr c
    have hrun := run_make (P := P) w t e i z ht hi hz k k' n c h0 hnc (by rw [Int.mul_comm]; omega) (by
      have : (c : Int) ≤ (c : Int) * (i.bytes : Int) := by
        have := Nat.le_mul_of_pos_right c hby
        rw [← Int.natCast_mul]; omega
      omega)
    simp only [Int.toNat_natCast] at hrun hY
    rw [made_zero hzi] at hrun
    have hA := e_fresh (w1 := w) (e := e) hw rfl rfl rfl rfl (Nat.le_refl _) hl
    refine ⟨_, .slice (some ⟨w.heap.size, 0, none⟩) n c, g, _, _, ?_, after_more hr hA, ?_, hY w.heap.size⟩
    · simp only [execOp, hop, hv1, hv2]
      exact run_v hrun
    · simp only [RelV]
      exact ⟨_, rfl, by omega, .inr rfl⟩
  | lit sh xs =>
    obtain ⟨hok, hY⟩ := h
    obtain ⟨t, n, parts, e, hop, ht, hsh, rfl, hk, hf, hn', hz, hn65⟩ := ho
    obtain ⟨cells, hr1, hsz, hlen, hx⟩ := run_buildSlice (P := P) (w := w) (parts := parts.map fun (i, x) => (i, a.eval x)) ht hsh hz (by simpa [List.map_map, Function.comp_def] using hk) hf (by simpa [List.map_map, Function.comp_def] using parts_rel hF parts.toList) hn'
    have hl := row_cells (news := cells.toList) hx hok (by rw [Array.length_toList, hsz, hlen]) (fun i _ => by simp)
    have hA := e_fresh (w1 := w) (e := e) hw rfl rfl rfl rfl (Nat.le_refl _) hl
    refine ⟨_, .slice (some ⟨w.heap.size, 0, none⟩) n n, g, _, _, ?_, after_more hr hA, ?_, hY w.heap.size⟩
    · simp only [execOp, hop]
      exact run_v hr1
    · simp only [RelV]
      rw [hlen]
      exact ⟨_, rfl, Nat.le_refl _, .inr rfl⟩
  | bytes s =>
    obtain ⟨src, dst, e, i, x, hop, hs, hd, he, hi, hb1, hs1, hx⟩ := ho
    have hv := ev_rel hF x
    rw [hx] at hv
    simp only [RelV] at hv
    have hrun := Lib.run_convert_string_bytes (P := P) w src dst e s hs hd he
    have hge := grownCap_ge w s.size 0 e
    have hbs : (Lib.bytesCells w e s).size = grownCap w s.size 0 e := by
      simp only [Lib.bytesCells, Array.size_append, Array.size_map, Array.size_replicate]
      have : s.data.size = s.size := rfl
      omega
    have hrel : RelL g w ((s.data.toList.map fun b => V.c (.int .u8 b.toNat)) ++ List.replicate (grownCap w s.size 0 e - s.size) .undef) (Lib.bytesCells w e s).toList := by
      simp only [Lib.bytesCells, Array.toList_append, Array.toList_map, Array.toList_replicate]
      refine relL_append (relL_map _ _ _ fun b _ => by simp only [RelV]) ?_
      have := relL_undef (g := g) (w := w) (xs := List.replicate (grownCap w s.size 0 e - s.size) (Value.int .u8 0))
      simpa using this
    have hcell : ∀ bb oo, bb < w.heap.size → cell (Lib.bytesWorld w e s) bb oo = cell w bb oo := fun bb oo hbb => Lib.bytesWorld_old w e s ⟨bb, oo, none⟩ hbb
    have hpre : Pre g w g (Lib.bytesWorld w e s) := ⟨fun _ => Nat.le_refl _, fun bb oo ho => hcell bb oo (by
      rcases Nat.lt_or_ge bb w.heap.size with h1 | h1
      · exact h1
      · rw [hw.cm bb h1] at ho; omega), Nat.le_refl _, fun _ _ => rfl, fun bb oo h0 => by rw [hcell bb oo (hw.lt h0)]⟩
    have hA : After g w [] g (Lib.bytesWorld w e s) [.obj w.heap.size ((s.data.toList.map fun b => V.c (.int .u8 b.toNat)) ++ List.replicate (grownCap w s.size 0 e - s.size) .undef)] := by
      refine ⟨{ hpre with os := rfl, tape := rfl, output := rfl, drawn := fun _ => Nat.le_of_lt (Nat.lt_succ_of_le (Nat.le_refl _)), size := by rw [Lib.bytesWorld_size]; omega, frame := fun bb hbb _ => Lib.bytesWorld_at_old w e s bb hbb, cmeq := fun _ _ _ => rfl, wf := ⟨fun bb hbb => hw.cm bb (by rw [Lib.bytesWorld_size] at hbb; omega), fun bb oo ho => ?_, hpre.st hw⟩ }, ⟨?_, nodup_obj⟩, fun c hc => .inr (by rw [mem_obj hc]; omega)⟩
      · have h2 : bb < w.heap.size := by
          rcases Nat.lt_or_ge bb w.heap.size with h1 | h1
          · exact h1
          · rw [hw.cm bb h1] at ho; omega
        rw [hcell bb oo h2]; exact hw.ex bb oo ho
      · intro r hr'
        simp only [List.mem_singleton] at hr'; subst hr'
        exact .inr ⟨_, e, _, Lib.bytesWorld_at_new w e s, fun i hi h => by simp only at h; omega, RelL.mono hpre _ _ hrel, hw.cm _ (Nat.le_refl _)⟩
    refine ⟨_, .slice (some ⟨w.heap.size, 0, none⟩) s.size (grownCap w s.size 0 e), g, _, _, ?_, after_more hr hA, ?_, h w.heap.size (grownCap w s.size 0 e) _ (by simp; omega)⟩
    · simp only [execOp, hop, hv]
      exact run_v hrun
    · simp only [RelV]
      exact ⟨_, rfl, hge, .inr rfl⟩
  | str b o' n =>
    obtain ⟨j, cs, l, hR, hle, hln, hY⟩ := h
    obtain ⟨src, dst, e, x, cap, hop, hs, hd, he, hx⟩ := ho
    have hv := ev_rel hF x
    rw [hx] at hv
    simp only [RelV] at hv
    obtain ⟨A, hxe, hnc, hA⟩ := hv
    refine ⟨_, .string ⟨l.toArray⟩, g, w, _, ?_, After.refl hw hr, by simp only [RelV], hY⟩
    simp only [execOp, hop, hxe]
    refine run_v ?_
    by_cases h0 : n = 0
    · subst h0
      have : l = [] := List.eq_nil_of_length_eq_zero hln
      subst this
      rw [run_convert_bytes_string w src dst e _ 0 cap hs he hd]
      cases A <;> simp [Conv.bytesToString, loadCells, loadCellsFrom]
      all_goals rfl
    · have hA' : A = some ⟨b, o', none⟩ := hA.resolve_left (by omega)
      subst hA'
      have hlen := hle.length
      simp at hlen
      have hn : cs ≠ [] := by
        rintro rfl
        simp at hlen
        rw [hlen] at hln; simp at hln; omega
      obtain ⟨vals, e', fz, hh, hz', hlv, hcm⟩ := obj_cons hn (hr.all _ (List.mem_of_getElem? hR))
      have hlv2 := relL_length hlv
      simp at hlv2
      have hpart := hle.rel (relL_take (relL_drop hlv o') n)
      have := run_convert_bytes_arg (P := P) w src e hs he b o' n cap (l.map fun b => ((b.toNat : Nat) : Int)) (by simp [hln]) (fun i hi => by
        have hi' : i < l.length := by omega
        obtain ⟨y, hy, hrel⟩ := relL_get hpart (i := i) (v := V.c (.int .u8 (l[i]).toNat)) (by simp [hi'])
        simp only [RelV] at hrel
        subst hrel
        rw [List.getElem?_take, if_pos (by omega), List.getElem?_drop] at hy
        simp only [World.cell?, hh]
        rw [List.getD_eq_getElem?_getD, List.getElem?_map, List.getElem?_eq_getElem hi']
        simpa using hy) dst hd
      rw [this]
      congr 2
      simp [strOfNums, List.map_map, Function.comp_def]
  | isNil eq n =>
    obtain ⟨t, x, ty, e, sh, b, o', cap, hop, ht, hx⟩ := ho
    have hv := ev_rel hF x
    rw [hx] at hv
    simp only [RelV] at hv
    obtain ⟨A, hxe, hnc, hA⟩ := hv
    refine ⟨_, .bool (bif eq then A.isNone else !A.isNone), g, w, _, ?_, After.refl hw hr, by simp only [RelV], h A.isNone fun hb => ?_⟩
    · cases eq
      · have := Go.run_neq_slice_nil_any (P := P) w t e A n cap 0 0 ht
        simp only [execOp, hop, hxe, Bool.false_eq_true, if_false, cond_false]
        refine run_v ?_
        have hg : (eqGuard .neq t x (.const (.slice none 0 0)) (.slice A n cap) (.slice none 0 0)).run P w = .ok () w := rfl
        simp only [Sem.run_bind]
        show Result.andThen (Sem.run P (eqGuard .neq t x (.const (.slice none 0 0)) (.slice A n cap) (.slice none 0 0)) w) _ = _
        rw [hg]; exact this
      · have : (binOp .eql t (.slice A n cap) (.slice none 0 0)).run P w = .ok (.bool A.isNone) w := by
          simp only [binOp]
          simp [Op.equal, Op.maxDepth, Lib.run_equalIn_slice_nil w 9999 t e A n cap 0 0 ht]
        simp only [execOp, hop, hxe, if_true, cond_true]
        refine run_v ?_
        have hg : (eqGuard .eql t x (.const (.slice none 0 0)) (.slice A n cap) (.slice none 0 0)).run P w = .ok () w := rfl
        simp only [Sem.run_bind]
        show Result.andThen (Sem.run P (eqGuard .eql t x (.const (.slice none 0 0)) (.slice A n cap) (.slice none 0 0)) w) _ = _
        rw [hg]; exact this
    · rcases hA with h | h
      · omega
      · rw [h] at hb; cases hb
end
end Go.Sv
namespace Go.Sv
open Go
section
variable {P : Program} {N n0 : Nat} {Q : Exit → Fr → List Res → Prop} {g : Gh} {w : World} {R : List Res} {fr : Fr} {a : Act} {live : List Nat} {ords : List (Nat × List Nat)} {o : Oper}
theorem fresh_size {g : Gh} {w : World} {R : List Res} (hr : RelR g w R) : Fresh R w.heap.size := by
  intro i c cs hR hne e
  have := hr.all _ (List.mem_of_getElem? hR)
  simp only [RelRes] at this
  rcases this with h | ⟨vals, e', fz, h, _⟩
  · exact hne h
  · rw [e, Array.getElem?_eq_none (Nat.le_refl _)] at h; cases h
theorem VleL.app {ys zs : List V} (h : VleL ys zs) : ∀ xs : List V, VleL (xs ++ ys) (xs ++ zs)
  | [] => h
  | x :: xs => .cons (Vle.refl x) (VleL.app h xs)
theorem run_nilcmp {t e : TypeId} {x : Operand} {A : Option Addr} {n c : Nat} (eq : Bool) (ht : P.underlying t = some (.slice e)) :
    (do eqGuard (if eq then .eql else .neq) t x (.const (.slice none 0 0)) (.slice A n c) (.slice none 0 0); binOp (if eq then .eql else .neq) t (.slice A n c) (.slice none 0 0) : Sem Value).run P w = .ok (.bool (bif eq then A.isNone else !A.isNone)) w := by
  cases eq
  · have := Go.run_neq_slice_nil_any (P := P) w t e A n c 0 0 ht
    simp only [Bool.false_eq_true, if_false, Sem.run_bind, cond_false]
    have hg : (eqGuard .neq t x (.const (.slice none 0 0)) (.slice A n c) (.slice none 0 0)).run P w = .ok () w := rfl
    rw [hg]; exact this
  · have : (binOp .eql t (.slice A n c) (.slice none 0 0)).run P w = .ok (.bool A.isNone) w := by
      simp only [binOp]
      simp [Op.equal, Op.maxDepth, Lib.run_equalIn_slice_nil w 9999 t e A n c 0 0 ht]
    simp only [if_true, Sem.run_bind, cond_true]
    have hg : (eqGuard .eql t x (.const (.slice none 0 0)) (.slice A n c) (.slice none 0 0)).run P w = .ok () w := rfl
    rw [hg]; exact this
theorem room_Fw (r : Option Nat) : (Fw r).depth.isSome = true → 1 ≤ 0 := by simp [Fw, Fence.wide]
theorem upon_value {r : Option Nat} {K : Act → World → Prop} {Qp : Exit → Act → World → Prop} {x : Value} {w' : World} (hnd : ∀ c, o.op ≠ .defer c) (h : (execOp a.eval o).run P w = .ok (.value x) w') (hk : K (a.put o.dst x) w') :
    o.wpIn (Fw r) 0 P a w K Qp := by
  refine ⟨fun _ _ => trivial, ?_⟩
  rw [Oper.semAt_eq _ _ _ hnd, h]
  exact hk
theorem upon_answers {r : Option Nat} {K : Act → World → Prop} {Qp : Exit → Act → World → Prop} {s : Sem Next} {K' : Value → World → Prop} (hnd : ∀ c, o.op ≠ .defer c) (h : (execOp a.eval o).run P w = s.run P w)
    (ha : Answers P s w K') (hk : ∀ x w', K' x w' → K (a.put o.dst x) w') : o.wpIn (Fw r) 0 P a w K Qp := by
  refine ⟨fun _ _ => trivial, ?_⟩
  rw [Oper.semAt_eq _ _ _ hnd, h]
  rcases ha with ⟨x, w', h1, h2⟩ | ⟨f, args, w', h1, h2⟩ | ⟨row, args, w', h1, h2⟩
  · rw [h1]; exact hk _ _ h2
  · rw [h1]
    refine ⟨room_Fw r, ?_⟩
    have h3 : CallsIn (Fw r) 0 P f args w' fun e w'' => ∃ x, e = .returned x ∧ K' x w'' := h2
    refine h3.mono ?_
    rintro e w'' ⟨x, rfl, hx⟩
    exact hk _ _ hx
  · rw [h1]
    refine ⟨room_Fw r, ?_⟩
    have h3 : RowsIn (Fw r) 0 P row args w' K' := h2
    exact h3.mono fun x w'' hx => hk _ _ hx
theorem op_step (hs : St N n0 g w R fr a) (hd : ∀ k, o.dst = some k → k < N) {k : Fr → Tree} {p : Bool} (h : (finish p (sOp P live fr o) o.dst fr k).wp P R Q) (r : Option Nat) {K : Act → World → Prop} {Qp : Exit → Act → World → Prop}
    (hn : ∀ a' w', NextP P N n0 Q k g w R a' w' → K a' w') : o.wpIn (Fw r) 0 P a w K Qp := by
  have hnd : ∀ c, o.op ≠ .defer c := fun c hc => by
    rw [inv_defer hc] at h; exact h.elim
  cases hop : sOp P live fr o with
  | val v =>
    rw [hop] at h
    obtain ⟨x, g', w', h1, h2, h3⟩ := sOp_gives (P := P) (live := live) (o := o) (v := v) hs.wf hs.fr (by rw [hop]; rfl)
    exact upon_value hnd h1 (hn _ _ (next_put hs (after_of_ext hs.res h2) hd h3 h))
  | need q v =>
    rw [hop] at h
    obtain ⟨x, g', w', h1, h2, h3⟩ := sOp_gives (P := P) (live := live) (o := o) (v := v) hs.wf hs.fr (by rw [hop]; exact ⟨h.1, rfl⟩)
    exact upon_value hnd h1 (hn _ _ (next_put hs (after_of_ext hs.res h2) hd h3 h.2))
  | load b off sh =>
    rw [hop] at h
    have h : ∃ (i : Nat) (cs : List V) (v : V), R[i]? = some (.obj b cs) ∧ partOf sh cs off = some v ∧ (k (putO fr o.dst v)).wp P R Q := by
      cases p with
      | false => exact h
      | true => exact h.elim
    obtain ⟨i, cs, v, h1, h2, h3⟩ := h
    obtain ⟨t, x, ho, hsh, hx⟩ := inv_load hop
    obtain ⟨y, hy, hr⟩ := e_load (P := P) hs hsh (x := a.eval x) (hx ▸ ev_rel hs.fr x) h1 h2
    have hrun : (execOp a.eval o).run P w = .ok (.value y) w := by simp only [execOp, ho]; exact run_v hy
    exact upon_value hnd hrun (hn _ _ (next_put hs (After.refl hs.wf hs.res) hd hr h3))
  | store b off vs =>
    rw [hop] at h
    obtain ⟨i, cs, us, h1, h2, h3, h4, h5⟩ := h
    obtain ⟨t, x, y, sh, ho, hsh, hx, hvs⟩ := inv_store hop
    have hv := ev_rel hs.fr y
    have hcells : RelL g w vs (a.eval y).cells.toList ∧ (a.eval y).cells.size = width sh := by
      rcases hvs with ⟨rfl, rfl⟩ | ⟨ds, rfl, hy, rfl⟩
      · have := cells_of_one (oneV_one (h4 _ (List.mem_singleton.2 rfl)) hv)
        rw [this]
        exact ⟨by simp only [RelL]; exact ⟨_, [], rfl, hv, rfl⟩, rfl⟩
      · rw [hy] at hv
        simp only [RelV] at hv
        obtain ⟨l, he, hl⟩ := hv
        rw [he]
        exact ⟨by simpa [Value.cells] using hl, by have := relL_length hl; simpa [Value.cells, width] using this⟩
    obtain ⟨w', hrun, hA⟩ := e_store (P := P) hs hsh (x := a.eval x) (hx ▸ ev_rel hs.fr x) hcells.1 hcells.2 h4 h2 h1 h3
    refine ⟨fun _ _ => trivial, ?_⟩
    rw [Oper.semAt_eq _ _ _ hnd]
    have : (execOp a.eval o).run P w = .ok .skip w' := by simp [execOp, ho, hrun]
    rw [this]
    exact hn _ _ (next_put hs hA hd (relV_undef _ _ _) h5)
  | alloc cs =>
    rw [hop] at h
    rcases inv_alloc hop with ⟨t, i, z, ho, hi, hz, hcs⟩ | ⟨t, x, ho, hcs⟩
    · have hl := relL_cells (ofC_rel g w z) hcs
      have hA := after_alloc_obj hs.wf (e := t) hl
      have hA' := After.frame (A := R) (B := []) (R := []) (by simpa using hs.res) hA
      simp only [List.append_nil] at hA'
      have hrun : (execOp a.eval o).run P w = .ok (.value (.pointer (some ⟨w.heap.size, 0, none⟩))) (w.alloc (.cells z.cells t)) := by
        simp [execOp, ho, Instr.alloc, zeroValue, typeInfo, hi, hz, newVar, newRow]
      exact upon_value hnd hrun (hn _ _ (next_put hs hA' hd (by simp only [RelV]) (h w.heap.size fun _ => fresh_size hs.res)))
    · have hl := relL_cells (ev_rel hs.fr x) hcs
      have hA := after_alloc_obj hs.wf (e := t) hl
      have hA' := After.frame (A := R) (B := []) (R := []) (by simpa using hs.res) hA
      simp only [List.append_nil] at hA'
      have hrun : (execOp a.eval o).run P w = .ok (.value (.pointer (some ⟨w.heap.size, 0, none⟩))) (w.alloc (.cells (a.eval x).cells t)) := by
        simp [execOp, ho, Instr.box, newVar, newRow]
      exact upon_value hnd hrun (hn _ _ (next_put hs hA' hd (by simp only [RelV]) (h w.heap.size fun _ => fresh_size hs.res)))
  | append sh by_ x ys =>
    rw [hop] at h
    obtain ⟨zs, hzs, hok, h⟩ := h
    obtain ⟨args, ats, t, tx, e, i, s, y, ho, hts, has, ht, hsh, hi, rfl, hby, hz, hs1, hy⟩ := inv_append hop
    obtain ⟨j, hj, hsz⟩ := shape_info hsh
    rw [hi] at hj; cases hj
    have hap : Nonempty (Appended P g w sh i.size tx (a.eval y) ys) := by
      have hv := ev_rel hs.fr y
      rcases hy with ⟨e', tok, h1, h2⟩ | ⟨e', sh', tok, h1, h2, rfl⟩ | ⟨str, h1, h2, rfl, rfl⟩
      · rw [h2] at hv; exact appended_slice hsz h1 hv hok
      · rw [h2] at hv; exact appended_nil h1 hv
      · rw [h2] at hv
        simp only [RelV] at hv
        rw [hv, hsz]; exact appended_string h1 str
    obtain ⟨ap⟩ := hap
    have hlen := hzs.length
    have hxv : RelV g w x (a.eval s) := hs1 ▸ ev_rel hs.fr s
    have harr : args.map a.eval = #[a.eval s, a.eval y] := by
      apply Array.ext'; simp [has]
    have hats : ats = #[t, tx] := by apply Array.ext'; simp [hts]
    have hrun : ∀ {v : Value} {w' : World}, (Builtin.append_ #[t, tx] o.type #[a.eval s, a.eval y]).run P w = .ok v w' → (execOp a.eval o).run P w = .ok (.value v) w' := by
      intro v w' hr
      simp [execOp, ho, resolve, invoke, builtin, harr, hats, hr]
    rcases h with ⟨sh', rfl, hle, hk⟩ | ⟨n, k', xs, rfl, hR, hle, hk⟩
    · obtain ⟨v, w', g', h1, h2, h3⟩ := e_append_zero (ty := o.type) hs.wf ht hi hsz hby hz hxv ap (by rw [← hlen]; exact hle)
      have hA' := After.frame (A := R) (B := []) (R := []) (by simpa using hs.res) h2
      simp only [List.append_nil] at hA'
      exact upon_value hnd (hrun h1) (hn _ _ (next_put hs hA' hd (Vle.xs hzs _ _ _ h3) (hk _)))
    · obtain ⟨A, B, hAB, hset⟩ := split_at hR
      subst hAB
      obtain ⟨v, w', g', h1, h2, h3⟩ := e_append_tok (ty := o.type) hs.wf ht hi hsz hby hz hxv (hs.res.sub (by simp)) ap (by rw [← hlen]; exact hle)
      have hA' := After.frame hs.res h2
      rw [← hset (.tok g.nt sh)] at hA'
      have happ : Vle (.sl sh (xs ++ ys) (.t g.nt)) (.sl sh (xs ++ zs) (.t g.nt)) := by
        exact Vle.xs (VleL.app hzs xs)
      exact upon_value hnd (hrun h1) (hn _ _ (next_put hs hA' hd (happ _ _ _ h3) (hk _)))
  | made sh xs =>
    rw [hop] at h
    obtain ⟨t, n, parts, e, ho, ht, hsh, rfl, hk, hf, hn', hz, hn65⟩ := inv_made hop
    obtain ⟨cells, hr, hsz, hlen, hx⟩ := run_buildSlice (P := P) (w := w) (parts := parts.map fun (i, x) => (i, a.eval x)) ht hsh hz (by simpa [List.map_map, Function.comp_def] using hk) hf (by simpa [List.map_map, Function.comp_def] using parts_rel hs.fr parts.toList) hn'
    have hrun : (execOp a.eval o).run P w = .ok (.value (.slice (some ⟨w.heap.size, 0, none⟩) n n)) (w.alloc (.cells cells e)) := by
      simp only [execOp, ho]; exact run_v hr
    obtain ⟨g', hA, hv⟩ := e_made hs.wf (e := e) hsz hlen hx (by
      simp only [maxLen]; omega)
    have hA' := After.frame (A := R) (B := []) (R := []) (by simpa using hs.res) hA
    simp only [List.append_nil] at hA'
    exact upon_value hnd hrun (hn _ _ (next_put hs hA' hd hv (h _)))
  | call f vs =>
    rw [hop] at h
    have h : ∃ args', VleL vs args' ∧ SCall P f args' R fun v R' => (k (putO fr o.dst v)).wp P R' Q := by
      cases p with
      | false => exact h
      | true =>
        obtain ⟨args', v, h1, h2, h3⟩ := h
        exact ⟨args', h1, (h2.any R).mono fun u R' ⟨e1, e2⟩ => by subst e1; subst e2; exact h3⟩
    obtain ⟨args', hle, hc⟩ := h
    obtain ⟨x, args, ats, first, caps, ho, hx, rfl⟩ := inv_call hop
    have hv := ev_rel hs.fr x
    rw [hx] at hv
    simp only [RelV] at hv
    obtain ⟨l, m, he, hl, hm⟩ := hv
    have hargs : RelL g w args' (l.toList ++ args.toList.map a.eval ++ m.toList) := hle.rel (relL_append (relL_append hl (rel_map hs.fr args.toList)) hm)
    have := hc g w _ hs.wf hargs hs.res
    refine upon_answers hnd (s := callFunc f (l.toList ++ args.toList.map a.eval ++ m.toList).toArray) ?_ this ?_
    · have e1 : (l ++ args.map a.eval ++ m) = (l.toList ++ args.toList.map a.eval ++ m.toList).toArray := by apply Array.ext'; simp
      simp only [execOp, ho, resolve, he, Deferred.ofValue, Sem.run_bind, Sem.run_pure, Result.andThen_ok, invoke, e1]
    · rintro y w' ⟨v, g', R', hK, hA, hvy⟩
      exact hn _ _ (next_put hs hA hd hvy hK)
  | yld l vs =>
    rw [hop] at h
    have h : ∃ args', VleL vs args' ∧ YCall P l args' R fun b R' => (k (putO fr o.dst (.c (.bool b)))).wp P R' Q := by
      cases p with
      | false => exact h
      | true => exact h.elim
    obtain ⟨args', hle, hc⟩ := h
    obtain ⟨x, args, ats, ho, hx, rfl⟩ := inv_yld hop
    have hv := ev_rel hs.fr x
    rw [hx] at hv
    simp only [RelV, RelL] at hv
    obtain ⟨p, q, he, hp, hq⟩ := hv
    have hp' : p = #[] := by apply Array.ext'; simpa using hp
    have hq' : q = #[] := by apply Array.ext'; simpa using hq
    subst hp'; subst hq'
    have hargs : RelL g w args' (args.toList.map a.eval) := hle.rel (rel_map hs.fr args.toList)
    obtain ⟨f, tmps, assign, body, hy, hR⟩ := hc g w _ hs.wf hargs hs.res
    refine ⟨fun _ _ => trivial, ?_⟩
    rw [Oper.semAt_eq _ _ _ hnd]
    have e1 : (args.map a.eval) = (args.toList.map a.eval).toArray := by apply Array.ext'; simp
    have hrun : (execOp a.eval o).run P w = .ok (.round l f tmps assign body) w := by
      simp only [execOp, ho, resolve, he, Deferred.ofValue, Sem.run_bind, Sem.run_pure, Result.andThen_ok, invoke]
      simpa [e1] using hy
    rw [hrun]
    refine ⟨room_Fw r, ?_⟩
    have h3 : RoundIn (Fw r) 0 P l f tmps assign body w _ := hR
    refine h3.mono ?_
    rintro e w' ⟨b, g', R', rfl, hK, hA⟩
    exact hn _ _ (next_put hs hA hd (by simp only [RelV]) hK)
  | nilcmp eq xs =>
    rw [hop] at h
    obtain ⟨t, x, ty, e, sh, tok, ho, ht, hx⟩ := inv_nilcmp hop
    have hv := ev_rel hs.fr x
    rw [hx] at hv
    simp only [RelV] at hv
    obtain ⟨A, n, c, he, hlen, hc, _, hr⟩ := hv
    have hA : A = none → xs = [] := fun hA => by
      rcases hr with hr | ⟨b, q, hb, _⟩
      · exact hr
      · rw [hA] at hb; cases hb
    have hrun : (execOp a.eval o).run P w = .ok (.value (.bool (bif eq then A.isNone else !A.isNone))) w := by
      have := run_nilcmp (P := P) (w := w) (x := x) (A := A) (n := n) (c := c) eq ht
      simp only [execOp, ho, he]
      exact run_v this
    refine upon_value hnd hrun (hn _ _ (next_put hs (After.refl hs.wf hs.res) hd ?_ (h A.isNone (fun hb => hA (Option.isNone_iff_eq_none.1 hb)))))
    simp only [RelV]
  | elem sh xs n =>
    rw [hop] at h
    obtain ⟨i, u', u, hni, hi, hle, h⟩ := h
    have hlt := (List.getElem?_eq_some_iff.1 hi).1
    obtain ⟨x, g', w', h1, h2, h3⟩ := sOp_gives (P := P) (live := live) (o := o) (v := .pt sh (xs.getD n.toNat .undef) 0) hs.wf hs.fr (by rw [hop]; exact ⟨⟨by omega, by omega⟩, rfl⟩)
    have e : xs.getD n.toNat .undef = u' := by subst hni; simp [hi]
    rw [e] at h3
    exact upon_value hnd h1 (hn _ _ (next_put hs (after_of_ext hs.res h2) hd (Vle.pt hle _ _ _ h3) h))
  | eff e =>
    rw [hop] at h
    have h : e.W R fun v R' => (k (putO fr o.dst v)).wp P R' Q := by
      cases p with
      | false => exact h
      | true => exact h.elim
    obtain ⟨v, u, g', w', R', h1, h2, h3, h4⟩ := eff_sound hs.wf hs.res hs.fr (inv_eff hop) h
    exact upon_value hnd h1 (hn _ _ (next_put hs h2 hd h3 h4))
  | bad => rw [hop] at h; exact h.elim
end
end Go.Sv
