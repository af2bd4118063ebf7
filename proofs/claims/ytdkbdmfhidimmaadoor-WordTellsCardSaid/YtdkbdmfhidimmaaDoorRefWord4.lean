/- The reference's words: a text cut into words. -/
import Derived.Test.YtdkbdmfhidimmaaDoorRefWord3
namespace Go.Sv
open Go Go.Proofs

def rcutV : Except Nat (List Wd) → V
  | .ok l => .tup [wslV l, i64V 0]
  | .error e => .tup [wslV [], i64V e]
/-- An error is never 0. -/
theorem nextR_err {l : List UInt8} {e : Nat} (h : nextR l = .error e) : e = 12 ∨ e = 21 := by
  have hte : ∀ (n : Nat) (l out : List UInt8) (e : Nat), l.length ≤ n → textR out l = .error e → e = 12 ∨ e = 21 := by
    intro n
    induction n with
    | zero =>
      intro l out e hl h
      cases l with
      | nil => cases h; exact .inr rfl
      | cons c l => simp at hl
    | succ n ih =>
      intro l out e hl h
      cases l with
      | nil => cases h; exact .inr rfl
      | cons c l =>
        have hl : l.length ≤ n := by simpa using hl
        rw [textR.eq_def] at h
        simp only at h
        split at h
        · split at h
          · cases h; exact .inl rfl
          · cases h
        · split at h
          · cases l with
            | nil => cases h; exact .inr rfl
            | cons d l =>
              simp only at h
              split at h
              · cases e2 : textR (out ++ [d]) l with
                | error x =>
                  rw [e2] at h; cases h
                  exact ih l _ _ (by simp at hl; omega) e2
                | ok p => rw [e2] at h; cases h
              · cases h; exact .inr rfl
          · split at h
            · cases e2 : textR (out ++ [c]) l with
              | error x =>
                rw [e2] at h; cases h
                exact ih l _ _ hl e2
              | ok p => rw [e2] at h; cases h
            · cases h; exact .inr rfl
  have hlet : ∀ (k : Nat) (p : UInt8 → Bool), letR k p l = .error e → e = 12 ∨ e = 21 := by
    intro k p h
    unfold letR at h
    split at h
    · cases h; exact .inl rfl
    · cases h
  unfold nextR at h
  split at h
  · exact hlet _ _ h
  · split at h
    · exact hlet _ _ h
    · split at h
      · unfold numR numE at h
        split at h
        · cases h
        · cases h; exact .inl rfl
      · split at h
        · unfold textN textE at h
          split at h
          · cases h
          · rename_i x e2
            cases h
            exact hte _ _ _ _ (Nat.le_refl _) e2
        · unfold signR at h
          split at h
          · cases h
          · split at h
            · cases h
            · split at h
              · cases h; exact .inr rfl
              · cases h

theorem w_ret2E {P : Program} {R : List Res} {fn : Func} {fr : Fr} {t u : Tmp} {a b v : V} (h : fn.results.toList = [.tmp t, .tmp u]) (ha : Vle (fr t) a) (hb : Vle (fr u) b) (he : .tup [a, b] = v) : (Tree.leaf .ret fr).wp P R (Ends P fn fun u _ => u = v) := by
  subst he; exact w_ret2 h ha hb (List.nil_sublist _) rfl

set_option maxRecDepth 100000 in
set_option maxHeartbeats 1000000 in
theorem rcut_call (s : List UInt8) (hs : s.length < 2 ^ 40) : PCall Tryd.prog 29 [str s] (rcutV (cutW s)) := by
  obtain ⟨res, hres⟩ : ∃ res, res = cutW s := ⟨_, rfl⟩
  rw [← hres]
  refine scall_of (live := []) (ords := [(6, []), (9, []), (11, []), (12, []), (13, [])]) Tryd.func29 rfl (by kernel_rfl) (by kernel_rfl) (Nat.le_of_ble_eq_true rfl) ?_
  (conv => arg 2; whnf); refine wp_loop (fun m fr R => ∃ (a f : Nat) (t : Option Nat) (ws : List Wd), m = s.length - a ∧ a ≤ s.length ∧ s.length - a ≤ f ∧ res = collect ws (itemsF f a (s.drop a)) ∧ ws.length ≤ 500 ∧ (t = none → ws = []) ∧ R = tokR (some 4) t ∧
      fr = frL [(0, str s), (4, .sl (shOf (some 4) t) (ws.map wdV) (tkOf t)), (5, i64V a)])
    s.length _ [] (.cons (.refl _) (.cons (.refl _) (.cons (.refl _) (.nil _)))) (List.Sublist.refl _) ⟨0, s.length, none, [], rfl, Nat.zero_le _, by omega, hres, Nat.zero_le _, fun _ => rfl, rfl, rfl⟩ ?_
  rintro m fr R ⟨a, f, t, ws, rfl, ha, hf, hcol, hlen, ht, rfl, rfl⟩
  have w1 : IntKind.i64.wrap ((a : Int) + 1) = ((a + 1 : Nat) : Int) := wadd (by omega) (by omega) (by omega)
  (conv => arg 2; whnf); refine wp_ite (fun h => ?_) (fun h => ?_)
  · have h : a < s.length := by have := of_decide_eq_true h; rw [S_size] at this; omega
    obtain ⟨c, hc⟩ : ∃ c, s[a]? = some c := ⟨_, List.getElem?_eq_getElem h⟩
    have hd := drop_at hc
    obtain ⟨f, rfl⟩ : ∃ f', f = f' + 1 := ⟨f - 1, by omega⟩
    rw [hd, itemsF_cons] at hcol
    have hb : byteAt (S s) (Int.toNat (a : Int)) = c := byte_at hc
    (conv => arg 2; whnf); refine wp_need (by rw [S_size]; omega) ?_
    (conv => arg 2; whnf); refine wp_ite (fun h1 => ?_) (fun h1 => ?_)
    · rw [hb, c_int_eq c 32 32 rfl] at h1
      rw [if_pos (of_decide_eq_true h1)] at hcol
      (conv => arg 2; whnf)
      exact wp_leaf (loop_next (s.length - (a + 1)) _ (tokR (some 4) t) (by omega) (.cons (.refl _) (.cons (.refl _) (.cons (Vle.i64 _ rfl w1) (.nil _)))) (List.Sublist.refl _) ⟨a + 1, f, t, ws, rfl, h, by omega, hcol, hlen, ht, rfl, rfl⟩)
    · rw [hb, c_int_eq c 32 32 rfl] at h1
      rw [if_neg (of_decide_eq_false h1), ← hd] at hcol
      have f1 := rword_call s a h hs
      have hnl := @nextR_len (s.drop a)
      have hne := @nextR_err (s.drop a)
      (conv => arg 2; whnf); refine wp_cutR (frL [(0, str s), (4, .sl (shOf (some 4) t) (ws.map wdV) (tkOf t)), (5, i64V a)]) _ (.cons (.refl _) (.cons (.refl _) (.cons (.refl _) (.nil _)))) (List.Sublist.refl _) ?_
      cases hx : nextR (s.drop a) with
      | error e =>
        rw [hx] at f1 hcol
        have hcol : res = .error e := hcol
        have he := hne hx
        (conv => arg 2; whnf); refine wp_pcall f1 ?_
        (conv => arg 2; whnf); refine wp_allocE (wdL wd0) rfl fun b => ?_
        (conv => arg 2; whnf); refine wp_storeE (cs := wdL wd0) (tokR (some 4) t).length 0 (wdL wd0) (by simp) rfl (VleL.refl _) (Nat.le_refl _) rfl (R' := tokR (some 4) t ++ [.obj b (wdL wd0)]) (by simp [splice, wdL]) ?_
        (conv => arg 2; whnf); refine wp_ite (fun _ => ?_) (fun h => by rcases he with rfl | rfl <;> cases h)
        (conv => arg 2; whnf)
        refine wp_leaf (loop_ret ?_)
        (conv => arg 2; whnf); refine w_ret2E rfl (Vle.nil _ _ _) (.refl _) (by rw [hcol]; rfl)
      | ok x =>
        rw [hx] at f1 hcol
        have hcol : res = collect ws ((x.wd a, none) :: itemsF f (a + x.len) ((s.drop a).drop x.len)) := hcol
        rw [collect_none, List.drop_drop] at hcol
        obtain ⟨k1, k2⟩ := hnl (by rw [hd]; simp) hx
        rw [List.length_drop] at k2
        have w2 : IntKind.i64.wrap ((a : Int) + x.len) = ((a + x.len : Nat) : Int) := wadd (by omega) (by omega) (by omega)
        have hwl : (ws ++ [x.wd a]).length = ws.length + 1 := by simp
        (conv => arg 2; whnf); refine wp_pcall f1 ?_
        (conv => arg 2; whnf); refine wp_allocE (wdL wd0) rfl fun b => ?_
        (conv => arg 2; whnf); refine wp_storeE (cs := wdL wd0) (tokR (some 4) t).length 0 (wdL (x.wd 0)) (by simp) rfl (VleL.refl _) (Nat.le_refl _) rfl (R' := tokR (some 4) t ++ [.obj b (wdL (x.wd 0))]) (by simp [splice, wdL]) ?_
        (repeat ((conv => arg 2; whnf); first | refine wp_ite (fun _ => ?_) (fun h => Bool.noConfusion h) | refine wp_ite (fun h => Bool.noConfusion h) (fun _ => ?_)))
        (conv => arg 2; whnf); refine wp_cutR (frL [(0, str s), (4, .sl (shOf (some 4) t) (ws.map wdV) (tkOf t)), (5, i64V a), (6, .loc b 0), (7, i64V x.len)]) _ (.cons (.refl _) (.cons (.refl _) (.cons (.refl _) (.cons (.refl _) (.cons (.refl _) (.nil _)))))) (List.Sublist.refl _) ?_
        (conv => arg 2; whnf); refine wp_ite (fun h5 => ?_) (fun h5 => ?_)
        · have h5 : 500 ≤ ws.length := by have := of_decide_eq_true h5; rw [List.length_map] at this; omega
          rw [if_pos (by omega)] at hcol
          (conv => arg 2; whnf)
          refine wp_leaf (loop_ret ?_)
          (conv => arg 2; whnf); refine w_ret2E rfl (Vle.nil _ _ _) (.refl _) (by rw [hcol]; rfl)
        · have h5 : ws.length < 500 := by have := of_decide_eq_false h5; rw [List.length_map] at this; omega
          rw [if_neg (by omega)] at hcol
          (conv => arg 2; whnf); refine wp_cutR (frL [(0, str s), (4, .sl (shOf (some 4) t) (ws.map wdV) (tkOf t)), (5, i64V a), (6, .loc b 0), (7, i64V x.len)]) _ (.cons (.refl _) (.cons (.refl _) (.cons (.refl _) (.cons (.refl _) (.cons (.refl _) (.nil _)))))) (List.Sublist.refl _) ?_
          (conv => arg 2; whnf); refine wp_storeE (cs := wdL (x.wd 0)) (tokR (some 4) t).length 3 [i64V a] (by simp) rfl (VleL.refl _) (Nat.le_of_ble_eq_true rfl) rfl (R' := tokR (some 4) t ++ [.obj b (wdL (x.wd a))]) (by simp [splice, wdL, Nx.wd]) ?_
          (conv => arg 2; whnf); refine wp_cutR (frL [(0, str s), (4, .sl (shOf (some 4) t) (ws.map wdV) (tkOf t)), (5, i64V a), (6, .loc b 0), (7, i64V x.len)]) _ (.cons (.refl _) (.cons (.refl _) (.cons (.refl _) (.cons (.refl _) (.cons (.refl _) (.nil _)))))) (List.Sublist.refl _) ?_
          (conv => arg 2; whnf); refine wp_load (cs := wdL (x.wd a)) (tokR (some 4) t).length (by simp) rfl ?_
          (conv => arg 2; whnf); refine wp_append_x (A := []) (B := [.obj b (wdL (x.wd a))]) (sh := some 4) (t := t) (xs := ws.map wdV) (ys := [wdV (x.wd a)]) (fun h => by rw [ht h]; rfl) (okE_wd [x.wd a]) (show (_ + 1) * 40 ≤ _ by simp; omega) (fun t' S' hS => ?_)
          (conv => arg 2; whnf)
          refine wp_leaf (loop_next (s.length - (a + x.len)) _ [.tok t' (some 4)] (by omega) (.cons (.refl _) (.cons (Vle.of (.sl (some 4) (ws.map wdV ++ [wdV (x.wd a)]) (.t t')) rfl ?_) (.cons (Vle.i64 _ rfl w2) (.nil _)))) hS ⟨a + x.len, f, some t', ws ++ [x.wd a], rfl, by omega, by omega, hcol, by omega, (fun h => by cases h), rfl, rfl⟩)
          rw [List.map_append]; rfl
  · have h : a = s.length := by have := of_decide_eq_false h; rw [S_size] at this; omega
    have hcol : res = .ok ws := by
      rw [hcol, h, List.drop_length]
      cases f <;> rfl
    (conv => arg 2; whnf)
    refine wp_leaf (loop_exit ?_)
    (conv => arg 2; whnf); refine wp_cutR (frL [(4, .sl (shOf (some 4) t) (ws.map wdV) (tkOf t))]) _ (.cons (.refl _) (.nil _)) (List.Sublist.refl _) ?_
    (conv => arg 2; whnf); refine w_ret2E rfl ?_ (.refl _) (by rw [hcol]; rfl)
    cases t with
    | none => rw [ht rfl]; exact Vle.nil _ _ _
    | some t => exact Vle.sl _ _ _
end Go.Sv
