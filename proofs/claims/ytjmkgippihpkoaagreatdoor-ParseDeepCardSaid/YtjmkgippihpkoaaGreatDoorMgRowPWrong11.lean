/- Parts of the proof, one behind the other. -/
import Derived.Test.YtjmkgippihpkoaaGreatDoorMgRowPWrong10
import Derived.Test.YtjmkgippihpkoaaGreatDoorMgRowPWrong8
/- The program's parser: a pattern. -/
namespace Go.Sv
open Go Go.Proofs

theorem Sim.other {α : Type} {r : Got α} {x y : α} {l l' : List Wd} {m n n' : Nat} (h : Sim r x l (some m) n) : Sim r y l' (some m) n' := ⟨fun h => (by cases h), h.2⟩
theorem Sim.pass {α : Type} {r : Got α} {e : Option Nat} {x : α} {l : List Wd} {e' : Option Nat} {n : Nat} (h : Sim (startE e r) x l e' n) : ∀ m, e = some m → e' = some m := fun m hm => by
  subst hm
  cases e' with
  | none => have := h.1 rfl; cases this
  | some k => have := h.2 k rfl; cases this; rfl

structure ElInv (s : List UInt8) (r0 : Got (List El)) (m : Nat) (acc : List El) (l : List Wd) (e : Option Nat) (n : Nat) (L0 : List Wd) : Prop where
  ok : e = none → r0 = elemsE s m acc l n ∧ l.length ≤ m ∧ l <:+ L0 ∧ acc.length + l.length ≤ 501
  er : ∀ k, e = some k → r0 = .error k
theorem ElInv.step {s : List UInt8} {r0 : Got (List El)} {m : Nat} {acc : List El} {l : List Wd} {n : Nat} {L0 : List Wd} (h : ElInv s r0 m acc l none n L0) (hL : AllOk s.length L0) (hb : isP l none 5 [44] = true) :
    AllOk s.length l.tail ∧ l.tail.length ≤ 2 ^ 30 ∧ 0 < m ∧ acc.length + 1 ≤ 502 ∧ ∀ x l1 e1 n1, Sim (startE none (elemE s l.tail n)) x l1 e1 n1 → ElInv s r0 (m - 1) (acc ++ [x]) l1 e1 n1 L0 := by
  obtain ⟨h1, h2, h3, h4⟩ := h.ok rfl
  obtain ⟨w, r, rfl⟩ := isP_cons hb
  rw [isP_hdT (by decide)] at hb
  rw [List.length_cons] at h2 h4
  obtain ⟨k, rfl⟩ : ∃ k, m = k + 1 := ⟨m - 1, by omega⟩
  rw [elemsE, if_pos hb] at h1
  have ht : AllOk s.length r := (hL.suf h3).tail
  refine ⟨ht, by show r.length ≤ _; omega, by omega, by omega, fun x l1 e1 n1 hS => ⟨fun he => ?_, fun q hq => ?_⟩⟩
  · have hr := hS.1 he
    obtain ⟨_, a2, a3⟩ := elemE_ok ht hr
    have a4 := suf_len a2
    refine ⟨?_, by show l1.length ≤ k; omega, a2.trans ((List.suffix_cons w r).trans h3), ?_⟩
    · rw [h1, show elemE s (w :: r).tail n = .ok (x, l1, n1) from hr, thenE_o]; rfl
    · rw [List.length_append, List.length_singleton]; omega
  · have hr := hS.2 q hq
    rw [h1, show elemE s (w :: r).tail n = .error q from hr, thenE_e]
theorem ElInv.fin {s : List UInt8} {r0 : Got (List El)} {m : Nat} {acc : List El} {l : List Wd} {e : Option Nat} {n : Nat} {L0 : List Wd} (h : ElInv s r0 m acc l e n L0) (hb : isP l e 5 [44] = false) : Sim r0 acc l e n := by
  refine ⟨fun he => ?_, h.er⟩
  subst he
  rw [isP_hdT (by decide)] at hb
  rw [(h.ok rfl).1]
  cases m with
  | zero => rfl
  | succ k => rw [elemsE, hb]; rfl

/-- What a pattern's walk comes to. -/
theorem pat_sim {s : List UInt8} {l l1 l2 l3 l4 l5 l6 l8 l9 l10 : List Wd} {e1 e2 e3 e4 e5 e6 e8 e9 : Option Nat} {n3 n4 : Nat} {x0 : El} {els : List El} {wn : Int} {bt : List UInt8} {a10 : Bool}
    (hl1 : l1 = mayL l none 4 seq3) (he1 : e1 = mustX l none 4 seq3) (hl2 : l2 = mayL l1 e1 5 [40]) (he2 : e2 = mustX l1 e1 5 [40]) (hE : Sim (startE e2 (elemE s l2 0)) x0 l3 e3 n3)
    (hEs : Sim (startE e3 (elemsE s l3.length [x0] l3 n3)) els l4 e4 n4) (hl5 : l5 = mayL l4 e4 5 [41]) (he5 : e5 = mustX l4 e4 5 [41]) (hl6 : l6 = mayL l5 e5 4 within6) (he6 : e6 = mustX l5 e5 4 within6)
    (h8 : ∀ m, e6 = some m → e8 = some m) (hW : e6 = none → Sim (withinE s l6 n4) wn l8 e8 n4) (h9 : ∀ m, e8 = some m → e9 = some m) (hB : e8 = none → Sim (byE l8 n4) bt l9 e9 n4)
    (ha : a10 = isP l9 e9 4 any3) (hl10 : l10 = mayL l9 e9 4 any3) : Sim (patE s l 0) ⟨els, wn, bt, a10⟩ l10 e9 n4 := by
  have x6 : ∀ m, e5 = some m → e6 = some m := fun m hm => by rw [he6, hm, mustX_some]
  have x5 : ∀ m, e4 = some m → e5 = some m := fun m hm => by rw [he5, hm, mustX_some]
  have x4 := hEs.pass
  have x3 := hE.pass
  have x2 : ∀ m, e1 = some m → e2 = some m := fun m hm => by rw [he2, hm, mustX_some]
  unfold patE
  refine Sim.bind (x := ()) (l := l1) (e := e1) (n := 0) (by rw [hl1, he1]; exact sim_must (by decide)) (fun m hm => h9 m (h8 m (x6 m (x5 m (x4 m (x3 m (x2 m hm))))))) fun h => ?_
  subst h
  refine Sim.bind (x := ()) (l := l2) (e := e2) (n := 0) (by rw [hl2, he2]; exact sim_must (by decide)) (fun m hm => h9 m (h8 m (x6 m (x5 m (x4 m (x3 m hm)))))) fun h => ?_
  subst h
  refine Sim.bind hE (fun m hm => h9 m (h8 m (x6 m (x5 m (x4 m hm))))) fun h => ?_
  subst h
  refine Sim.bind hEs (fun m hm => h9 m (h8 m (x6 m (x5 m hm)))) fun h => ?_
  subst h
  refine Sim.bind (x := ()) (l := l5) (e := e5) (n := n4) (by rw [hl5, he5]; exact sim_must (by decide)) (fun m hm => h9 m (h8 m (x6 m hm))) fun h => ?_
  subst h
  refine Sim.bind (x := ()) (l := l6) (e := e6) (n := n4) (by rw [hl6, he6]; exact sim_must (by decide)) (fun m hm => h9 m (h8 m hm)) fun h => ?_
  subst h
  refine Sim.bind (hW rfl) h9 fun h => ?_
  subst h
  refine Sim.bind (hB rfl) (fun m hm => hm) fun h => ?_
  subst h
  rw [ha, hl10, isP_hdT (by decide), optT_may (by decide)]
  exact Sim.ok

def plE (s : List UInt8) (l : List Wd) (e : Option Nat) : Option Nat := if plainP s l e then e else failE e 10
theorem plE_pass {s : List UInt8} {l : List Wd} {e : Option Nat} : ∀ m, e = some m → mustX l (plE s l e) 2 [] = some m := fun m hm => by
  subst hm
  rw [plE, plainP_some, if_neg (by decide), show failE (some m) 10 = some m from rfl, mustX_some]
theorem within_ok {s : List UInt8} {l : List Wd} {e : Option Nat} {n : Nat} (h0 : ¬ (takeW l (plE s l e) 2).n < 0) (h1 : ¬ (takeW l (plE s l e) 2).n > 1000) (he : e = none) : Sim (withinE s l n) (takeW l (plE s l e) 2).n (mayL l (plE s l e) 2 []) (mustX l (plE s l e) 2 []) n := by
  subst he
  cases hp : plainP s l none with
  | true =>
    rw [plE, hp, if_pos rfl] at h0 h1 ⊢
    rw [plainP_none] at hp
    have hk : isP l none 2 [] = true := by rw [isP_hdK]; exact (Bool.and_eq_true _ _ ▸ hp).1
    rw [takeW, if_pos hk] at h0 h1 ⊢
    rw [mayL, mustX, if_pos hk, if_pos hk]
    have hpl : plainW s (l.headD wd0) = true := (Bool.and_eq_true _ _ ▸ hp).2
    rw [withinE, show hdK 2 l = true from hk, hpl, decide_eq_true (show 0 ≤ (l.headD wd0).n by omega), decide_eq_true (show (l.headD wd0).n ≤ 1000 by omega)]
    exact Sim.ok
  | false =>
    rw [plE, hp, if_neg (by decide), show failE none 10 = some 10 from rfl, mustX_some]
    rw [plainP_none] at hp
    have : withinE s l n = .error 10 := by
      rw [withinE]
      cases hk : hdK 2 l with
      | false => rfl
      | true =>
        rw [hk] at hp
        have hp : plainW s (l.headD wd0) = false := hp
        rw [hp]; rfl
    rw [this]
    exact Sim.err
theorem within_bad {s : List UInt8} {l : List Wd} {e : Option Nat} {n : Nat} (h : (takeW l (plE s l e) 2).n < 0 ∨ (takeW l (plE s l e) 2).n > 1000) : e = none ∧ plainP s l e = true ∧ mustX l (plE s l e) 2 [] = none ∧ withinE s l n = .error 10 := by
  have h0 : wd0.n = 0 := rfl
  cases e with
  | some m =>
    rw [plE, plainP_some, if_neg (by decide), show failE (some m) 10 = some m from rfl, takeW, isP_some, if_neg (by decide), h0] at h
    omega
  | none =>
    cases hp : plainP s l none with
    | false =>
      rw [plE, hp, if_neg (by decide), show failE none 10 = some 10 from rfl, takeW, isP_some, if_neg (by decide), h0] at h
      omega
    | true =>
      rw [plE, hp, if_pos rfl] at h ⊢
      rw [plainP_none] at hp
      have hk : isP l none 2 [] = true := by rw [isP_hdK]; exact (Bool.and_eq_true _ _ ▸ hp).1
      rw [takeW, if_pos hk] at h
      refine ⟨rfl, rfl, by rw [mustX, if_pos hk], ?_⟩
      rw [withinE, if_neg]
      simp only [Bool.and_eq_true, decide_eq_true_eq]
      omega
theorem by_yes {l : List Wd} {e : Option Nat} {n : Nat} (hk : isP l e 4 by2 = true) : e = none → Sim (byE l n) (takeW l.tail e 1).text (mayL l.tail e 1 []) (mustX l.tail e 1 []) n := by
  intro he
  subst he
  rw [isP_hdT (by decide)] at hk
  rw [byE, if_pos hk]
  exact Sim.bind sim_take (fun m hm => hm) fun h => by rw [h]; exact Sim.ok
theorem by_no {l : List Wd} {e : Option Nat} {n : Nat} (hk : isP l e 4 by2 = false) : e = none → Sim (byE l n) [] l e n := by
  intro he
  subst he
  rw [isP_hdT (by decide)] at hk
  rw [byE, hk]
  exact Sim.ok

theorem pat_bad {s : List UInt8} {l l1 l2 l3 l4 l5 l6 l8 : List Wd} {e1 e2 e3 e4 e5 e6 e8 : Option Nat} {n3 n4 n' : Nat} {x0 : El} {els : List El} {p : Pa}
    (hl1 : l1 = mayL l none 4 seq3) (he1 : e1 = mustX l none 4 seq3) (hl2 : l2 = mayL l1 e1 5 [40]) (he2 : e2 = mustX l1 e1 5 [40]) (hE : Sim (startE e2 (elemE s l2 0)) x0 l3 e3 n3)
    (hEs : Sim (startE e3 (elemsE s l3.length [x0] l3 n3)) els l4 e4 n4) (hl5 : l5 = mayL l4 e4 5 [41]) (he5 : e5 = mustX l4 e4 5 [41]) (hl6 : l6 = mayL l5 e5 4 within6) (he6 : e6 = mustX l5 e5 4 within6)
    (h : e6 = none) (h8 : e8 = none) (hw : withinE s l6 n4 = .error 10) : Sim (patE s l 0) p l8 (failE e8 10) n' := by
  rw [h8]
  refine Sim.other (pat_sim (wn := 0) (l8 := l8) (e8 := some 10) (bt := []) (l9 := l8) (e9 := some 10) hl1 he1 hl2 he2 hE hEs hl5 he5 hl6 he6 (fun m hm => ?_) (fun _ => ?_) (fun m hm => hm) (fun h => ?_) rfl rfl)
  · rw [h] at hm; cases hm
  · rw [hw]; exact Sim.err
  · cases h
/-- A pattern's cells while it is read. -/
def pZ : List V := [.sl none [] .zero, i64V 0, str [], bV false]
def psK (t : Nat) (els : List El) (w : Int) (bt : List UInt8) (a : Bool) : List V := [.sl (some 11) (els.map elV) (.t t), i64V w, str bt, bV a]
theorem psK_vle (t : Nat) (els : List El) (w : Int) (bt : List UInt8) (a : Bool) : VleL (psK t els w bt a) (paC ⟨els, w, bt, a⟩) := .cons (Vle.sl _ _ _) (VleL.refl _)
def pa0 : Pa := ⟨[], 0, [], false⟩
theorem pZ_vle : VleL pZ (paC pa0) := .cons (Vle.nil _ _ _) (VleL.refl _)
theorem one_el (x : El) : ∀ y ∈ [elV x], okE (some 11) y := fun y hy => by
  rw [List.mem_singleton.1 hy]
  exact ⟨elC x, rfl, rfl, fun c hc => List.all_eq_true.1 (show (elC x).all oneV = true from rfl) c hc⟩
theorem el_app (acc : List El) (x : El) (t : Nat) : V.sl (some 11) (acc.map elV ++ [elV x]) (.t t) = V.sl (some 11) ((acc ++ [x]).map elV) (.t t) := by rw [List.map_append]; rfl

set_option maxRecDepth 100000 in
theorem parsepat_call (b : Nat) (s : List UInt8) (hs : s.length < 2 ^ 40) (l : List Wd) (hl : AllOk s.length l) (hlen : l.length ≤ 500) : SCall Tryz.prog 19 [.loc b 0] [.obj b (prL s l none 0)] (GK paC b s (patE s l 0)) := by
  obtain ⟨l1, hl1⟩ : ∃ x, x = mayL l none 4 seq3 := ⟨_, rfl⟩
  obtain ⟨e1, he1⟩ : ∃ x, x = mustX l none 4 seq3 := ⟨_, rfl⟩
  have c1 := must_x b s l none 0 4 seq3
  rw [← hl1, ← he1] at c1
  obtain ⟨l2, hl2⟩ : ∃ x, x = mayL l1 e1 5 [40] := ⟨_, rfl⟩
  obtain ⟨e2, he2⟩ : ∃ x, x = mustX l1 e1 5 [40] := ⟨_, rfl⟩
  have c2 := must_x b s l1 e1 0 5 [40]
  rw [← hl2, ← he2] at c2
  have s2 : l2 <:+ l := by
    rw [hl2, hl1]
    exact (mayL_suf _ _ _ _).trans (mayL_suf _ _ _ _)
  have c3 := elem_call b s hs l2 e2 0 (hl.suf s2) (by have := suf_len s2; omega)
  have inv0 : ∀ x0 l3 e3 n3, Sim (startE e2 (elemE s l2 0)) x0 l3 e3 n3 → ElInv s (startE e3 (elemsE s l3.length [x0] l3 n3)) l3.length [x0] l3 e3 n3 l2 := by
    intro x0 l3 e3 n3 h
    refine ⟨fun he => ?_, fun k hk => by rw [hk]; rfl⟩
    subst he
    have h0 : e2 = none := by
      cases e2 with
      | none => rfl
      | some m => have := h.pass m rfl; cases this
    subst h0
    obtain ⟨_, a2, _⟩ := elemE_ok (hl.suf s2) (h.1 rfl)
    have a3 := suf_len a2
    have a4 := suf_len s2
    refine ⟨rfl, Nat.le_refl _, a2, ?_⟩
    rw [List.length_singleton]; omega
  have sEs : ∀ x0 l3 e3 n3 els l4 e4 n4, Sim (startE e2 (elemE s l2 0)) x0 l3 e3 n3 → Sim (startE e3 (elemsE s l3.length [x0] l3 n3)) els l4 e4 n4 → e4 = none → l4 <:+ l := by
    intro x0 l3 e3 n3 els l4 e4 n4 h h' he
    subst he
    have h3 : e3 = none := by
      cases e3 with
      | none => rfl
      | some m => have := h'.pass m rfl; cases this
    subst h3
    have h0 : e2 = none := by
      cases e2 with
      | none => rfl
      | some m => have := h.pass m rfl; cases this
    subst h0
    obtain ⟨a1, a2, _⟩ := elemE_ok (hl.suf s2) (h.1 rfl)
    have s3 := a2.trans s2
    obtain ⟨_, _, b3⟩ := elemsE_ok (K := 500) _ _ _ _ (hl.suf s3) (by have := suf_len s3; omega) (fun f hf => by
      rw [List.mem_singleton.1 hf]
      exact { a1 with tyk := Nat.le_trans a1.tyk (by have := suf_len s2; omega) }) (h'.1 rfl)
    exact b3.trans s3
  refine scall_of (live := [11, 16, 18, 1700000, 10001800000]) (ords := [(4, []), (6, [2, 0, 1, 3, 4, 5, 6, 7]), (7, []), (9, []), (11, []), (15, []), (18, [])]) Tryz.func19 rfl (by kernel_rfl) (by kernel_rfl) (Nat.le_of_ble_eq_true rfl) ?_
  (conv => arg 2; whnf); refine wp_allocE pZ rfl fun c => ?_
  (conv => arg 2; whnf); refine wp_allocD pZ rfl fun d hfr => ?_
  have hne : d ≠ b := fun e => hfr 0 b _ rfl (List.cons_ne_nil _ _) e.symm
  clear hfr
  (conv => arg 2; whnf); refine wp_callF [] [.obj b (prL s l none 0)] [.obj c pZ, .obj d pZ] rfl c1 ?_
  rintro v R1 ⟨rfl, rfl⟩
  (conv => arg 2; whnf); refine wp_callF [] [.obj b (prL s l1 e1 0)] [.obj c pZ, .obj d pZ] rfl c2 ?_
  rintro v R1 ⟨rfl, rfl⟩
  refine wp_cutR (frL [(0, .loc b 0), (2, .loc c 0), (3, .loc d 0)]) [.obj b (prL s l2 e2 0), .obj c pZ, .obj d pZ] (.cons (.refl _) (.cons (.refl _) (.cons (.refl _) (.nil _)))) (List.Sublist.refl _) ?_
  (conv => arg 2; whnf); refine wp_callF [] [.obj b (prL s l2 e2 0)] [.obj c pZ, .obj d pZ] rfl c3 ?_
  rintro v R1 ⟨x0, l3, e3, n3, rfl, rfl, hE⟩
  (conv => arg 2; whnf)
  intro t0
  (conv => arg 2; whnf); refine wp_storeE (cs := pZ) 2 0 [.sl (some 11) [elV x0] (.t t0)] rfl rfl (VleL.refl _) (Nat.le_of_ble_eq_true rfl) rfl (R' := [.obj b (prL s l3 e3 n3), .obj c pZ, .obj d (psK t0 [x0] 0 [] false), .tok t0 (some 11)]) rfl ?_
  (conv => arg 2; whnf); refine wp_loop (fun m fr R => ∃ acc l5 e5 n5 t, ElInv s (startE e3 (elemsE s l3.length [x0] l3 n3)) m acc l5 e5 n5 l2 ∧ R = [.obj b (prL s l5 e5 n5), .obj c pZ, .obj d (psK t acc 0 [] false), .tok t (some 11)] ∧ fr = frL [(0, .loc b 0), (2, .loc c 0), (3, .loc d 0)])
    l3.length _ _ (.cons (.refl _) (.cons (.refl _) (.cons (.refl _) (.nil _)))) (List.Sublist.refl _) ⟨_, _, _, _, _, inv0 _ _ _ _ hE, rfl, rfl⟩ ?_
  rintro m fr R ⟨acc, l5, e5, n5, t, hI, rfl, rfl⟩
  (conv => arg 2; whnf); refine wp_callF [] [.obj b (prL s l5 e5 n5)] [.obj c pZ, .obj d (psK t acc 0 [] false), .tok t (some 11)] rfl (may_call b s l5 e5 n5 5 [44]) ?_
  rintro v R1 (⟨hb, rfl, rfl⟩ | ⟨hb, rfl, rfl⟩)
  · obtain rfl := isP_none hb
    obtain ⟨hA, hln, hm, hlt, hstep⟩ := hI.step (hl.suf s2) hb
    have hlen2 : (acc.map elV).length + 1 ≤ 502 := by rw [List.length_map]; exact hlt
    have ce := elem_call b s hs l5.tail none n5 hA hln
    (repeat ((conv => arg 2; whnf); first | refine wp_ite (fun _ => ?_) (fun h => Bool.noConfusion h) | refine wp_ite (fun h => Bool.noConfusion h) (fun _ => ?_)))
    refine wp_cutR (frL [(0, .loc b 0), (2, .loc c 0), (3, .loc d 0)]) [.obj b (prL s l5.tail none n5), .obj c pZ, .obj d (psK t acc 0 [] false), .tok t (some 11)] (.cons (.refl _) (.cons (.refl _) (.cons (.refl _) (.nil _)))) (List.Sublist.refl _) ?_
    (conv => arg 2; whnf); refine wp_need (lates1 d 0 b 0 rfl rfl rfl hne) ?_
    (conv => arg 2; whnf); refine wp_load (cs := psK t acc 0 [] false) 2 rfl rfl ?_
    (conv => arg 2; whnf); refine wp_dcall [] [.obj b (prL s l5.tail none n5)] [.obj c pZ, .obj d (psK t acc 0 [] false), .tok t (some 11)] rfl (okq1 0 (by decide) rfl) ce ?_
    rintro v R1 ⟨x, l7, e7, n7, rfl, rfl, hE2⟩
    (conv => arg 2; whnf); refine wp_append_tok 3 rfl (one_el x) (Nat.le_trans (Nat.mul_le_mul_right _ hlen2) (Nat.le_of_ble_eq_true rfl)) fun t' => ?_
    (conv => arg 2; whnf); refine wp_storeE (cs := psK t acc 0 [] false) 2 0 [.sl (some 11) ((acc ++ [x]).map elV) (.t t')] rfl rfl (.cons (Vle.eq (el_app _ _ _)) .nil) (Nat.le_of_ble_eq_true rfl) rfl (R' := [.obj b (prL s l7 e7 n7), .obj c pZ, .obj d (psK t' (acc ++ [x]) 0 [] false), .tok t' (some 11)]) rfl ?_
    (conv => arg 2; whnf)
    exact wp_leaf (loop_next (m - 1) _ _ (by omega) (.cons (.refl _) (.cons (.refl _) (.cons (.refl _) (.nil _)))) (List.Sublist.refl _) ⟨_, _, _, _, _, hstep _ _ _ _ hE2, rfl, rfl⟩)
  have hEs := hI.fin hb
  clear hI
  (repeat ((conv => arg 2; whnf); first | refine wp_ite (fun _ => ?_) (fun h => Bool.noConfusion h) | refine wp_ite (fun h => Bool.noConfusion h) (fun _ => ?_)))
  (conv => arg 2; whnf)
  refine wp_leaf (loop_exit ?_)
  have s5 := sEs _ _ _ _ _ _ _ _ hE hEs
  obtain ⟨l6, hl6⟩ : ∃ x, x = mayL l5 e5 5 [41] := ⟨_, rfl⟩
  obtain ⟨e6, he6⟩ : ∃ x, x = mustX l5 e5 5 [41] := ⟨_, rfl⟩
  have c4 := must_x b s l5 e5 n5 5 [41]
  rw [← hl6, ← he6] at c4
  obtain ⟨l7, hl7⟩ : ∃ x, x = mayL l6 e6 4 within6 := ⟨_, rfl⟩
  obtain ⟨e7, he7⟩ : ∃ x, x = mustX l6 e6 4 within6 := ⟨_, rfl⟩
  have c5 := must_x b s l6 e6 n5 4 within6
  rw [← hl7, ← he7] at c5
  have a7 : e7 = none → AllOk s.length l7 := by
    intro h
    have h6 : e6 = none := by
      cases e6 with
      | none => rfl
      | some m => rw [he7, mustX_some] at h; cases h
    have h5 : e5 = none := by
      cases e5 with
      | none => rfl
      | some m => rw [he6, mustX_some] at h6; cases h6
    rw [hl7, hl6]
    exact hl.suf ((mayL_suf _ _ _ _).trans ((mayL_suf _ _ _ _).trans (s5 h5)))
  have c6 := plain_call2 b s l7 e7 n5 hs a7
  have c7 := take_x b s l7 (plE s l7 e7) n5 2
  obtain ⟨l8, hl8⟩ : ∃ x, x = mayL l7 (plE s l7 e7) 2 [] := ⟨_, rfl⟩
  obtain ⟨e8, he8⟩ : ∃ x, x = mustX l7 (plE s l7 e7) 2 [] := ⟨_, rfl⟩
  rw [← hl8, ← he8] at c7
  refine wp_cutR (frL [(0, .loc b 0), (2, .loc c 0), (3, .loc d 0)]) [.obj b (prL s l5 e5 n5), .obj c pZ, .obj d (psK t acc 0 [] false)] (.cons (.refl _) (.cons (.refl _) (.cons (.refl _) (.nil _)))) (by simp) ?_
  (conv => arg 2; whnf); refine wp_callF [] [.obj b (prL s l5 e5 n5)] [.obj c pZ, .obj d (psK t acc 0 [] false)] rfl c4 ?_
  rintro v R1 ⟨rfl, rfl⟩
  (conv => arg 2; whnf); refine wp_callF [] [.obj b (prL s l6 e6 n5)] [.obj c pZ, .obj d (psK t acc 0 [] false)] rfl c5 ?_
  rintro v R1 ⟨rfl, rfl⟩
  (conv => arg 2; whnf)
  refine wp_cutR (frL [(0, .loc b 0), (2, .loc c 0), (3, .loc d 0)]) [.obj b (prL s l7 e7 n5), .obj c pZ, .obj d (psK t acc 0 [] false)] (.cons (.refl _) (.cons (.refl _) (.cons (.refl _) (.nil _)))) (List.Sublist.refl _) ?_
  (conv => arg 2; whnf); refine wp_callF [] [.obj b (prL s l7 e7 n5)] [.obj c pZ, .obj d (psK t acc 0 [] false)] rfl c6 ?_
  rintro v R1 ⟨rfl, rfl⟩
  have fp : plainP s l7 e7 = false → failE e7 10 = plE s l7 e7 := fun h => by rw [plE, h]; rfl
  have fq : plainP s l7 e7 = true → e7 = plE s l7 e7 := fun h => by rw [plE, if_pos h]
  (conv => arg 2; whnf)
  apply wp_ite_join
  case h1 =>
    intro rest hp
    have hp : plainP s l7 e7 = false := by simpa using hp
    (conv => arg 2; whnf); refine wp_callF [] [.obj b (prL s l7 e7 n5)] [.obj c pZ, .obj d (psK t acc 0 [] false)] rfl (fails_call b s l7 e7 n5 10) ?_
    rintro v R1 ⟨rfl, rfl⟩
    rw [fp hp]
    (conv => arg 2; whnf)
    exact wp_cutR (frL [(0, .loc b 0), (2, .loc c 0), (3, .loc d 0)]) [.obj b (prL s l7 (plE s l7 e7) n5), .obj c pZ, .obj d (psK t acc 0 [] false)] (.cons (.refl _) (.cons (.refl _) (.cons (.refl _) (.nil _)))) (List.Sublist.refl _) rest
  case h2 =>
    intro rest hp
    have hp : plainP s l7 e7 = true := by simpa using hp
    have hR : [Res.obj b (prL s l7 (plE s l7 e7) n5), .obj c pZ, .obj d (psK t acc 0 [] false)] = [Res.obj b (prL s l7 e7 n5), .obj c pZ, .obj d (psK t acc 0 [] false)] := by rw [← fq hp]
    (conv => arg 2; whnf)
    exact wp_cutR (frL [(0, .loc b 0), (2, .loc c 0), (3, .loc d 0)]) [.obj b (prL s l7 (plE s l7 e7) n5), .obj c pZ, .obj d (psK t acc 0 [] false)] (.cons (.refl _) (.cons (.refl _) (.cons (.refl _) (.nil _)))) (hR ▸ List.Sublist.refl _) rest
  case rest =>
  (conv => arg 2; whnf); refine wp_callF [] [.obj b (prL s l7 (plE s l7 e7) n5)] [.obj c pZ, .obj d (psK t acc 0 [] false)] rfl c7 ?_
  rintro v R1 ⟨rfl, rfl⟩
  (conv => arg 2; whnf); refine wp_ite (fun h1 => ?_) (fun h1 => ?_)
  · have h1 := of_decide_eq_true h1
    (repeat ((conv => arg 2; whnf); first | refine wp_ite (fun _ => ?_) (fun h => Bool.noConfusion h) | refine wp_ite (fun h => Bool.noConfusion h) (fun _ => ?_)))
    obtain ⟨h7, hpl, h8n, hwi⟩ := within_bad (s := s) (l := l7) (e := e7) (n := n5) (.inl h1)
    (conv => arg 2; whnf); refine wp_callF [] [.obj b (prL s l8 e8 n5)] [.obj c pZ, .obj d (psK t acc 0 [] false)] rfl (fails_call b s l8 e8 n5 10) ?_
    rintro v R1 ⟨rfl, rfl⟩
    (conv => arg 2; whnf); refine wp_storeE (cs := pZ) 1 0 (paC pa0) rfl rfl pZ_vle (Nat.le_refl _) rfl (R' := [.obj b (prL s l8 (failE e8 10) n5), .obj c (paC pa0), .obj d (psK t acc 0 [] false)]) rfl ?_
    (conv => arg 2; whnf); refine w_ret1k (R' := [.obj b (prL s l8 (failE e8 10) n5)]) c 0 1 rfl rfl rfl rfl rfl (Vle.refl _) (by simp) ⟨_, _, _, _, rfl, rfl, pat_bad hl1 he1 hl2 he2 hE hEs hl6 he6 hl7 he7 h7 (he8.trans h8n) hwi⟩
  have h1 : ¬ (takeW l7 (plE s l7 e7) 2).n < 0 := of_decide_eq_false h1
  (conv => arg 2; whnf); refine wp_ite (fun h2 => ?_) (fun h2 => ?_)
  · have h2 := of_decide_eq_true h2
    obtain ⟨h7, hpl, h8n, hwi⟩ := within_bad (s := s) (l := l7) (e := e7) (n := n5) (.inr h2)
    (conv => arg 2; whnf); refine wp_callF [] [.obj b (prL s l8 e8 n5)] [.obj c pZ, .obj d (psK t acc 0 [] false)] rfl (fails_call b s l8 e8 n5 10) ?_
    rintro v R1 ⟨rfl, rfl⟩
    (conv => arg 2; whnf); refine wp_storeE (cs := pZ) 1 0 (paC pa0) rfl rfl pZ_vle (Nat.le_refl _) rfl (R' := [.obj b (prL s l8 (failE e8 10) n5), .obj c (paC pa0), .obj d (psK t acc 0 [] false)]) rfl ?_
    (conv => arg 2; whnf); refine w_ret1k (R' := [.obj b (prL s l8 (failE e8 10) n5)]) c 0 1 rfl rfl rfl rfl rfl (Vle.refl _) (by simp) ⟨_, _, _, _, rfl, rfl, pat_bad hl1 he1 hl2 he2 hE hEs hl6 he6 hl7 he7 h7 (he8.trans h8n) hwi⟩
  have h2 : ¬ (takeW l7 (plE s l7 e7) 2).n > 1000 := of_decide_eq_false h2
  have hW : e7 = none → Sim (withinE s l7 n5) (takeW l7 (plE s l7 e7) 2).n l8 e8 n5 := by rw [hl8, he8]; exact within_ok h1 h2
  have hp8 : ∀ m, e7 = some m → e8 = some m := by rw [he8]; exact plE_pass
  (conv => arg 2; whnf)
  refine wp_cutR (frL [(0, .loc b 0), (2, .loc c 0), (3, .loc d 0), (4, i64V (takeW l7 (plE s l7 e7) 2).n)]) [.obj b (prL s l8 e8 n5), .obj c pZ, .obj d (psK t acc 0 [] false)] (.cons (.refl _) (.cons (.refl _) (.cons (.refl _) (.cons (.refl _) (.nil _))))) (List.Sublist.refl _) ?_
  (conv => arg 2; whnf); refine wp_storeE (cs := psK t acc 0 [] false) 2 1 [i64V (takeW l7 (plE s l7 e7) 2).n] rfl rfl (VleL.refl _) (Nat.le_of_ble_eq_true rfl) rfl (R' := [.obj b (prL s l8 e8 n5), .obj c pZ, .obj d (psK t acc (takeW l7 (plE s l7 e7) 2).n [] false)]) rfl ?_
  (conv => arg 2; whnf); refine wp_callF [] [.obj b (prL s l8 e8 n5)] [.obj c pZ, .obj d (psK t acc (takeW l7 (plE s l7 e7) 2).n [] false)] rfl (may_call b s l8 e8 n5 4 by2) ?_
  rintro v R1 (⟨hk, rfl, rfl⟩ | ⟨hk, rfl, rfl⟩)
  · have s9 : ∀ m, e8 = some m → mustX l8.tail e8 1 [] = some m := fun m hm => by rw [hm, mustX_some]
    have hB := by_yes (n := n5) hk
    obtain ⟨l9, hl9⟩ : ∃ x, x = mayL l8.tail e8 1 [] := ⟨_, rfl⟩
    obtain ⟨e9, he9⟩ : ∃ x, x = mustX l8.tail e8 1 [] := ⟨_, rfl⟩
    have c9 := take_x b s l8.tail e8 n5 1
    rw [← he9] at s9
    rw [← hl9, ← he9] at hB c9
    (repeat ((conv => arg 2; whnf); first | refine wp_ite (fun _ => ?_) (fun h => Bool.noConfusion h) | refine wp_ite (fun h => Bool.noConfusion h) (fun _ => ?_)))
    (conv => arg 2; whnf); refine wp_callF [] [.obj b (prL s l8.tail e8 n5)] [.obj c pZ, .obj d (psK t acc (takeW l7 (plE s l7 e7) 2).n [] false)] rfl c9 ?_
    rintro v R1 ⟨rfl, rfl⟩
    (conv => arg 2; whnf); refine wp_storeE (cs := psK t acc (takeW l7 (plE s l7 e7) 2).n [] false) 2 2 [str (takeW l8.tail e8 1).text] rfl rfl (VleL.refl _) (Nat.le_of_ble_eq_true rfl) rfl (R' := [.obj b (prL s l9 e9 n5), .obj c pZ, .obj d (psK t acc (takeW l7 (plE s l7 e7) 2).n (takeW l8.tail e8 1).text false)]) rfl ?_
    (conv => arg 2; whnf)
    refine wp_cutR (frL [(0, .loc b 0), (2, .loc c 0), (3, .loc d 0)]) [.obj b (prL s l9 e9 n5), .obj c pZ, .obj d (psK t acc (takeW l7 (plE s l7 e7) 2).n (takeW l8.tail e8 1).text false)] (.cons (.refl _) (.cons (.refl _) (.cons (.refl _) (.nil _)))) (List.Sublist.refl _) ?_
    (conv => arg 2; whnf); refine wp_callF [] [.obj b (prL s l9 e9 n5)] [.obj c pZ, .obj d (psK t acc (takeW l7 (plE s l7 e7) 2).n (takeW l8.tail e8 1).text false)] rfl (may_x b s l9 e9 n5 4 any3) ?_
    rintro v R1 ⟨rfl, rfl⟩
    (conv => arg 2; whnf); refine wp_storeE (cs := psK t acc (takeW l7 (plE s l7 e7) 2).n (takeW l8.tail e8 1).text false) 2 3 [bV (isP l9 e9 4 any3)] rfl rfl (VleL.refl _) (Nat.le_of_ble_eq_true rfl) rfl (R' := [.obj b (prL s (mayL l9 e9 4 any3) e9 n5), .obj c pZ, .obj d (psK t acc (takeW l7 (plE s l7 e7) 2).n (takeW l8.tail e8 1).text (isP l9 e9 4 any3))]) rfl ?_
    (conv => arg 2; whnf); refine wp_load (cs := psK t acc (takeW l7 (plE s l7 e7) 2).n (takeW l8.tail e8 1).text (isP l9 e9 4 any3)) 2 rfl rfl ?_
    (conv => arg 2; whnf); refine wp_storeE (cs := pZ) 1 0 (paC ⟨acc, (takeW l7 (plE s l7 e7) 2).n, (takeW l8.tail e8 1).text, isP l9 e9 4 any3⟩) rfl rfl (psK_vle _ _ _ _ _) (Nat.le_refl _) rfl (R' := [.obj b (prL s (mayL l9 e9 4 any3) e9 n5), .obj c (paC ⟨acc, (takeW l7 (plE s l7 e7) 2).n, (takeW l8.tail e8 1).text, isP l9 e9 4 any3⟩), .obj d (psK t acc (takeW l7 (plE s l7 e7) 2).n (takeW l8.tail e8 1).text (isP l9 e9 4 any3))]) rfl ?_
    (conv => arg 2; whnf); refine w_ret1k (R' := [.obj b (prL s (mayL l9 e9 4 any3) e9 n5)]) c 0 1 rfl rfl rfl rfl rfl (Vle.refl _) (by simp) ⟨_, _, _, _, rfl, rfl, pat_sim hl1 he1 hl2 he2 hE hEs hl6 he6 hl7 he7 hp8 hW s9 hB rfl rfl⟩
  have hB := by_no (n := n5) hk
  (repeat ((conv => arg 2; whnf); first | refine wp_ite (fun _ => ?_) (fun h => Bool.noConfusion h) | refine wp_ite (fun h => Bool.noConfusion h) (fun _ => ?_)))
  (conv => arg 2; whnf)
  refine wp_cutR (frL [(0, .loc b 0), (2, .loc c 0), (3, .loc d 0)]) [.obj b (prL s l8 e8 n5), .obj c pZ, .obj d (psK t acc (takeW l7 (plE s l7 e7) 2).n [] false)] (.cons (.refl _) (.cons (.refl _) (.cons (.refl _) (.nil _)))) (List.Sublist.refl _) ?_
  (conv => arg 2; whnf); refine wp_callF [] [.obj b (prL s l8 e8 n5)] [.obj c pZ, .obj d (psK t acc (takeW l7 (plE s l7 e7) 2).n [] false)] rfl (may_x b s l8 e8 n5 4 any3) ?_
  rintro v R1 ⟨rfl, rfl⟩
  (conv => arg 2; whnf); refine wp_storeE (cs := psK t acc (takeW l7 (plE s l7 e7) 2).n [] false) 2 3 [bV (isP l8 e8 4 any3)] rfl rfl (VleL.refl _) (Nat.le_of_ble_eq_true rfl) rfl (R' := [.obj b (prL s (mayL l8 e8 4 any3) e8 n5), .obj c pZ, .obj d (psK t acc (takeW l7 (plE s l7 e7) 2).n [] (isP l8 e8 4 any3))]) rfl ?_
  (conv => arg 2; whnf); refine wp_load (cs := psK t acc (takeW l7 (plE s l7 e7) 2).n [] (isP l8 e8 4 any3)) 2 rfl rfl ?_
  (conv => arg 2; whnf); refine wp_storeE (cs := pZ) 1 0 (paC ⟨acc, (takeW l7 (plE s l7 e7) 2).n, [], isP l8 e8 4 any3⟩) rfl rfl (psK_vle _ _ _ _ _) (Nat.le_refl _) rfl (R' := [.obj b (prL s (mayL l8 e8 4 any3) e8 n5), .obj c (paC ⟨acc, (takeW l7 (plE s l7 e7) 2).n, [], isP l8 e8 4 any3⟩), .obj d (psK t acc (takeW l7 (plE s l7 e7) 2).n [] (isP l8 e8 4 any3))]) rfl ?_
  (conv => arg 2; whnf); refine w_ret1k (R' := [.obj b (prL s (mayL l8 e8 4 any3) e8 n5)]) c 0 1 rfl rfl rfl rfl rfl (Vle.refl _) (by simp) ⟨_, _, _, _, rfl, rfl, pat_sim hl1 he1 hl2 he2 hE hEs hl6 he6 hl7 he7 hp8 hW (fun m hm => hm) hB rfl rfl⟩
end Go.Sv
/- The program's parser: of a text. -/
namespace Go.Sv
open Go Go.Proofs

def pairV (x : V) (e : Option Nat) : V := .tup [x, .c (errV e)]
def parseExV : Except Nat Ex → V
  | .ok x => pairV (.agg (exC x)) none
  | .error e => pairV (.agg (exC ex0)) (some e)
def parsePaV : Except Nat Pa → V
  | .ok x => pairV (.agg (paC x)) none
  | .error e => pairV (.agg (paC pa0)) (some e)
theorem Sim.end_ok {α : Type} {r : Got α} {x : α} {l : List Wd} {e : Option Nat} {n : Nat} (h : Sim r x l e n) (he : (if l = [] then e else failE e 10) = none) : endE r = .ok x := by
  cases e with
  | none =>
    rw [h.1 rfl, endE]
    split at he
    · rename_i hl; rw [if_pos hl]
    · cases he
  | some m => split at he <;> cases he
theorem Sim.end_err {α : Type} {r : Got α} {x : α} {l : List Wd} {e : Option Nat} {n m : Nat} (h : Sim r x l e n) (he : (if l = [] then e else failE e 10) = some m) : endE r = .error m := by
  cases e with
  | none =>
    rw [h.1 rfl, endE]
    split at he
    · cases he
    · rename_i hl; rw [if_neg hl]; cases he; rfl
  | some k =>
    rw [h.2 k rfl, endE]
    split at he <;> (cases he; rfl)

set_option maxRecDepth 100000 in
theorem parseexpr_call (s : List UInt8) (hs : s.length < 2 ^ 40) : PCall Tryz.prog 12 [str s] (parseExV (parseExE s)) := by
  have f1 := cut_call s hs
  refine scall_of (live := [21]) (ords := []) Tryz.func12 rfl (by kernel_rfl) (by kernel_rfl) (Nat.le_of_ble_eq_true rfl) ?_
  cases hc : cutW s with
  | error k =>
    rw [hc] at f1
    have hr : parseExE s = .error k := by rw [parseExE, hc]
    (conv => arg 2; whnf); refine wp_allocE exZ rfl fun c => ?_
    (conv => arg 2; whnf); refine wp_pcall f1 ?_
    (repeat ((conv => arg 2; whnf); first | refine wp_ite (fun _ => ?_) (fun h => Bool.noConfusion h) | refine wp_ite (fun h => Bool.noConfusion h) (fun _ => ?_)))
    (conv => arg 2; whnf); refine wp_storeE (cs := exZ) 0 0 (exC ex0) rfl rfl ex0_vle (Nat.le_refl _) rfl (R' := [.obj c (exC ex0)]) rfl ?_
    (conv => arg 2; whnf); refine w_ret2ck (R' := []) (a := .agg (exC ex0)) (u := .c (errV (some k))) c 0 0 rfl rfl rfl rfl rfl (Vle.refl _) (Vle.refl _) (List.nil_sublist _) (by rw [hr]; rfl)
  | ok l =>
    rw [hc] at f1
    obtain ⟨hl, hlen⟩ := cutW_ok hc
    (conv => arg 2; whnf); refine wp_allocE exZ rfl fun c => ?_
    (conv => arg 2; whnf); refine wp_pcall f1 ?_
    (repeat ((conv => arg 2; whnf); first | refine wp_ite (fun _ => ?_) (fun h => Bool.noConfusion h) | refine wp_ite (fun h => Bool.noConfusion h) (fun _ => ?_)))
    (conv => arg 2; whnf); refine wp_allocE (prL s l none 0) rfl fun b => ?_
    (conv => arg 2; whnf); refine wp_callF [.obj c exZ] [.obj b (prL s l none 0)] [] rfl (node_gen b s hs l hl) ?_
    rintro v R1 ⟨x, l1, e1, n1, rfl, rfl, hN⟩
    (conv => arg 2; whnf); refine wp_allocE exZ rfl fun d => ?_
    (conv => arg 2; whnf); refine wp_storeE (cs := exZ) 2 0 (exC x) rfl rfl (VleL.refl _) (Nat.le_refl _) rfl (R' := [.obj c exZ, .obj b (prL s l1 e1 n1), .obj d (exC x)]) rfl ?_
    obtain ⟨e2, he2⟩ : ∃ y, y = (if l1 = [] then e1 else failE e1 10) := ⟨_, rfl⟩
    have c2 := ends_call b s l1 e1 n1
    rw [← he2] at c2
    (conv => arg 2; whnf); refine wp_callF [.obj c exZ] [.obj b (prL s l1 e1 n1)] [.obj d (exC x)] rfl c2 ?_
    rintro v R1 ⟨rfl, rfl⟩
    cases e2 with
    | some k =>
      have hr : parseExE s = .error k := by rw [parseExE, hc]; exact hN.end_err he2.symm
      (repeat ((conv => arg 2; whnf); first | refine wp_ite (fun _ => ?_) (fun h => Bool.noConfusion h) | refine wp_ite (fun h => Bool.noConfusion h) (fun _ => ?_)))
      (conv => arg 2; whnf); refine wp_storeE (cs := exZ) 0 0 (exC ex0) rfl rfl ex0_vle (Nat.le_refl _) rfl (R' := [.obj c (exC ex0), .obj b (prL s l1 (some k) n1), .obj d (exC x)]) rfl ?_
      (conv => arg 2; whnf); refine w_ret2ck (R' := []) (a := .agg (exC ex0)) (u := .c (errV (some k))) c 0 0 rfl rfl rfl rfl rfl (Vle.refl _) (Vle.refl _) (List.nil_sublist _) (by rw [hr]; rfl)
    | none =>
      have hr : parseExE s = .ok x := by rw [parseExE, hc]; exact hN.end_ok he2.symm
      (repeat ((conv => arg 2; whnf); first | refine wp_ite (fun _ => ?_) (fun h => Bool.noConfusion h) | refine wp_ite (fun h => Bool.noConfusion h) (fun _ => ?_)))
      (conv => arg 2; whnf); refine wp_load (cs := exC x) 2 rfl rfl ?_
      (conv => arg 2; whnf); refine wp_storeE (cs := exZ) 0 0 (exC x) rfl rfl (VleL.refl _) (Nat.le_refl _) rfl (R' := [.obj c (exC x), .obj b (prL s l1 none n1), .obj d (exC x)]) rfl ?_
      (conv => arg 2; whnf); refine w_ret2ck (R' := []) (a := .agg (exC x)) (u := .c (errV none)) c 0 0 rfl rfl rfl rfl rfl (Vle.refl _) (Vle.refl _) (List.nil_sublist _) (by rw [hr]; rfl)

set_option maxRecDepth 100000 in
theorem parsepattern_call (s : List UInt8) (hs : s.length < 2 ^ 40) : PCall Tryz.prog 8 [str s] (parsePaV (parsePaE s)) := by
  have f1 := cut_call s hs
  refine scall_of (live := [21]) (ords := [(9, [])]) Tryz.func8 rfl (by kernel_rfl) (by kernel_rfl) (Nat.le_of_ble_eq_true rfl) ?_
  cases hc : cutW s with
  | error k =>
    rw [hc] at f1
    have hr : parsePaE s = .error k := by rw [parsePaE, hc]
    (conv => arg 2; whnf); refine wp_allocE pZ rfl fun c => ?_
    (conv => arg 2; whnf); refine wp_pcall f1 ?_
    (repeat ((conv => arg 2; whnf); first | refine wp_ite (fun _ => ?_) (fun h => Bool.noConfusion h) | refine wp_ite (fun h => Bool.noConfusion h) (fun _ => ?_)))
    (conv => arg 2; whnf); refine wp_storeE (cs := pZ) 0 0 (paC pa0) rfl rfl pZ_vle (Nat.le_refl _) rfl (R' := [.obj c (paC pa0)]) rfl ?_
    (conv => arg 2; whnf); refine w_ret2ck (R' := []) (a := .agg (paC pa0)) (u := .c (errV (some k))) c 0 0 rfl rfl rfl rfl rfl (Vle.refl _) (Vle.refl _) (List.nil_sublist _) (by rw [hr]; rfl)
  | ok l =>
    rw [hc] at f1
    obtain ⟨hl, hlen⟩ := cutW_ok hc
    (conv => arg 2; whnf); refine wp_allocE pZ rfl fun c => ?_
    (conv => arg 2; whnf); refine wp_pcall f1 ?_
    (repeat ((conv => arg 2; whnf); first | refine wp_ite (fun _ => ?_) (fun h => Bool.noConfusion h) | refine wp_ite (fun h => Bool.noConfusion h) (fun _ => ?_)))
    (conv => arg 2; whnf); refine wp_allocE (prL s l none 0) rfl fun b => ?_
    (conv => arg 2; whnf); refine wp_callF [.obj c pZ] [.obj b (prL s l none 0)] [] rfl (parsepat_call b s hs l hl hlen) ?_
    rintro v R1 ⟨x, l1, e1, n1, rfl, rfl, hN⟩
    (conv => arg 2; whnf); refine wp_allocE pZ rfl fun d => ?_
    (conv => arg 2; whnf); refine wp_storeE (cs := pZ) 2 0 (paC x) rfl rfl (VleL.refl _) (Nat.le_refl _) rfl (R' := [.obj c pZ, .obj b (prL s l1 e1 n1), .obj d (paC x)]) rfl ?_
    obtain ⟨e2, he2⟩ : ∃ y, y = (if l1 = [] then e1 else failE e1 10) := ⟨_, rfl⟩
    have c2 := ends_call b s l1 e1 n1
    rw [← he2] at c2
    (conv => arg 2; whnf); refine wp_callF [.obj c pZ] [.obj b (prL s l1 e1 n1)] [.obj d (paC x)] rfl c2 ?_
    rintro v R1 ⟨rfl, rfl⟩
    cases e2 with
    | some k =>
      have hr : parsePaE s = .error k := by rw [parsePaE, hc]; simp only; rw [hN.end_err he2.symm]
      (repeat ((conv => arg 2; whnf); first | refine wp_ite (fun _ => ?_) (fun h => Bool.noConfusion h) | refine wp_ite (fun h => Bool.noConfusion h) (fun _ => ?_)))
      (conv => arg 2; whnf); refine wp_storeE (cs := pZ) 0 0 (paC pa0) rfl rfl pZ_vle (Nat.le_refl _) rfl (R' := [.obj c (paC pa0), .obj b (prL s l1 (some k) n1), .obj d (paC x)]) rfl ?_
      (conv => arg 2; whnf); refine w_ret2ck (R' := []) (a := .agg (paC pa0)) (u := .c (errV (some k))) c 0 0 rfl rfl rfl rfl rfl (Vle.refl _) (Vle.refl _) (List.nil_sublist _) (by rw [hr]; rfl)
    | none =>
      have hr0 := hN.end_ok he2.symm
      have hbd : PaBd x := by
        have he1 : e1 = none := by
          cases e1 with
          | none => rfl
          | some m => split at he2 <;> cases he2
        exact (patE_ok hl hlen (hN.1 he1)).1
      have hr : parsePaE s = if isPaB x then .ok x else .error 10 := by rw [parsePaE, hc]; simp only; rw [hr0]
      (repeat ((conv => arg 2; whnf); first | refine wp_ite (fun _ => ?_) (fun h => Bool.noConfusion h) | refine wp_ite (fun h => Bool.noConfusion h) (fun _ => ?_)))
      (conv => arg 2; whnf)
      refine wp_cutR (frL [(2, .loc c 0), (7, .loc d 0)]) [.obj c pZ, .obj d (paC x)] (.cons (.refl _) (.cons (.refl _) (.nil _))) (by simp) ?_
      (conv => arg 2; whnf); refine wp_load (cs := paC x) 1 rfl rfl ?_
      (conv => arg 2; whnf); refine wp_pcall (pattern_call x hbd) ?_
      cases hi : isPaB x with
      | false =>
        rw [hi] at hr
        (repeat ((conv => arg 2; whnf); first | refine wp_ite (fun _ => ?_) (fun h => Bool.noConfusion h) | refine wp_ite (fun h => Bool.noConfusion h) (fun _ => ?_)))
        (conv => arg 2; whnf); refine wp_storeE (cs := pZ) 0 0 (paC pa0) rfl rfl pZ_vle (Nat.le_refl _) rfl (R' := [.obj c (paC pa0), .obj d (paC x)]) rfl ?_
        (conv => arg 2; whnf); refine w_ret2ck (R' := []) (a := .agg (paC pa0)) (u := .c (errV (some 10))) c 0 0 rfl rfl rfl rfl rfl (Vle.refl _) (Vle.refl _) (List.nil_sublist _) (by rw [hr]; rfl)
      | true =>
        rw [hi] at hr
        (repeat ((conv => arg 2; whnf); first | refine wp_ite (fun _ => ?_) (fun h => Bool.noConfusion h) | refine wp_ite (fun h => Bool.noConfusion h) (fun _ => ?_)))
        (conv => arg 2; whnf); refine wp_load (cs := paC x) 1 rfl rfl ?_
        (conv => arg 2; whnf); refine wp_storeE (cs := pZ) 0 0 (paC x) rfl rfl (VleL.refl _) (Nat.le_refl _) rfl (R' := [.obj c (paC x), .obj d (paC x)]) rfl ?_
        (conv => arg 2; whnf); refine w_ret2ck (R' := []) (a := .agg (paC x)) (u := .c (errV none)) c 0 0 rfl rfl rfl rfl rfl (Vle.refl _) (Vle.refl _) (List.nil_sublist _) (by rw [hr]; rfl)
end Go.Sv
/- pasternlaw9: what is known; wrong texts. -/
namespace Go.Sv
open Go Go.Proofs

def k9s0 : List UInt8 := [83, 69, 81, 40, 97, 58, 116, 124, 117, 43, 91, 40, 97, 46, 120, 32, 60, 32, 45, 51, 41, 93, 44, 32, 33, 110, 58, 116, 32, 44, 32, 98, 58, 117, 41, 32, 32, 87, 73, 84, 72, 73, 78, 32, 55, 32, 66, 89, 32, 105, 100, 32, 65, 78, 89]
def k9s1 : List UInt8 := [83, 69, 81, 40, 97, 58, 117, 124, 116, 41, 32, 87, 73, 84, 72, 73, 78, 32, 55]
def k9s2 : List UInt8 := [83, 69, 81, 40, 97, 58, 116, 41, 32, 87, 73, 84, 72, 73, 78, 32, 55, 32, 35]
def k9s3 : List UInt8 := [40, 78, 79, 84, 32, 97, 46, 98, 105, 103, 41]
def k9s4 : List UInt8 := [40, 78, 79, 84, 32, 40, 78, 79, 84, 32, 40, 78, 79, 84, 32, 40, 78, 79, 84, 32, 40, 78, 79, 84, 32, 97, 46, 120, 41, 41, 41, 41, 41]
def k9x : Ex := .mk 8 val0 [] [] [.mk 2 val0 [97] [120] [], .mk 1 ⟨1, -3, []⟩ [] [] []]
def k9a : El := ⟨[97], [[116], [117]], true, false, k9x⟩
def k9b : El := ⟨[110], [[116]], false, true, ex0⟩
def k9c : El := ⟨[98], [[117]], false, false, ex0⟩
def k9p : Pa := ⟨[k9a, k9b, k9c], 7, [105, 100], true⟩
def k9n : Ex := .mk 12 val0 [] [] [.mk 2 val0 [97] [98, 105, 103] []]
theorem k9_0 : parsePaE k9s0 = .ok k9p := by kernel_rfl
theorem k9_1 : parsePaE k9s1 = .error 10 := by kernel_rfl
theorem k9_2 : parsePaE k9s2 = .error 21 := by kernel_rfl
theorem k9_3 : parseExE k9s3 = .ok k9n := by kernel_rfl
theorem k9_4 : parseExE k9s4 = .error 12 := by kernel_rfl
def wrongL : List (List UInt8) := [[],
  [83, 69, 81],
  [83, 69, 81, 40, 41],
  [83, 69, 81, 40, 97, 41, 32, 87, 73, 84, 72, 73, 78, 32, 53],
  [83, 69, 81, 40, 97, 58, 116, 41, 32, 87, 73, 84, 72, 73, 78],
  [83, 69, 81, 40, 97, 58, 116, 41, 32, 87, 73, 84, 72, 73, 78, 32, 45, 49],
  [83, 69, 81, 40, 97, 58, 116, 41, 32, 87, 73, 84, 72, 73, 78, 32, 49, 48, 48, 49],
  [83, 69, 81, 40, 33, 97, 58, 116, 44, 32, 98, 58, 116, 41, 32, 87, 73, 84, 72, 73, 78, 32, 53],
  [83, 69, 81, 40, 97, 58, 116, 44, 32, 97, 58, 116, 41, 32, 87, 73, 84, 72, 73, 78, 32, 53],
  [83, 69, 81, 40, 97, 58, 116, 43, 43, 41, 32, 87, 73, 84, 72, 73, 78, 32, 53],
  [83, 69, 81, 40, 97, 58, 116, 91, 93, 41, 32, 87, 73, 84, 72, 73, 78, 32, 53],
  [83, 69, 81, 40, 97, 58, 116, 41, 32, 87, 73, 84, 72, 73, 78, 32, 53, 32, 65, 78, 89, 32, 66, 89, 32, 105, 100],
  [83, 69, 81, 40, 97, 58, 116, 91, 40, 49, 32, 43, 32, 50, 93, 41, 32, 87, 73, 84, 72, 73, 78, 32, 53],
  [83, 69, 81, 40, 97, 58, 116, 91, 40, 97, 46, 120, 32, 65, 78, 68, 41, 93, 41, 32, 87, 73, 84, 72, 73, 78, 32, 53]]
def is10 : Except Nat Pa → Bool
  | .error e => Nat.beq e 10
  | .ok _ => false
theorem wrong_all : wrongL.all (fun s => is10 (parsePaE s)) = true := by kernel_rfl
theorem wrong_is {s : List UInt8} (h : s ∈ wrongL) : parsePaE s = .error 10 := by
  have h1 := List.all_eq_true.1 wrong_all s h
  unfold is10 at h1
  split at h1
  · rename_i e he; rw [he, Nat.eq_of_beq_eq_true h1]
  · cases h1

theorem eqF9 {a b : List UInt8} (e : a = b) (h : ((S a).toList == (S b).toList) = false) : False := by rw [strEq, decide_eq_true e] at h; cases h
set_option maxRecDepth 100000 in
set_option maxHeartbeats 4000000 in
theorem known9_call : PCall Tryz.prog 7 [] (bV true) := by
  have f0 := parsepattern_call k9s0 (by decide)
  have f1 := parsepattern_call k9s1 (by decide)
  have f2 := parsepattern_call k9s2 (by decide)
  have f3 := parseexpr_call k9s3 (by decide)
  have f4 := parseexpr_call k9s4 (by decide)
  rw [k9_0] at f0
  rw [k9_1] at f1
  rw [k9_2] at f2
  rw [k9_3] at f3
  rw [k9_4] at f4
  refine scall_of (live := []) (ords := [(6, [])]) Tryz.func7 rfl (by kernel_rfl) (by kernel_rfl) (Nat.le_of_ble_eq_true rfl) ?_
  (conv => arg 2; whnf); refine wp_pcall f0 ?_
  (conv => arg 2; whnf); refine wp_allocE pZ rfl fun a => ?_
  (conv => arg 2; whnf); refine wp_storeE (cs := pZ) 0 0 (paC k9p) rfl rfl (VleL.refl _) (Nat.le_refl _) rfl (R' := [.obj a (paC k9p)]) rfl ?_
  (conv => arg 2; whnf); refine wp_pcall f1 ?_
  (conv => arg 2; whnf); refine wp_allocE pZ rfl fun b => ?_
  (conv => arg 2; whnf); refine wp_storeE (cs := pZ) 1 0 (paC pa0) rfl rfl (VleL.refl _) (Nat.le_refl _) rfl (R' := [.obj a (paC k9p), .obj b (paC pa0)]) rfl ?_
  (conv => arg 2; whnf); refine wp_pcall f2 ?_
  (conv => arg 2; whnf); refine wp_allocE pZ rfl fun c => ?_
  (conv => arg 2; whnf); refine wp_storeE (cs := pZ) 2 0 (paC pa0) rfl rfl (VleL.refl _) (Nat.le_refl _) rfl (R' := [.obj a (paC k9p), .obj b (paC pa0), .obj c (paC pa0)]) rfl ?_
  (conv => arg 2; whnf); refine wp_pcall f3 ?_
  (conv => arg 2; whnf); refine wp_allocE exZ rfl fun d => ?_
  (conv => arg 2; whnf); refine wp_storeE (cs := exZ) 3 0 (exC k9n) rfl rfl (VleL.refl _) (Nat.le_refl _) rfl (R' := [.obj a (paC k9p), .obj b (paC pa0), .obj c (paC pa0), .obj d (exC k9n)]) rfl ?_
  (conv => arg 2; whnf); refine wp_pcall f4 ?_
  (conv => arg 2; whnf); refine wp_allocE exZ rfl fun e => ?_
  (conv => arg 2; whnf); refine wp_storeE (cs := exZ) 4 0 (exC ex0) rfl rfl (VleL.refl _) (Nat.le_refl _) rfl (R' := [.obj a (paC k9p), .obj b (paC pa0), .obj c (paC pa0), .obj d (exC k9n), .obj e (exC ex0)]) rfl ?_
  refine wp_cutR (frL [(1, .loc a 0), (2, .c (errV none)), (4, .c (errV (some 10))), (6, .c (errV (some 21))), (7, .loc d 0), (8, .c (errV none)), (10, .c (errV (some 12)))]) [.obj a (paC k9p), .obj d (exC k9n)] (.cons (.refl _) (.cons (.refl _) (.cons (.refl _) (.cons (.refl _) (.cons (.refl _) (.cons (.refl _) (.cons (.refl _) (.nil _)))))))) (by simp) ?_
  (repeat ((conv => arg 2; whnf); first | refine wp_ite (fun _ => ?_) (fun h => Bool.noConfusion h) | refine wp_ite (fun h => Bool.noConfusion h) (fun _ => ?_)))
  (conv => arg 2; whnf); refine wp_load (cs := paC k9p) 0 rfl rfl ?_
  (repeat ((conv => arg 2; whnf); first | refine wp_ite (fun _ => ?_) (fun h => Bool.noConfusion h) | refine wp_ite (fun h => Bool.noConfusion h) (fun _ => ?_)))
  (conv => arg 2; whnf); refine wp_load (cs := paC k9p) 0 rfl rfl ?_
  (conv => arg 2; whnf); refine wp_elem 0 (elV k9a) rfl rfl (Vle.refl _) ?_
  (repeat ((conv => arg 2; whnf); first | refine wp_ite (fun _ => ?_) (fun h => Bool.noConfusion h) | refine wp_ite (fun h => Bool.noConfusion h) (fun _ => ?_)))
  (conv => arg 2; whnf); refine wp_load (cs := paC k9p) 0 rfl rfl ?_
  (conv => arg 2; whnf); refine wp_elem 1 (elV k9b) rfl rfl (Vle.refl _) ?_
  (repeat ((conv => arg 2; whnf); first | refine wp_ite (fun _ => ?_) (fun h => Bool.noConfusion h) | refine wp_ite (fun h => Bool.noConfusion h) (fun _ => ?_)))
  (conv => arg 2; whnf); refine wp_load (cs := paC k9p) 0 rfl rfl ?_
  (conv => arg 2; whnf); refine wp_ite (fun _ => ?_) (fun h => (eqF9 (a := [105, 100]) (b := [105, 100]) rfl h).elim)
  (repeat ((conv => arg 2; whnf); first | refine wp_ite (fun _ => ?_) (fun h => Bool.noConfusion h) | refine wp_ite (fun h => Bool.noConfusion h) (fun _ => ?_)))
  (conv => arg 2; whnf); refine wp_load (cs := paC k9p) 0 rfl rfl ?_
  (repeat ((conv => arg 2; whnf); first | refine wp_ite (fun _ => ?_) (fun h => Bool.noConfusion h) | refine wp_ite (fun h => Bool.noConfusion h) (fun _ => ?_)))
  (conv => arg 2; whnf); refine wp_pcall (is_call (some 10) 10) ?_
  (repeat ((conv => arg 2; whnf); first | refine wp_ite (fun _ => ?_) (fun h => Bool.noConfusion h) | refine wp_ite (fun h => Bool.noConfusion h) (fun _ => ?_)))
  (conv => arg 2; whnf); refine wp_pcall (is_call (some 21) 21) ?_
  (repeat ((conv => arg 2; whnf); first | refine wp_ite (fun _ => ?_) (fun h => Bool.noConfusion h) | refine wp_ite (fun h => Bool.noConfusion h) (fun _ => ?_)))
  (conv => arg 2; whnf); refine wp_load (cs := exC k9n) 1 rfl rfl ?_
  (repeat ((conv => arg 2; whnf); first | refine wp_ite (fun _ => ?_) (fun h => Bool.noConfusion h) | refine wp_ite (fun h => Bool.noConfusion h) (fun _ => ?_)))
  (conv => arg 2; whnf); refine wp_pcall (is_call (some 12) 12) ?_
  (conv => arg 2; whnf); refine w_ret1 rfl (Vle.refl _) (List.nil_sublist _) rfl

set_option maxRecDepth 100000 in
set_option maxHeartbeats 4000000 in
theorem parsewrong_call (u : UInt8) : PCall Tryz.prog 5 [.c (.int .u8 u.toNat)] (bV true) := by
  have h14 : u.toNat % 14 < 14 := Nat.mod_lt _ (by decide)
  obtain ⟨i, hi⟩ : ∃ i, i = u.toNat % 14 := ⟨_, rfl⟩
  rw [← hi] at h14
  have hr : ((u.toNat : Int).tmod 14) = (i : Int) := by rw [hi]; rfl
  have hm : wrongL.getD i [] ∈ wrongL := by
    match i, h14 with
    | 0, _ | 1, _ | 2, _ | 3, _ | 4, _ | 5, _ | 6, _ | 7, _ | 8, _ | 9, _ | 10, _ | 11, _ | 12, _ | 13, _ => simp [wrongL]
  have hl : (wrongL.getD i []).length < 2 ^ 40 := by
    match i, h14 with
    | 0, _ | 1, _ | 2, _ | 3, _ | 4, _ | 5, _ | 6, _ | 7, _ | 8, _ | 9, _ | 10, _ | 11, _ | 12, _ | 13, _ => decide
  have hv : ∀ z : Int, z = (i : Int) → (wrongL.map str).getD z.toNat .undef = str (wrongL.getD i []) := by
    rintro z rfl
    match i, h14 with
    | 0, _ | 1, _ | 2, _ | 3, _ | 4, _ | 5, _ | 6, _ | 7, _ | 8, _ | 9, _ | 10, _ | 11, _ | 12, _ | 13, _ => rfl
  have f0 := parsepattern_call (wrongL.getD i []) hl
  rw [wrong_is hm] at f0
  refine scall_of (live := []) (ords := [(4, [])]) Tryz.func5 rfl (by kernel_rfl) (by kernel_rfl) (Nat.le_of_ble_eq_true rfl) ?_
  (conv => arg 2; whnf); refine wp_pcall known9_call ?_
  (repeat ((conv => arg 2; whnf); first | refine wp_ite (fun _ => ?_) (fun h => Bool.noConfusion h) | refine wp_ite (fun h => Bool.noConfusion h) (fun _ => ?_)))
  have h0 : 0 ≤ (u.toNat : Int).tmod 14 ∧ (u.toNat : Int).tmod 14 < 14 := by rw [hr]; omega
  (conv => arg 2; whnf); refine wp_need ⟨h0.1, h0.2, Nat.le_of_ble_eq_true rfl⟩ ?_
  (conv => arg 2; whnf); refine wp_cutR (frL [(3, str (wrongL.getD i []))]) [] (.cons (Vle.eq (hv _ hr)) (.nil _)) (List.nil_sublist _) ?_
  (conv => arg 2; whnf); refine wp_pcall f0 ?_
  (conv => arg 2; whnf); refine wp_allocE pZ rfl fun a => ?_
  (conv => arg 2; whnf); refine wp_storeE (cs := pZ) 0 0 (paC pa0) rfl rfl (VleL.refl _) (Nat.le_refl _) rfl (R' := [.obj a (paC pa0)]) rfl ?_
  (conv => arg 2; whnf); refine wp_pcall (is_call (some 10) 10) ?_
  (repeat ((conv => arg 2; whnf); first | refine wp_ite (fun _ => ?_) (fun h => Bool.noConfusion h) | refine wp_ite (fun h => Bool.noConfusion h) (fun _ => ?_)))
  (conv => arg 2; whnf); refine wp_load (cs := paC pa0) 0 rfl rfl ?_
  (conv => arg 2; whnf); refine w_ret1 rfl (Vle.refl _) (List.nil_sublist _) rfl
end Go.Sv
/- pasternlaw9: deep conditions. -/
namespace Go.Sv
open Go Go.Proofs

def dpS (w : Bool) : Nat → List UInt8
  | 0 => [49]
  | j + 1 => if w then [40] ++ dpS w j ++ [32, 43, 32] ++ dpS w j ++ [41] else [40] ++ dpS w j ++ [32, 43, 32, 49, 41]
def dpN (w : Bool) : Nat → Nat
  | 0 => 1
  | j + 1 => if w then 2 * dpN w j + 1 else dpN w j + 2
def dpP (w : Bool) (j : Nat) : List UInt8 := [83, 69, 81, 40, 97, 58, 116, 91] ++ dpS w j ++ [93, 41, 32, 87, 73, 84, 72, 73, 78, 32, 49]
def isOkE {α : Type} : Except Nat α → Bool
  | .error _ => false
  | .ok _ => true
def is12 {α : Type} : Except Nat α → Bool
  | .error e => Nat.beq e 12
  | .ok _ => false
def dpOk (w : Bool) (j : Nat) : Bool := Nat.ble (j + 1) 5 && Nat.ble (dpN w j) 24
def dpChk (w : Bool) (j : Nat) : Bool :=
  Nat.ble (dpS w j).length 600 && Nat.ble (dpN w j) 200 && (if dpOk w j then isOkE (parseExE (dpS w j)) && isOkE (parsePaE (dpP w j)) else is12 (parseExE (dpS w j)) && is12 (parsePaE (dpP w j)))
theorem dp_all1 : (List.range 7).all (dpChk true) = true := by kernel_rfl
theorem dp_all2 : (List.range 7).all (dpChk false) = true := by kernel_rfl
theorem dp_at {w : Bool} {j : Nat} (h : j < 7) : dpChk w j = true := by
  cases w with
  | true => exact List.all_eq_true.1 dp_all1 j (List.mem_range.2 h)
  | false => exact List.all_eq_true.1 dp_all2 j (List.mem_range.2 h)
theorem dp_len {w : Bool} {j : Nat} (h : j < 7) : (dpS w j).length ≤ 600 ∧ dpN w j ≤ 200 := by
  have h1 := dp_at (w := w) h
  simp only [dpChk, Bool.and_eq_true] at h1
  exact ⟨Nat.le_of_ble_eq_true h1.1.1, Nat.le_of_ble_eq_true h1.1.2⟩
theorem dp_yes {w : Bool} {j : Nat} (h : j < 7) (hk : dpOk w j = true) : (∃ x, parseExE (dpS w j) = .ok x) ∧ ∃ p, parsePaE (dpP w j) = .ok p := by
  have h1 := dp_at (w := w) h
  simp only [dpChk, Bool.and_eq_true, hk, if_true] at h1
  obtain ⟨_, h2, h3⟩ := h1
  constructor
  · unfold isOkE at h2; split at h2
    · cases h2
    · exact ⟨_, by assumption⟩
  · unfold isOkE at h3; split at h3
    · cases h3
    · exact ⟨_, by assumption⟩
theorem dp_no {w : Bool} {j : Nat} (h : j < 7) (hk : dpOk w j = false) : parseExE (dpS w j) = .error 12 ∧ parsePaE (dpP w j) = .error 12 := by
  have h1 := dp_at (w := w) h
  rw [dpChk, hk, if_neg (by decide)] at h1
  simp only [Bool.and_eq_true] at h1
  obtain ⟨_, h2, h3⟩ := h1
  constructor
  · unfold is12 at h2; split at h2
    · rename_i e he; rw [he, Nat.eq_of_beq_eq_true h2]
    · cases h2
  · unfold is12 at h3; split at h3
    · rename_i e he; rw [he, Nat.eq_of_beq_eq_true h3]
    · cases h3
theorem dp_b {w : Bool} {j : Nat} : dpOk w j = (decide (((j + 1 : Nat) : Int) ≤ 5) && decide ((dpN w j : Int) ≤ 24)) := by
  rw [dpOk, Bool.eq_iff_iff, Bool.and_eq_true, Bool.and_eq_true, decide_eq_true_eq, decide_eq_true_eq, Nat.ble_eq, Nat.ble_eq]
  omega

theorem Vle.viaD {v a b : V} (h : a = b) (hv : v = a) : Vle v b := Vle.eq (hv.trans h)
set_option maxRecDepth 100000 in
set_option maxHeartbeats 4000000 in
theorem parsedeep_call (u : UInt8) (w : Bool) : PCall Tryz.prog 4 [.c (.int .u8 u.toNat), bV w] (bV true) := by
  obtain ⟨k, hk⟩ : ∃ k, k = u.toNat % 7 := ⟨_, rfl⟩
  have hk7 : k < 7 := by rw [hk]; exact Nat.mod_lt _ (by decide)
  have hr : ((u.toNat : Int).tmod 7) = (k : Int) := by rw [hk]; rfl
  have hv : ∀ z : Int, z = (k : Int) → V.c (.int .i64 (IntKind.i64.wrap (IntKind.i64.wrap z + 1))) = i64V ((k + 1 : Nat) : Int) := by
    rintro z rfl
    have a := w_i64_small (n := (k : Int)) (by omega) (by omega)
    rw [a, w_i64_small (by omega) (by omega)]; rfl
  refine scall_of (live := []) (ords := [(4, []), (11, [])]) Tryz.func4 rfl (by kernel_rfl) (by kernel_rfl) (Nat.le_of_ble_eq_true rfl) ?_
  (conv => arg 2; whnf); refine wp_pcall known9_call ?_
  (repeat ((conv => arg 2; whnf); first | refine wp_ite (fun _ => ?_) (fun h => Bool.noConfusion h) | refine wp_ite (fun h => Bool.noConfusion h) (fun _ => ?_)))
  (conv => arg 2; whnf)
  refine wp_cutR (frL [(1, bV w), (5, i64V ((k + 1 : Nat) : Int))]) [] (.cons (.refl _) (.cons (Vle.eq (hv _ hr)) (.nil _))) (List.nil_sublist _) ?_
  (conv => arg 2; whnf); refine wp_loop (fun m fr R => ∃ j : Nat, m = k - j ∧ j ≤ k ∧ R = [] ∧ fr = frL [(1, bV w), (5, i64V ((k + 1 : Nat) : Int)), (6, str (dpS w j)), (7, i64V (dpN w j)), (8, i64V ((j + 1 : Nat) : Int))])
    k _ _ (.cons (.refl _) (.cons (.refl _) (.cons (.refl _) (.cons (.refl _) (.cons (.refl _) (.nil _)))))) (List.nil_sublist _) ⟨0, rfl, Nat.zero_le _, rfl, rfl⟩ ?_
  rintro m fr R ⟨j, rfl, hj, rfl, rfl⟩
  obtain ⟨hl, hn⟩ := dp_len (w := w) (j := j) (by omega)
  (conv => arg 2; whnf); refine wp_ite (fun h => ?_) (fun h => ?_)
  · have h : j < k := by have := of_decide_eq_true h; omega
    have e8 : IntKind.i64.wrap (((j + 1 : Nat) : Int) + 1) = ((j + 1 + 1 : Nat) : Int) := by rw [w_i64_small (by omega) (by omega)]; rfl
    cases w with
    | true =>
      have e6 : V.c (.string (((((S [40] ++ S (dpS true j)) ++ S [32, 43, 32]) ++ S (dpS true j)) ++ S [41]))) = str (dpS true (j + 1)) := by simp only [S_append]; rfl
      have e7 : IntKind.i64.wrap (IntKind.i64.wrap (2 * (dpN true j : Int)) + 1) = (dpN true (j + 1) : Int) := by
        have a := w_i64_small (n := 2 * (dpN true j : Int)) (by omega) (by omega)
        rw [a, w_i64_small (by omega) (by omega), dpN, if_pos rfl]; omega
      have g1 : (S [40]).size + (S (dpS true j)).size ≤ 4611686018427387904 := by rw [S_size, S_size]; simp only [List.length_cons, List.length_nil]; omega
      have g2 : (S [40] ++ S (dpS true j)).size + (S [32, 43, 32]).size ≤ 4611686018427387904 := by simp only [S_append, S_size, List.length_append, List.length_cons, List.length_nil]; omega
      have g3 : ((S [40] ++ S (dpS true j)) ++ S [32, 43, 32]).size + (S (dpS true j)).size ≤ 4611686018427387904 := by simp only [S_append, S_size, List.length_append, List.length_cons, List.length_nil]; omega
      have g4 : (((S [40] ++ S (dpS true j)) ++ S [32, 43, 32]) ++ S (dpS true j)).size + (S [41]).size ≤ 4611686018427387904 := by simp only [S_append, S_size, List.length_append, List.length_cons, List.length_nil]; omega
      (repeat ((conv => arg 2; whnf); first | refine wp_ite (fun _ => ?_) (fun h => Bool.noConfusion h) | refine wp_ite (fun h => Bool.noConfusion h) (fun _ => ?_)))
      (conv => arg 2; whnf); refine wp_need g1 ?_
      (conv => arg 2; whnf); refine wp_need g2 ?_
      (conv => arg 2; whnf); refine wp_need g3 ?_
      (conv => arg 2; whnf); refine wp_need g4 ?_
      (conv => arg 2; whnf)
      exact wp_leaf (loop_next (k - (j + 1)) _ _ (by omega) (.cons (.refl _) (.cons (.refl _) (.cons (Vle.viaD e6 rfl) (.cons (Vle.viaD (cI64 e7) rfl) (.cons (Vle.viaD (cI64 e8) rfl) (.nil _)))))) (List.Sublist.refl _) ⟨j + 1, rfl, by omega, rfl, rfl⟩)
    | false =>
      have e6 : V.c (.string ((S [40] ++ S (dpS false j)) ++ S [32, 43, 32, 49, 41])) = str (dpS false (j + 1)) := by simp only [S_append]; rfl
      have e7 : IntKind.i64.wrap ((dpN false j : Int) + 2) = (dpN false (j + 1) : Int) := by
        rw [w_i64_small (by omega) (by omega), dpN, if_neg (by decide)]; omega
      have g1 : (S [40]).size + (S (dpS false j)).size ≤ 4611686018427387904 := by rw [S_size, S_size]; simp only [List.length_cons, List.length_nil]; omega
      have g2 : (S [40] ++ S (dpS false j)).size + (S [32, 43, 32, 49, 41]).size ≤ 4611686018427387904 := by simp only [S_append, S_size, List.length_append, List.length_cons, List.length_nil]; omega
      (repeat ((conv => arg 2; whnf); first | refine wp_ite (fun _ => ?_) (fun h => Bool.noConfusion h) | refine wp_ite (fun h => Bool.noConfusion h) (fun _ => ?_)))
      (conv => arg 2; whnf); refine wp_need g1 ?_
      (conv => arg 2; whnf); refine wp_need g2 ?_
      (conv => arg 2; whnf)
      exact wp_leaf (loop_next (k - (j + 1)) _ _ (by omega) (.cons (.refl _) (.cons (.refl _) (.cons (Vle.viaD e6 rfl) (.cons (Vle.viaD (cI64 e7) rfl) (.cons (Vle.viaD (cI64 e8) rfl) (.nil _)))))) (List.Sublist.refl _) ⟨j + 1, rfl, by omega, rfl, rfl⟩)
  have h : k = j := by have := of_decide_eq_false h; omega
  subst h
  have f1 := parseexpr_call (dpS w k) (by omega)
  have f2 := parsepattern_call (dpP w k) (by simp only [dpP, List.length_append, List.length_cons, List.length_nil]; omega)
  have ep : V.c (.string ((S [83, 69, 81, 40, 97, 58, 116, 91] ++ S (dpS w k)) ++ S [93, 41, 32, 87, 73, 84, 72, 73, 78, 32, 49])) = str (dpP w k) := by simp only [S_append]; rfl
  have g1 : (S [83, 69, 81, 40, 97, 58, 116, 91]).size + (S (dpS w k)).size ≤ 4611686018427387904 := by rw [S_size, S_size]; simp only [List.length_cons, List.length_nil]; omega
  have g2 : (S [83, 69, 81, 40, 97, 58, 116, 91] ++ S (dpS w k)).size + (S [93, 41, 32, 87, 73, 84, 72, 73, 78, 32, 49]).size ≤ 4611686018427387904 := by simp only [S_append, S_size, List.length_append, List.length_cons, List.length_nil]; omega
  (conv => arg 2; whnf)
  refine wp_leaf (loop_exit ?_)
  refine wp_cutR (frL [(5, i64V ((k + 1 : Nat) : Int)), (6, str (dpS w k)), (7, i64V (dpN w k))]) [] (.cons (.refl _) (.cons (.refl _) (.cons (.refl _) (.nil _)))) (List.nil_sublist _) ?_
  cases hb : dpOk w k with
  | true =>
    obtain ⟨⟨x, hx⟩, p, hp⟩ := dp_yes hk7 hb
    rw [dp_b, Bool.and_eq_true] at hb
    rw [hx] at f1
    rw [hp] at f2
    (conv => arg 2; whnf); refine wp_pcall f1 ?_
    (conv => arg 2; whnf); refine wp_allocE exZ rfl fun a => ?_
    (conv => arg 2; whnf); refine wp_storeE (cs := exZ) 0 0 (exC x) rfl rfl (VleL.refl _) (Nat.le_refl _) rfl (R' := [.obj a (exC x)]) rfl ?_
    (conv => arg 2; whnf); refine wp_need g1 ?_
    (conv => arg 2; whnf); refine wp_need g2 ?_
    (conv => arg 2; whnf); refine wp_pcallV (.cons (Vle.viaD ep rfl) .nil) f2 ?_
    (conv => arg 2; whnf); refine wp_allocE pZ rfl fun c => ?_
    (conv => arg 2; whnf); refine wp_storeE (cs := pZ) 1 0 (paC p) rfl rfl (VleL.refl _) (Nat.le_refl _) rfl (R' := [.obj a (exC x), .obj c (paC p)]) rfl ?_
    (conv => arg 2; whnf); refine wp_ite (fun _ => ?_) (fun h => Bool.noConfusion (hb.1.symm.trans h))
    (conv => arg 2; whnf); refine wp_ite (fun _ => ?_) (fun h => Bool.noConfusion (hb.2.symm.trans h))
    (repeat ((conv => arg 2; whnf); first | refine wp_ite (fun _ => ?_) (fun h => Bool.noConfusion h) | refine wp_ite (fun h => Bool.noConfusion h) (fun _ => ?_)))
    (conv => arg 2; whnf); refine w_ret1 rfl (Vle.refl _) (List.nil_sublist _) rfl
  | false =>
    obtain ⟨hx, hp⟩ := dp_no hk7 hb
    rw [dp_b] at hb
    rw [hx] at f1
    rw [hp] at f2
    (conv => arg 2; whnf); refine wp_pcall f1 ?_
    (conv => arg 2; whnf); refine wp_allocE exZ rfl fun a => ?_
    (conv => arg 2; whnf); refine wp_storeE (cs := exZ) 0 0 (exC ex0) rfl rfl (VleL.refl _) (Nat.le_refl _) rfl (R' := [.obj a (exC ex0)]) rfl ?_
    (conv => arg 2; whnf); refine wp_need g1 ?_
    (conv => arg 2; whnf); refine wp_need g2 ?_
    (conv => arg 2; whnf); refine wp_pcallV (.cons (Vle.viaD ep rfl) .nil) f2 ?_
    (conv => arg 2; whnf); refine wp_allocE pZ rfl fun c => ?_
    (conv => arg 2; whnf); refine wp_storeE (cs := pZ) 1 0 (paC pa0) rfl rfl (VleL.refl _) (Nat.le_refl _) rfl (R' := [.obj a (exC ex0), .obj c (paC pa0)]) rfl ?_
    (conv => arg 2; whnf); refine wp_ite (fun h1 => ?_) (fun h1 => ?_)
    · have h2 : decide ((dpN w k : Int) ≤ 24) = false := by
        have h1 : decide (((k + 1 : Nat) : Int) ≤ 5) = true := h1
        rw [h1] at hb; exact hb
      (conv => arg 2; whnf); refine wp_ite (fun h => Bool.noConfusion (h2.symm.trans h)) (fun _ => ?_)
      (conv => arg 2; whnf); refine wp_pcall (is_call (some 12) 12) ?_
      (repeat ((conv => arg 2; whnf); first | refine wp_ite (fun _ => ?_) (fun h => Bool.noConfusion h) | refine wp_ite (fun h => Bool.noConfusion h) (fun _ => ?_)))
      (conv => arg 2; whnf); refine wp_pcall (is_call (some 12) 12) ?_
      (conv => arg 2; whnf); refine w_ret1 rfl (Vle.refl _) (List.nil_sublist _) rfl
    · (repeat ((conv => arg 2; whnf); first | refine wp_ite (fun _ => ?_) (fun h => Bool.noConfusion h) | refine wp_ite (fun h => Bool.noConfusion h) (fun _ => ?_)))
      (conv => arg 2; whnf); refine wp_pcall (is_call (some 12) 12) ?_
      (repeat ((conv => arg 2; whnf); first | refine wp_ite (fun _ => ?_) (fun h => Bool.noConfusion h) | refine wp_ite (fun h => Bool.noConfusion h) (fun _ => ?_)))
      (conv => arg 2; whnf); refine wp_pcall (is_call (some 12) 12) ?_
      (conv => arg 2; whnf); refine w_ret1 rfl (Vle.refl _) (List.nil_sublist _) rfl
end Go.Sv
