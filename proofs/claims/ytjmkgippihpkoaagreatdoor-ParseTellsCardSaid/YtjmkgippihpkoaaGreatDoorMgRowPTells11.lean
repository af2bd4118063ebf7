/- Parts of the proof, one behind the other. -/
import Derived.Test.YtjmkgippihpkoaaGreatDoorMgRowPTells10
import Derived.Test.YtjmkgippihpkoaaGreatDoorMgRowPTells8
import Derived.Test.YtjmkgippihpkoaaGreatDoorMgRowPTells5
/- The program's parser: a pattern. -/
namespace Go.Sv
open Go Go.Proofs

theorem Sim.other {α : Type} {r : Got α} {x y : α} {l l' : List Wd} {m n n' : Nat} (h : Sim r x l (some m) n) : Sim r y l' (some m) n' := ⟨fun h => (by cases h), h.2⟩
theorem Sim.pass {α : Type} {r : Got α} {e : Option Nat} {x : α} {l : List Wd} {e' : Option Nat} {n : Nat} (h : Sim (startE e r) x l e' n) : ∀ m, e = some m → e' = some m := fun m hm => by
  subst hm
  cases e' with
  | none => have := h.1 rfl; cases this
  | some k => have := h.2 k rfl; cases this; rfl

structure ElInv (s : List UInt8) (r0 : Got (List El)) (m : Nat) (acc : List El) (l : List Wd) (e : Option Nat) (n : Nat) (L0 : List Wd) : Prop where
  ok : e = none → r0 = elemsE s m acc l n ∧ l.length ≤ m ∧ l <:+ L0 ∧ acc.length + l.length ≤ 501
  er : ∀ k, e = some k → r0 = .error k
theorem ElInv.step {s : List UInt8} {r0 : Got (List El)} {m : Nat} {acc : List El} {l : List Wd} {n : Nat} {L0 : List Wd} (h : ElInv s r0 m acc l none n L0) (hL : AllOk s.length L0) (hb : isP l none 5 [44] = true) :
    AllOk s.length l.tail ∧ l.tail.length ≤ 2 ^ 30 ∧ 0 < m ∧ acc.length + 1 ≤ 502 ∧ ∀ x l1 e1 n1, Sim (startE none (elemE s l.tail n)) x l1 e1 n1 → ElInv s r0 (m - 1) (acc ++ [x]) l1 e1 n1 L0 := by
  obtain ⟨h1, h2, h3, h4⟩ := h.ok rfl
  obtain ⟨w, r, rfl⟩ := isP_cons hb
  rw [isP_hdT (by decide)] at hb
  rw [List.length_cons] at h2 h4
  obtain ⟨k, rfl⟩ : ∃ k, m = k + 1 := ⟨m - 1, by omega⟩
  rw [elemsE, if_pos hb] at h1
  have ht : AllOk s.length r := (hL.suf h3).tail
  refine ⟨ht, by show r.length ≤ _; omega, by omega, by omega, fun x l1 e1 n1 hS => ⟨fun he => ?_, fun q hq => ?_⟩⟩
  · have hr := hS.1 he
    obtain ⟨_, a2, a3⟩ := elemE_ok ht hr
    have a4 := suf_len a2
    refine ⟨?_, by show l1.length ≤ k; omega, a2.trans ((List.suffix_cons w r).trans h3), ?_⟩
    · rw [h1, show elemE s (w :: r).tail n = .ok (x, l1, n1) from hr, thenE_o]; rfl
    · rw [List.length_append, List.length_singleton]; omega
  · have hr := hS.2 q hq
    rw [h1, show elemE s (w :: r).tail n = .error q from hr, thenE_e]
theorem ElInv.fin {s : List UInt8} {r0 : Got (List El)} {m : Nat} {acc : List El} {l : List Wd} {e : Option Nat} {n : Nat} {L0 : List Wd} (h : ElInv s r0 m acc l e n L0) (hb : isP l e 5 [44] = false) : Sim r0 acc l e n := by
  refine ⟨fun he => ?_, h.er⟩
  subst he
  rw [isP_hdT (by decide)] at hb
  rw [(h.ok rfl).1]
  cases m with
  | zero => rfl
  | succ k => rw [elemsE, hb]; rfl

/-- What a pattern's walk comes to. -/
theorem pat_sim {s : List UInt8} {l l1 l2 l3 l4 l5 l6 l8 l9 l10 : List Wd} {e1 e2 e3 e4 e5 e6 e8 e9 : Option Nat} {n3 n4 : Nat} {x0 : El} {els : List El} {wn : Int} {bt : List UInt8} {a10 : Bool}
    (hl1 : l1 = mayL l none 4 seq3) (he1 : e1 = mustX l none 4 seq3) (hl2 : l2 = mayL l1 e1 5 [40]) (he2 : e2 = mustX l1 e1 5 [40]) (hE : Sim (startE e2 (elemE s l2 0)) x0 l3 e3 n3)
    (hEs : Sim (startE e3 (elemsE s l3.length [x0] l3 n3)) els l4 e4 n4) (hl5 : l5 = mayL l4 e4 5 [41]) (he5 : e5 = mustX l4 e4 5 [41]) (hl6 : l6 = mayL l5 e5 4 within6) (he6 : e6 = mustX l5 e5 4 within6)
    (h8 : ∀ m, e6 = some m → e8 = some m) (hW : e6 = none → Sim (withinE s l6 n4) wn l8 e8 n4) (h9 : ∀ m, e8 = some m → e9 = some m) (hB : e8 = none → Sim (byE l8 n4) bt l9 e9 n4)
    (ha : a10 = isP l9 e9 4 any3) (hl10 : l10 = mayL l9 e9 4 any3) : Sim (patE s l 0) ⟨els, wn, bt, a10⟩ l10 e9 n4 := by
  have x6 : ∀ m, e5 = some m → e6 = some m := fun m hm => by rw [he6, hm, mustX_some]
  have x5 : ∀ m, e4 = some m → e5 = some m := fun m hm => by rw [he5, hm, mustX_some]
  have x4 := hEs.pass
  have x3 := hE.pass
  have x2 : ∀ m, e1 = some m → e2 = some m := fun m hm => by rw [he2, hm, mustX_some]
  unfold patE
  refine Sim.bind (x := ()) (l := l1) (e := e1) (n := 0) (by rw [hl1, he1]; exact sim_must (by decide)) (fun m hm => h9 m (h8 m (x6 m (x5 m (x4 m (x3 m (x2 m hm))))))) fun h => ?_
  subst h
  refine Sim.bind (x := ()) (l := l2) (e := e2) (n := 0) (by rw [hl2, he2]; exact sim_must (by decide)) (fun m hm => h9 m (h8 m (x6 m (x5 m (x4 m (x3 m hm)))))) fun h => ?_
  subst h
  refine Sim.bind hE (fun m hm => h9 m (h8 m (x6 m (x5 m (x4 m hm))))) fun h => ?_
  subst h
  refine Sim.bind hEs (fun m hm => h9 m (h8 m (x6 m (x5 m hm)))) fun h => ?_
  subst h
  refine Sim.bind (x := ()) (l := l5) (e := e5) (n := n4) (by rw [hl5, he5]; exact sim_must (by decide)) (fun m hm => h9 m (h8 m (x6 m hm))) fun h => ?_
  subst h
  refine Sim.bind (x := ()) (l := l6) (e := e6) (n := n4) (by rw [hl6, he6]; exact sim_must (by decide)) (fun m hm => h9 m (h8 m hm)) fun h => ?_
  subst h
  refine Sim.bind (hW rfl) h9 fun h => ?_
  subst h
  refine Sim.bind (hB rfl) (fun m hm => hm) fun h => ?_
  subst h
  rw [ha, hl10, isP_hdT (by decide), optT_may (by decide)]
  exact Sim.ok

def plE (s : List UInt8) (l : List Wd) (e : Option Nat) : Option Nat := if plainP s l e then e else failE e 10
theorem plE_pass {s : List UInt8} {l : List Wd} {e : Option Nat} : ∀ m, e = some m → mustX l (plE s l e) 2 [] = some m := fun m hm => by
  subst hm
  rw [plE, plainP_some, if_neg (by decide), show failE (some m) 10 = some m from rfl, mustX_some]
theorem within_ok {s : List UInt8} {l : List Wd} {e : Option Nat} {n : Nat} (h0 : ¬ (takeW l (plE s l e) 2).n < 0) (h1 : ¬ (takeW l (plE s l e) 2).n > 1000) (he : e = none) : Sim (withinE s l n) (takeW l (plE s l e) 2).n (mayL l (plE s l e) 2 []) (mustX l (plE s l e) 2 []) n := by
  subst he
  cases hp : plainP s l none with
  | true =>
    rw [plE, hp, if_pos rfl] at h0 h1 ⊢
    rw [plainP_none] at hp
    have hk : isP l none 2 [] = true := by rw [isP_hdK]; exact (Bool.and_eq_true _ _ ▸ hp).1
    rw [takeW, if_pos hk] at h0 h1 ⊢
    rw [mayL, mustX, if_pos hk, if_pos hk]
    have hpl : plainW s (l.headD wd0) = true := (Bool.and_eq_true _ _ ▸ hp).2
    rw [withinE, show hdK 2 l = true from hk, hpl, decide_eq_true (show 0 ≤ (l.headD wd0).n by omega), decide_eq_true (show (l.headD wd0).n ≤ 1000 by omega)]
    exact Sim.ok
  | false =>
    rw [plE, hp, if_neg (by decide), show failE none 10 = some 10 from rfl, mustX_some]
    rw [plainP_none] at hp
    have : withinE s l n = .error 10 := by
      rw [withinE]
      cases hk : hdK 2 l with
      | false => rfl
      | true =>
        rw [hk] at hp
        have hp : plainW s (l.headD wd0) = false := hp
        rw [hp]; rfl
    rw [this]
    exact Sim.err
theorem within_bad {s : List UInt8} {l : List Wd} {e : Option Nat} {n : Nat} (h : (takeW l (plE s l e) 2).n < 0 ∨ (takeW l (plE s l e) 2).n > 1000) : e = none ∧ plainP s l e = true ∧ mustX l (plE s l e) 2 [] = none ∧ withinE s l n = .error 10 := by
  have h0 : wd0.n = 0 := rfl
  cases e with
  | some m =>
    rw [plE, plainP_some, if_neg (by decide), show failE (some m) 10 = some m from rfl, takeW, isP_some, if_neg (by decide), h0] at h
    omega
  | none =>
    cases hp : plainP s l none with
    | false =>
      rw [plE, hp, if_neg (by decide), show failE none 10 = some 10 from rfl, takeW, isP_some, if_neg (by decide), h0] at h
      omega
    | true =>
      rw [plE, hp, if_pos rfl] at h ⊢
      rw [plainP_none] at hp
      have hk : isP l none 2 [] = true := by rw [isP_hdK]; exact (Bool.and_eq_true _ _ ▸ hp).1
      rw [takeW, if_pos hk] at h
      refine ⟨rfl, rfl, by rw [mustX, if_pos hk], ?_⟩
      rw [withinE, if_neg]
      simp only [Bool.and_eq_true, decide_eq_true_eq]
      omega
theorem by_yes {l : List Wd} {e : Option Nat} {n : Nat} (hk : isP l e 4 by2 = true) : e = none → Sim (byE l n) (takeW l.tail e 1).text (mayL l.tail e 1 []) (mustX l.tail e 1 []) n := by
  intro he
  subst he
  rw [isP_hdT (by decide)] at hk
  rw [byE, if_pos hk]
  exact Sim.bind sim_take (fun m hm => hm) fun h => by rw [h]; exact Sim.ok
theorem by_no {l : List Wd} {e : Option Nat} {n : Nat} (hk : isP l e 4 by2 = false) : e = none → Sim (byE l n) [] l e n := by
  intro he
  subst he
  rw [isP_hdT (by decide)] at hk
  rw [byE, hk]
  exact Sim.ok

theorem pat_bad {s : List UInt8} {l l1 l2 l3 l4 l5 l6 l8 : List Wd} {e1 e2 e3 e4 e5 e6 e8 : Option Nat} {n3 n4 n' : Nat} {x0 : El} {els : List El} {p : Pa}
    (hl1 : l1 = mayL l none 4 seq3) (he1 : e1 = mustX l none 4 seq3) (hl2 : l2 = mayL l1 e1 5 [40]) (he2 : e2 = mustX l1 e1 5 [40]) (hE : Sim (startE e2 (elemE s l2 0)) x0 l3 e3 n3)
    (hEs : Sim (startE e3 (elemsE s l3.length [x0] l3 n3)) els l4 e4 n4) (hl5 : l5 = mayL l4 e4 5 [41]) (he5 : e5 = mustX l4 e4 5 [41]) (hl6 : l6 = mayL l5 e5 4 within6) (he6 : e6 = mustX l5 e5 4 within6)
    (h : e6 = none) (h8 : e8 = none) (hw : withinE s l6 n4 = .error 10) : Sim (patE s l 0) p l8 (failE e8 10) n' := by
  rw [h8]
  refine Sim.other (pat_sim (wn := 0) (l8 := l8) (e8 := some 10) (bt := []) (l9 := l8) (e9 := some 10) hl1 he1 hl2 he2 hE hEs hl5 he5 hl6 he6 (fun m hm => ?_) (fun _ => ?_) (fun m hm => hm) (fun h => ?_) rfl rfl)
  · rw [h] at hm; cases hm
  · rw [hw]; exact Sim.err
  · cases h
/-- A pattern's cells while it is read. -/
def pZ : List V := [.sl none [] .zero, i64V 0, str [], bV false]
def psK (t : Nat) (els : List El) (w : Int) (bt : List UInt8) (a : Bool) : List V := [.sl (some 11) (els.map elV) (.t t), i64V w, str bt, bV a]
theorem psK_vle (t : Nat) (els : List El) (w : Int) (bt : List UInt8) (a : Bool) : VleL (psK t els w bt a) (paC ⟨els, w, bt, a⟩) := .cons (Vle.sl _ _ _) (VleL.refl _)
def pa0 : Pa := ⟨[], 0, [], false⟩
theorem pZ_vle : VleL pZ (paC pa0) := .cons (Vle.nil _ _ _) (VleL.refl _)
theorem one_el (x : El) : ∀ y ∈ [elV x], okE (some 11) y := fun y hy => by
  rw [List.mem_singleton.1 hy]
  exact ⟨elC x, rfl, rfl, fun c hc => List.all_eq_true.1 (show (elC x).all oneV = true from rfl) c hc⟩
theorem el_app (acc : List El) (x : El) (t : Nat) : V.sl (some 11) (acc.map elV ++ [elV x]) (.t t) = V.sl (some 11) ((acc ++ [x]).map elV) (.t t) := by rw [List.map_append]; rfl

set_option maxRecDepth 100000 in
theorem parsepat_call (b : Nat) (s : List UInt8) (hs : s.length < 2 ^ 40) (l : List Wd) (hl : AllOk s.length l) (hlen : l.length ≤ 500) : SCall Tryz.prog 19 [.loc b 0] [.obj b (prL s l none 0)] (GK paC b s (patE s l 0)) := by
  obtain ⟨l1, hl1⟩ : ∃ x, x = mayL l none 4 seq3 := ⟨_, rfl⟩
  obtain ⟨e1, he1⟩ : ∃ x, x = mustX l none 4 seq3 := ⟨_, rfl⟩
  have c1 := must_x b s l none 0 4 seq3
  rw [← hl1, ← he1] at c1
  obtain ⟨l2, hl2⟩ : ∃ x, x = mayL l1 e1 5 [40] := ⟨_, rfl⟩
  obtain ⟨e2, he2⟩ : ∃ x, x = mustX l1 e1 5 [40] := ⟨_, rfl⟩
  have c2 := must_x b s l1 e1 0 5 [40]
  rw [← hl2, ← he2] at c2
  have s2 : l2 <:+ l := by
    rw [hl2, hl1]
    exact (mayL_suf _ _ _ _).trans (mayL_suf _ _ _ _)
  have c3 := elem_call b s hs l2 e2 0 (hl.suf s2) (by have := suf_len s2; omega)
  have inv0 : ∀ x0 l3 e3 n3, Sim (startE e2 (elemE s l2 0)) x0 l3 e3 n3 → ElInv s (startE e3 (elemsE s l3.length [x0] l3 n3)) l3.length [x0] l3 e3 n3 l2 := by
    intro x0 l3 e3 n3 h
    refine ⟨fun he => ?_, fun k hk => by rw [hk]; rfl⟩
    subst he
    have h0 : e2 = none := by
      cases e2 with
      | none => rfl
      | some m => have := h.pass m rfl; cases this
    subst h0
    obtain ⟨_, a2, _⟩ := elemE_ok (hl.suf s2) (h.1 rfl)
    have a3 := suf_len a2
    have a4 := suf_len s2
    refine ⟨rfl, Nat.le_refl _, a2, ?_⟩
    rw [List.length_singleton]; omega
  have sEs : ∀ x0 l3 e3 n3 els l4 e4 n4, Sim (startE e2 (elemE s l2 0)) x0 l3 e3 n3 → Sim (startE e3 (elemsE s l3.length [x0] l3 n3)) els l4 e4 n4 → e4 = none → l4 <:+ l := by
    intro x0 l3 e3 n3 els l4 e4 n4 h h' he
    subst he
    have h3 : e3 = none := by
      cases e3 with
      | none => rfl
      | some m => have := h'.pass m rfl; cases this
    subst h3
    have h0 : e2 = none := by
      cases e2 with
      | none => rfl
      | some m => have := h.pass m rfl; cases this
    subst h0
    obtain ⟨a1, a2, _⟩ := elemE_ok (hl.suf s2) (h.1 rfl)
    have s3 := a2.trans s2
    obtain ⟨_, _, b3⟩ := elemsE_ok (K := 500) _ _ _ _ (hl.suf s3) (by have := suf_len s3; omega) (fun f hf => by
      rw [List.mem_singleton.1 hf]
      exact { a1 with tyk := Nat.le_trans a1.tyk (by have := suf_len s2; omega) }) (h'.1 rfl)
    exact b3.trans s3
  refine scall_of (live := [11, 16, 18, 1700000, 10001800000]) (ords := [(4, []), (6, [2, 0, 1, 3, 4, 5, 6, 7]), (7, []), (9, []), (11, []), (15, []), (18, [])]) Tryz.func19 rfl (by kernel_rfl) (by kernel_rfl) (Nat.le_of_ble_eq_true rfl) ?_
  (conv => arg 2; whnf); refine wp_allocE pZ rfl fun c => ?_
  (conv => arg 2; whnf); refine wp_allocD pZ rfl fun d hfr => ?_
  have hne : d ≠ b := fun e => hfr 0 b _ rfl (List.cons_ne_nil _ _) e.symm
  clear hfr
  (conv => arg 2; whnf); refine wp_callF [] [.obj b (prL s l none 0)] [.obj c pZ, .obj d pZ] rfl c1 ?_
  rintro v R1 ⟨rfl, rfl⟩
  (conv => arg 2; whnf); refine wp_callF [] [.obj b (prL s l1 e1 0)] [.obj c pZ, .obj d pZ] rfl c2 ?_
  rintro v R1 ⟨rfl, rfl⟩
  refine wp_cutR (frL [(0, .loc b 0), (2, .loc c 0), (3, .loc d 0)]) [.obj b (prL s l2 e2 0), .obj c pZ, .obj d pZ] (.cons (.refl _) (.cons (.refl _) (.cons (.refl _) (.nil _)))) (List.Sublist.refl _) ?_
  (conv => arg 2; whnf); refine wp_callF [] [.obj b (prL s l2 e2 0)] [.obj c pZ, .obj d pZ] rfl c3 ?_
  rintro v R1 ⟨x0, l3, e3, n3, rfl, rfl, hE⟩
  (conv => arg 2; whnf)
  intro t0
  (conv => arg 2; whnf); refine wp_storeE (cs := pZ) 2 0 [.sl (some 11) [elV x0] (.t t0)] rfl rfl (VleL.refl _) (Nat.le_of_ble_eq_true rfl) rfl (R' := [.obj b (prL s l3 e3 n3), .obj c pZ, .obj d (psK t0 [x0] 0 [] false), .tok t0 (some 11)]) rfl ?_
  (conv => arg 2; whnf); refine wp_loop (fun m fr R => ∃ acc l5 e5 n5 t, ElInv s (startE e3 (elemsE s l3.length [x0] l3 n3)) m acc l5 e5 n5 l2 ∧ R = [.obj b (prL s l5 e5 n5), .obj c pZ, .obj d (psK t acc 0 [] false), .tok t (some 11)] ∧ fr = frL [(0, .loc b 0), (2, .loc c 0), (3, .loc d 0)])
    l3.length _ _ (.cons (.refl _) (.cons (.refl _) (.cons (.refl _) (.nil _)))) (List.Sublist.refl _) ⟨_, _, _, _, _, inv0 _ _ _ _ hE, rfl, rfl⟩ ?_
  rintro m fr R ⟨acc, l5, e5, n5, t, hI, rfl, rfl⟩
  (conv => arg 2; whnf); refine wp_callF [] [.obj b (prL s l5 e5 n5)] [.obj c pZ, .obj d (psK t acc 0 [] false), .tok t (some 11)] rfl (may_call b s l5 e5 n5 5 [44]) ?_
  rintro v R1 (⟨hb, rfl, rfl⟩ | ⟨hb, rfl, rfl⟩)
  · obtain rfl := isP_none hb
    obtain ⟨hA, hln, hm, hlt, hstep⟩ := hI.step (hl.suf s2) hb
    have hlen2 : (acc.map elV).length + 1 ≤ 502 := by rw [List.length_map]; exact hlt
    have ce := elem_call b s hs l5.tail none n5 hA hln
    (repeat ((conv => arg 2; whnf); first | refine wp_ite (fun _ => ?_) (fun h => Bool.noConfusion h) | refine wp_ite (fun h => Bool.noConfusion h) (fun _ => ?_)))
    refine wp_cutR (frL [(0, .loc b 0), (2, .loc c 0), (3, .loc d 0)]) [.obj b (prL s l5.tail none n5), .obj c pZ, .obj d (psK t acc 0 [] false), .tok t (some 11)] (.cons (.refl _) (.cons (.refl _) (.cons (.refl _) (.nil _)))) (List.Sublist.refl _) ?_
    (conv => arg 2; whnf); refine wp_need (lates1 d 0 b 0 rfl rfl rfl hne) ?_
    (conv => arg 2; whnf); refine wp_load (cs := psK t acc 0 [] false) 2 rfl rfl ?_
    (conv => arg 2; whnf); refine wp_dcall [] [.obj b (prL s l5.tail none n5)] [.obj c pZ, .obj d (psK t acc 0 [] false), .tok t (some 11)] rfl (okq1 0 (by decide) rfl) ce ?_
    rintro v R1 ⟨x, l7, e7, n7, rfl, rfl, hE2⟩
    (conv => arg 2; whnf); refine wp_append_tok 3 rfl (one_el x) (Nat.le_trans (Nat.mul_le_mul_right _ hlen2) (Nat.le_of_ble_eq_true rfl)) fun t' => ?_
    (conv => arg 2; whnf); refine wp_storeE (cs := psK t acc 0 [] false) 2 0 [.sl (some 11) ((acc ++ [x]).map elV) (.t t')] rfl rfl (.cons (Vle.eq (el_app _ _ _)) .nil) (Nat.le_of_ble_eq_true rfl) rfl (R' := [.obj b (prL s l7 e7 n7), .obj c pZ, .obj d (psK t' (acc ++ [x]) 0 [] false), .tok t' (some 11)]) rfl ?_
    (conv => arg 2; whnf)
    exact wp_leaf (loop_next (m - 1) _ _ (by omega) (.cons (.refl _) (.cons (.refl _) (.cons (.refl _) (.nil _)))) (List.Sublist.refl _) ⟨_, _, _, _, _, hstep _ _ _ _ hE2, rfl, rfl⟩)
  have hEs := hI.fin hb
  clear hI
  (repeat ((conv => arg 2; whnf); first | refine wp_ite (fun _ => ?_) (fun h => Bool.noConfusion h) | refine wp_ite (fun h => Bool.noConfusion h) (fun _ => ?_)))
  (conv => arg 2; whnf)
  refine wp_leaf (loop_exit ?_)
  have s5 := sEs _ _ _ _ _ _ _ _ hE hEs
  obtain ⟨l6, hl6⟩ : ∃ x, x = mayL l5 e5 5 [41] := ⟨_, rfl⟩
  obtain ⟨e6, he6⟩ : ∃ x, x = mustX l5 e5 5 [41] := ⟨_, rfl⟩
  have c4 := must_x b s l5 e5 n5 5 [41]
  rw [← hl6, ← he6] at c4
  obtain ⟨l7, hl7⟩ : ∃ x, x = mayL l6 e6 4 within6 := ⟨_, rfl⟩
  obtain ⟨e7, he7⟩ : ∃ x, x = mustX l6 e6 4 within6 := ⟨_, rfl⟩
  have c5 := must_x b s l6 e6 n5 4 within6
  rw [← hl7, ← he7] at c5
  have a7 : e7 = none → AllOk s.length l7 := by
    intro h
    have h6 : e6 = none := by
      cases e6 with
      | none => rfl
      | some m => rw [he7, mustX_some] at h; cases h
    have h5 : e5 = none := by
      cases e5 with
      | none => rfl
      | some m => rw [he6, mustX_some] at h6; cases h6
    rw [hl7, hl6]
    exact hl.suf ((mayL_suf _ _ _ _).trans ((mayL_suf _ _ _ _).trans (s5 h5)))
  have c6 := plain_call2 b s l7 e7 n5 hs a7
  have c7 := take_x b s l7 (plE s l7 e7) n5 2
  obtain ⟨l8, hl8⟩ : ∃ x, x = mayL l7 (plE s l7 e7) 2 [] := ⟨_, rfl⟩
  obtain ⟨e8, he8⟩ : ∃ x, x = mustX l7 (plE s l7 e7) 2 [] := ⟨_, rfl⟩
  rw [← hl8, ← he8] at c7
  refine wp_cutR (frL [(0, .loc b 0), (2, .loc c 0), (3, .loc d 0)]) [.obj b (prL s l5 e5 n5), .obj c pZ, .obj d (psK t acc 0 [] false)] (.cons (.refl _) (.cons (.refl _) (.cons (.refl _) (.nil _)))) (by simp) ?_
  (conv => arg 2; whnf); refine wp_callF [] [.obj b (prL s l5 e5 n5)] [.obj c pZ, .obj d (psK t acc 0 [] false)] rfl c4 ?_
  rintro v R1 ⟨rfl, rfl⟩
  (conv => arg 2; whnf); refine wp_callF [] [.obj b (prL s l6 e6 n5)] [.obj c pZ, .obj d (psK t acc 0 [] false)] rfl c5 ?_
  rintro v R1 ⟨rfl, rfl⟩
  (conv => arg 2; whnf)
  refine wp_cutR (frL [(0, .loc b 0), (2, .loc c 0), (3, .loc d 0)]) [.obj b (prL s l7 e7 n5), .obj c pZ, .obj d (psK t acc 0 [] false)] (.cons (.refl _) (.cons (.refl _) (.cons (.refl _) (.nil _)))) (List.Sublist.refl _) ?_
  (conv => arg 2; whnf); refine wp_callF [] [.obj b (prL s l7 e7 n5)] [.obj c pZ, .obj d (psK t acc 0 [] false)] rfl c6 ?_
  rintro v R1 ⟨rfl, rfl⟩
  have fp : plainP s l7 e7 = false → failE e7 10 = plE s l7 e7 := fun h => by rw [plE, h]; rfl
  have fq : plainP s l7 e7 = true → e7 = plE s l7 e7 := fun h => by rw [plE, if_pos h]
  (conv => arg 2; whnf)
  apply wp_ite_join
  case h1 =>
    intro rest hp
    have hp : plainP s l7 e7 = false := by simpa using hp
    (conv => arg 2; whnf); refine wp_callF [] [.obj b (prL s l7 e7 n5)] [.obj c pZ, .obj d (psK t acc 0 [] false)] rfl (fails_call b s l7 e7 n5 10) ?_
    rintro v R1 ⟨rfl, rfl⟩
    rw [fp hp]
    (conv => arg 2; whnf)
    exact wp_cutR (frL [(0, .loc b 0), (2, .loc c 0), (3, .loc d 0)]) [.obj b (prL s l7 (plE s l7 e7) n5), .obj c pZ, .obj d (psK t acc 0 [] false)] (.cons (.refl _) (.cons (.refl _) (.cons (.refl _) (.nil _)))) (List.Sublist.refl _) rest
  case h2 =>
    intro rest hp
    have hp : plainP s l7 e7 = true := by simpa using hp
    have hR : [Res.obj b (prL s l7 (plE s l7 e7) n5), .obj c pZ, .obj d (psK t acc 0 [] false)] = [Res.obj b (prL s l7 e7 n5), .obj c pZ, .obj d (psK t acc 0 [] false)] := by rw [← fq hp]
    (conv => arg 2; whnf)
    exact wp_cutR (frL [(0, .loc b 0), (2, .loc c 0), (3, .loc d 0)]) [.obj b (prL s l7 (plE s l7 e7) n5), .obj c pZ, .obj d (psK t acc 0 [] false)] (.cons (.refl _) (.cons (.refl _) (.cons (.refl _) (.nil _)))) (hR ▸ List.Sublist.refl _) rest
  case rest =>
  (conv => arg 2; whnf); refine wp_callF [] [.obj b (prL s l7 (plE s l7 e7) n5)] [.obj c pZ, .obj d (psK t acc 0 [] false)] rfl c7 ?_
  rintro v R1 ⟨rfl, rfl⟩
  (conv => arg 2; whnf); refine wp_ite (fun h1 => ?_) (fun h1 => ?_)
  · have h1 := of_decide_eq_true h1
    (repeat ((conv => arg 2; whnf); first | refine wp_ite (fun _ => ?_) (fun h => Bool.noConfusion h) | refine wp_ite (fun h => Bool.noConfusion h) (fun _ => ?_)))
    obtain ⟨h7, hpl, h8n, hwi⟩ := within_bad (s := s) (l := l7) (e := e7) (n := n5) (.inl h1)
    (conv => arg 2; whnf); refine wp_callF [] [.obj b (prL s l8 e8 n5)] [.obj c pZ, .obj d (psK t acc 0 [] false)] rfl (fails_call b s l8 e8 n5 10) ?_
    rintro v R1 ⟨rfl, rfl⟩
    (conv => arg 2; whnf); refine wp_storeE (cs := pZ) 1 0 (paC pa0) rfl rfl pZ_vle (Nat.le_refl _) rfl (R' := [.obj b (prL s l8 (failE e8 10) n5), .obj c (paC pa0), .obj d (psK t acc 0 [] false)]) rfl ?_
    (conv => arg 2; whnf); refine w_ret1k (R' := [.obj b (prL s l8 (failE e8 10) n5)]) c 0 1 rfl rfl rfl rfl rfl (Vle.refl _) (by simp) ⟨_, _, _, _, rfl, rfl, pat_bad hl1 he1 hl2 he2 hE hEs hl6 he6 hl7 he7 h7 (he8.trans h8n) hwi⟩
  have h1 : ¬ (takeW l7 (plE s l7 e7) 2).n < 0 := of_decide_eq_false h1
  (conv => arg 2; whnf); refine wp_ite (fun h2 => ?_) (fun h2 => ?_)
  · have h2 := of_decide_eq_true h2
    obtain ⟨h7, hpl, h8n, hwi⟩ := within_bad (s := s) (l := l7) (e := e7) (n := n5) (.inr h2)
    (conv => arg 2; whnf); refine wp_callF [] [.obj b (prL s l8 e8 n5)] [.obj c pZ, .obj d (psK t acc 0 [] false)] rfl (fails_call b s l8 e8 n5 10) ?_
    rintro v R1 ⟨rfl, rfl⟩
    (conv => arg 2; whnf); refine wp_storeE (cs := pZ) 1 0 (paC pa0) rfl rfl pZ_vle (Nat.le_refl _) rfl (R' := [.obj b (prL s l8 (failE e8 10) n5), .obj c (paC pa0), .obj d (psK t acc 0 [] false)]) rfl ?_
    (conv => arg 2; whnf); refine w_ret1k (R' := [.obj b (prL s l8 (failE e8 10) n5)]) c 0 1 rfl rfl rfl rfl rfl (Vle.refl _) (by simp) ⟨_, _, _, _, rfl, rfl, pat_bad hl1 he1 hl2 he2 hE hEs hl6 he6 hl7 he7 h7 (he8.trans h8n) hwi⟩
  have h2 : ¬ (takeW l7 (plE s l7 e7) 2).n > 1000 := of_decide_eq_false h2
  have hW : e7 = none → Sim (withinE s l7 n5) (takeW l7 (plE s l7 e7) 2).n l8 e8 n5 := by rw [hl8, he8]; exact within_ok h1 h2
  have hp8 : ∀ m, e7 = some m → e8 = some m := by rw [he8]; exact plE_pass
  (conv => arg 2; whnf)
  refine wp_cutR (frL [(0, .loc b 0), (2, .loc c 0), (3, .loc d 0), (4, i64V (takeW l7 (plE s l7 e7) 2).n)]) [.obj b (prL s l8 e8 n5), .obj c pZ, .obj d (psK t acc 0 [] false)] (.cons (.refl _) (.cons (.refl _) (.cons (.refl _) (.cons (.refl _) (.nil _))))) (List.Sublist.refl _) ?_
  (conv => arg 2; whnf); refine wp_storeE (cs := psK t acc 0 [] false) 2 1 [i64V (takeW l7 (plE s l7 e7) 2).n] rfl rfl (VleL.refl _) (Nat.le_of_ble_eq_true rfl) rfl (R' := [.obj b (prL s l8 e8 n5), .obj c pZ, .obj d (psK t acc (takeW l7 (plE s l7 e7) 2).n [] false)]) rfl ?_
  (conv => arg 2; whnf); refine wp_callF [] [.obj b (prL s l8 e8 n5)] [.obj c pZ, .obj d (psK t acc (takeW l7 (plE s l7 e7) 2).n [] false)] rfl (may_call b s l8 e8 n5 4 by2) ?_
  rintro v R1 (⟨hk, rfl, rfl⟩ | ⟨hk, rfl, rfl⟩)
  · have s9 : ∀ m, e8 = some m → mustX l8.tail e8 1 [] = some m := fun m hm => by rw [hm, mustX_some]
    have hB := by_yes (n := n5) hk
    obtain ⟨l9, hl9⟩ : ∃ x, x = mayL l8.tail e8 1 [] := ⟨_, rfl⟩
    obtain ⟨e9, he9⟩ : ∃ x, x = mustX l8.tail e8 1 [] := ⟨_, rfl⟩
    have c9 := take_x b s l8.tail e8 n5 1
    rw [← he9] at s9
    rw [← hl9, ← he9] at hB c9
    (repeat ((conv => arg 2; whnf); first | refine wp_ite (fun _ => ?_) (fun h => Bool.noConfusion h) | refine wp_ite (fun h => Bool.noConfusion h) (fun _ => ?_)))
    (conv => arg 2; whnf); refine wp_callF [] [.obj b (prL s l8.tail e8 n5)] [.obj c pZ, .obj d (psK t acc (takeW l7 (plE s l7 e7) 2).n [] false)] rfl c9 ?_
    rintro v R1 ⟨rfl, rfl⟩
    (conv => arg 2; whnf); refine wp_storeE (cs := psK t acc (takeW l7 (plE s l7 e7) 2).n [] false) 2 2 [str (takeW l8.tail e8 1).text] rfl rfl (VleL.refl _) (Nat.le_of_ble_eq_true rfl) rfl (R' := [.obj b (prL s l9 e9 n5), .obj c pZ, .obj d (psK t acc (takeW l7 (plE s l7 e7) 2).n (takeW l8.tail e8 1).text false)]) rfl ?_
    (conv => arg 2; whnf)
    refine wp_cutR (frL [(0, .loc b 0), (2, .loc c 0), (3, .loc d 0)]) [.obj b (prL s l9 e9 n5), .obj c pZ, .obj d (psK t acc (takeW l7 (plE s l7 e7) 2).n (takeW l8.tail e8 1).text false)] (.cons (.refl _) (.cons (.refl _) (.cons (.refl _) (.nil _)))) (List.Sublist.refl _) ?_
    (conv => arg 2; whnf); refine wp_callF [] [.obj b (prL s l9 e9 n5)] [.obj c pZ, .obj d (psK t acc (takeW l7 (plE s l7 e7) 2).n (takeW l8.tail e8 1).text false)] rfl (may_x b s l9 e9 n5 4 any3) ?_
    rintro v R1 ⟨rfl, rfl⟩
    (conv => arg 2; whnf); refine wp_storeE (cs := psK t acc (takeW l7 (plE s l7 e7) 2).n (takeW l8.tail e8 1).text false) 2 3 [bV (isP l9 e9 4 any3)] rfl rfl (VleL.refl _) (Nat.le_of_ble_eq_true rfl) rfl (R' := [.obj b (prL s (mayL l9 e9 4 any3) e9 n5), .obj c pZ, .obj d (psK t acc (takeW l7 (plE s l7 e7) 2).n (takeW l8.tail e8 1).text (isP l9 e9 4 any3))]) rfl ?_
    (conv => arg 2; whnf); refine wp_load (cs := psK t acc (takeW l7 (plE s l7 e7) 2).n (takeW l8.tail e8 1).text (isP l9 e9 4 any3)) 2 rfl rfl ?_
    (conv => arg 2; whnf); refine wp_storeE (cs := pZ) 1 0 (paC ⟨acc, (takeW l7 (plE s l7 e7) 2).n, (takeW l8.tail e8 1).text, isP l9 e9 4 any3⟩) rfl rfl (psK_vle _ _ _ _ _) (Nat.le_refl _) rfl (R' := [.obj b (prL s (mayL l9 e9 4 any3) e9 n5), .obj c (paC ⟨acc, (takeW l7 (plE s l7 e7) 2).n, (takeW l8.tail e8 1).text, isP l9 e9 4 any3⟩), .obj d (psK t acc (takeW l7 (plE s l7 e7) 2).n (takeW l8.tail e8 1).text (isP l9 e9 4 any3))]) rfl ?_
    (conv => arg 2; whnf); refine w_ret1k (R' := [.obj b (prL s (mayL l9 e9 4 any3) e9 n5)]) c 0 1 rfl rfl rfl rfl rfl (Vle.refl _) (by simp) ⟨_, _, _, _, rfl, rfl, pat_sim hl1 he1 hl2 he2 hE hEs hl6 he6 hl7 he7 hp8 hW s9 hB rfl rfl⟩
  have hB := by_no (n := n5) hk
  (repeat ((conv => arg 2; whnf); first | refine wp_ite (fun _ => ?_) (fun h => Bool.noConfusion h) | refine wp_ite (fun h => Bool.noConfusion h) (fun _ => ?_)))
  (conv => arg 2; whnf)
  refine wp_cutR (frL [(0, .loc b 0), (2, .loc c 0), (3, .loc d 0)]) [.obj b (prL s l8 e8 n5), .obj c pZ, .obj d (psK t acc (takeW l7 (plE s l7 e7) 2).n [] false)] (.cons (.refl _) (.cons (.refl _) (.cons (.refl _) (.nil _)))) (List.Sublist.refl _) ?_
  (conv => arg 2; whnf); refine wp_callF [] [.obj b (prL s l8 e8 n5)] [.obj c pZ, .obj d (psK t acc (takeW l7 (plE s l7 e7) 2).n [] false)] rfl (may_x b s l8 e8 n5 4 any3) ?_
  rintro v R1 ⟨rfl, rfl⟩
  (conv => arg 2; whnf); refine wp_storeE (cs := psK t acc (takeW l7 (plE s l7 e7) 2).n [] false) 2 3 [bV (isP l8 e8 4 any3)] rfl rfl (VleL.refl _) (Nat.le_of_ble_eq_true rfl) rfl (R' := [.obj b (prL s (mayL l8 e8 4 any3) e8 n5), .obj c pZ, .obj d (psK t acc (takeW l7 (plE s l7 e7) 2).n [] (isP l8 e8 4 any3))]) rfl ?_
  (conv => arg 2; whnf); refine wp_load (cs := psK t acc (takeW l7 (plE s l7 e7) 2).n [] (isP l8 e8 4 any3)) 2 rfl rfl ?_
  (conv => arg 2; whnf); refine wp_storeE (cs := pZ) 1 0 (paC ⟨acc, (takeW l7 (plE s l7 e7) 2).n, [], isP l8 e8 4 any3⟩) rfl rfl (psK_vle _ _ _ _ _) (Nat.le_refl _) rfl (R' := [.obj b (prL s (mayL l8 e8 4 any3) e8 n5), .obj c (paC ⟨acc, (takeW l7 (plE s l7 e7) 2).n, [], isP l8 e8 4 any3⟩), .obj d (psK t acc (takeW l7 (plE s l7 e7) 2).n [] (isP l8 e8 4 any3))]) rfl ?_
  (conv => arg 2; whnf); refine w_ret1k (R' := [.obj b (prL s (mayL l8 e8 4 any3) e8 n5)]) c 0 1 rfl rfl rfl rfl rfl (Vle.refl _) (by simp) ⟨_, _, _, _, rfl, rfl, pat_sim hl1 he1 hl2 he2 hE hEs hl6 he6 hl7 he7 hp8 hW (fun m hm => hm) hB rfl rfl⟩
end Go.Sv
/- The program's parser: of a text. -/
namespace Go.Sv
open Go Go.Proofs

def pairV (x : V) (e : Option Nat) : V := .tup [x, .c (errV e)]
def parseExV : Except Nat Ex → V
  | .ok x => pairV (.agg (exC x)) none
  | .error e => pairV (.agg (exC ex0)) (some e)
def parsePaV : Except Nat Pa → V
  | .ok x => pairV (.agg (paC x)) none
  | .error e => pairV (.agg (paC pa0)) (some e)
theorem Sim.end_ok {α : Type} {r : Got α} {x : α} {l : List Wd} {e : Option Nat} {n : Nat} (h : Sim r x l e n) (he : (if l = [] then e else failE e 10) = none) : endE r = .ok x := by
  cases e with
  | none =>
    rw [h.1 rfl, endE]
    split at he
    · rename_i hl; rw [if_pos hl]
    · cases he
  | some m => split at he <;> cases he
theorem Sim.end_err {α : Type} {r : Got α} {x : α} {l : List Wd} {e : Option Nat} {n m : Nat} (h : Sim r x l e n) (he : (if l = [] then e else failE e 10) = some m) : endE r = .error m := by
  cases e with
  | none =>
    rw [h.1 rfl, endE]
    split at he
    · cases he
    · rename_i hl; rw [if_neg hl]; cases he; rfl
  | some k =>
    rw [h.2 k rfl, endE]
    split at he <;> (cases he; rfl)

set_option maxRecDepth 100000 in
theorem parseexpr_call (s : List UInt8) (hs : s.length < 2 ^ 40) : PCall Tryz.prog 12 [str s] (parseExV (parseExE s)) := by
  have f1 := cut_call s hs
  refine scall_of (live := [21]) (ords := []) Tryz.func12 rfl (by kernel_rfl) (by kernel_rfl) (Nat.le_of_ble_eq_true rfl) ?_
  cases hc : cutW s with
  | error k =>
    rw [hc] at f1
    have hr : parseExE s = .error k := by rw [parseExE, hc]
    (conv => arg 2; whnf); refine wp_allocE exZ rfl fun c => ?_
    (conv => arg 2; whnf); refine wp_pcall f1 ?_
    (repeat ((conv => arg 2; whnf); first | refine wp_ite (fun _ => ?_) (fun h => Bool.noConfusion h) | refine wp_ite (fun h => Bool.noConfusion h) (fun _ => ?_)))
    (conv => arg 2; whnf); refine wp_storeE (cs := exZ) 0 0 (exC ex0) rfl rfl ex0_vle (Nat.le_refl _) rfl (R' := [.obj c (exC ex0)]) rfl ?_
    (conv => arg 2; whnf); refine w_ret2ck (R' := []) (a := .agg (exC ex0)) (u := .c (errV (some k))) c 0 0 rfl rfl rfl rfl rfl (Vle.refl _) (Vle.refl _) (List.nil_sublist _) (by rw [hr]; rfl)
  | ok l =>
    rw [hc] at f1
    obtain ⟨hl, hlen⟩ := cutW_ok hc
    (conv => arg 2; whnf); refine wp_allocE exZ rfl fun c => ?_
    (conv => arg 2; whnf); refine wp_pcall f1 ?_
    (repeat ((conv => arg 2; whnf); first | refine wp_ite (fun _ => ?_) (fun h => Bool.noConfusion h) | refine wp_ite (fun h => Bool.noConfusion h) (fun _ => ?_)))
    (conv => arg 2; whnf); refine wp_allocE (prL s l none 0) rfl fun b => ?_
    (conv => arg 2; whnf); refine wp_callF [.obj c exZ] [.obj b (prL s l none 0)] [] rfl (node_gen b s hs l hl) ?_
    rintro v R1 ⟨x, l1, e1, n1, rfl, rfl, hN⟩
    (conv => arg 2; whnf); refine wp_allocE exZ rfl fun d => ?_
    (conv => arg 2; whnf); refine wp_storeE (cs := exZ) 2 0 (exC x) rfl rfl (VleL.refl _) (Nat.le_refl _) rfl (R' := [.obj c exZ, .obj b (prL s l1 e1 n1), .obj d (exC x)]) rfl ?_
    obtain ⟨e2, he2⟩ : ∃ y, y = (if l1 = [] then e1 else failE e1 10) := ⟨_, rfl⟩
    have c2 := ends_call b s l1 e1 n1
    rw [← he2] at c2
    (conv => arg 2; whnf); refine wp_callF [.obj c exZ] [.obj b (prL s l1 e1 n1)] [.obj d (exC x)] rfl c2 ?_
    rintro v R1 ⟨rfl, rfl⟩
    cases e2 with
    | some k =>
      have hr : parseExE s = .error k := by rw [parseExE, hc]; exact hN.end_err he2.symm
      (repeat ((conv => arg 2; whnf); first | refine wp_ite (fun _ => ?_) (fun h => Bool.noConfusion h) | refine wp_ite (fun h => Bool.noConfusion h) (fun _ => ?_)))
      (conv => arg 2; whnf); refine wp_storeE (cs := exZ) 0 0 (exC ex0) rfl rfl ex0_vle (Nat.le_refl _) rfl (R' := [.obj c (exC ex0), .obj b (prL s l1 (some k) n1), .obj d (exC x)]) rfl ?_
      (conv => arg 2; whnf); refine w_ret2ck (R' := []) (a := .agg (exC ex0)) (u := .c (errV (some k))) c 0 0 rfl rfl rfl rfl rfl (Vle.refl _) (Vle.refl _) (List.nil_sublist _) (by rw [hr]; rfl)
    | none =>
      have hr : parseExE s = .ok x := by rw [parseExE, hc]; exact hN.end_ok he2.symm
      (repeat ((conv => arg 2; whnf); first | refine wp_ite (fun _ => ?_) (fun h => Bool.noConfusion h) | refine wp_ite (fun h => Bool.noConfusion h) (fun _ => ?_)))
      (conv => arg 2; whnf); refine wp_load (cs := exC x) 2 rfl rfl ?_
      (conv => arg 2; whnf); refine wp_storeE (cs := exZ) 0 0 (exC x) rfl rfl (VleL.refl _) (Nat.le_refl _) rfl (R' := [.obj c (exC x), .obj b (prL s l1 none n1), .obj d (exC x)]) rfl ?_
      (conv => arg 2; whnf); refine w_ret2ck (R' := []) (a := .agg (exC x)) (u := .c (errV none)) c 0 0 rfl rfl rfl rfl rfl (Vle.refl _) (Vle.refl _) (List.nil_sublist _) (by rw [hr]; rfl)

set_option maxRecDepth 100000 in
theorem parsepattern_call (s : List UInt8) (hs : s.length < 2 ^ 40) : PCall Tryz.prog 8 [str s] (parsePaV (parsePaE s)) := by
  have f1 := cut_call s hs
  refine scall_of (live := [21]) (ords := [(9, [])]) Tryz.func8 rfl (by kernel_rfl) (by kernel_rfl) (Nat.le_of_ble_eq_true rfl) ?_
  cases hc : cutW s with
  | error k =>
    rw [hc] at f1
    have hr : parsePaE s = .error k := by rw [parsePaE, hc]
    (conv => arg 2; whnf); refine wp_allocE pZ rfl fun c => ?_
    (conv => arg 2; whnf); refine wp_pcall f1 ?_
    (repeat ((conv => arg 2; whnf); first | refine wp_ite (fun _ => ?_) (fun h => Bool.noConfusion h) | refine wp_ite (fun h => Bool.noConfusion h) (fun _ => ?_)))
    (conv => arg 2; whnf); refine wp_storeE (cs := pZ) 0 0 (paC pa0) rfl rfl pZ_vle (Nat.le_refl _) rfl (R' := [.obj c (paC pa0)]) rfl ?_
    (conv => arg 2; whnf); refine w_ret2ck (R' := []) (a := .agg (paC pa0)) (u := .c (errV (some k))) c 0 0 rfl rfl rfl rfl rfl (Vle.refl _) (Vle.refl _) (List.nil_sublist _) (by rw [hr]; rfl)
  | ok l =>
    rw [hc] at f1
    obtain ⟨hl, hlen⟩ := cutW_ok hc
    (conv => arg 2; whnf); refine wp_allocE pZ rfl fun c => ?_
    (conv => arg 2; whnf); refine wp_pcall f1 ?_
    (repeat ((conv => arg 2; whnf); first | refine wp_ite (fun _ => ?_) (fun h => Bool.noConfusion h) | refine wp_ite (fun h => Bool.noConfusion h) (fun _ => ?_)))
    (conv => arg 2; whnf); refine wp_allocE (prL s l none 0) rfl fun b => ?_
    (conv => arg 2; whnf); refine wp_callF [.obj c pZ] [.obj b (prL s l none 0)] [] rfl (parsepat_call b s hs l hl hlen) ?_
    rintro v R1 ⟨x, l1, e1, n1, rfl, rfl, hN⟩
    (conv => arg 2; whnf); refine wp_allocE pZ rfl fun d => ?_
    (conv => arg 2; whnf); refine wp_storeE (cs := pZ) 2 0 (paC x) rfl rfl (VleL.refl _) (Nat.le_refl _) rfl (R' := [.obj c pZ, .obj b (prL s l1 e1 n1), .obj d (paC x)]) rfl ?_
    obtain ⟨e2, he2⟩ : ∃ y, y = (if l1 = [] then e1 else failE e1 10) := ⟨_, rfl⟩
    have c2 := ends_call b s l1 e1 n1
    rw [← he2] at c2
    (conv => arg 2; whnf); refine wp_callF [.obj c pZ] [.obj b (prL s l1 e1 n1)] [.obj d (paC x)] rfl c2 ?_
    rintro v R1 ⟨rfl, rfl⟩
    cases e2 with
    | some k =>
      have hr : parsePaE s = .error k := by rw [parsePaE, hc]; simp only; rw [hN.end_err he2.symm]
      (repeat ((conv => arg 2; whnf); first | refine wp_ite (fun _ => ?_) (fun h => Bool.noConfusion h) | refine wp_ite (fun h => Bool.noConfusion h) (fun _ => ?_)))
      (conv => arg 2; whnf); refine wp_storeE (cs := pZ) 0 0 (paC pa0) rfl rfl pZ_vle (Nat.le_refl _) rfl (R' := [.obj c (paC pa0), .obj b (prL s l1 (some k) n1), .obj d (paC x)]) rfl ?_
      (conv => arg 2; whnf); refine w_ret2ck (R' := []) (a := .agg (paC pa0)) (u := .c (errV (some k))) c 0 0 rfl rfl rfl rfl rfl (Vle.refl _) (Vle.refl _) (List.nil_sublist _) (by rw [hr]; rfl)
    | none =>
      have hr0 := hN.end_ok he2.symm
      have hbd : PaBd x := by
        have he1 : e1 = none := by
          cases e1 with
          | none => rfl
          | some m => split at he2 <;> cases he2
        exact (patE_ok hl hlen (hN.1 he1)).1
      have hr : parsePaE s = if isPaB x then .ok x else .error 10 := by rw [parsePaE, hc]; simp only; rw [hr0]
      (repeat ((conv => arg 2; whnf); first | refine wp_ite (fun _ => ?_) (fun h => Bool.noConfusion h) | refine wp_ite (fun h => Bool.noConfusion h) (fun _ => ?_)))
      (conv => arg 2; whnf)
      refine wp_cutR (frL [(2, .loc c 0), (7, .loc d 0)]) [.obj c pZ, .obj d (paC x)] (.cons (.refl _) (.cons (.refl _) (.nil _))) (by simp) ?_
      (conv => arg 2; whnf); refine wp_load (cs := paC x) 1 rfl rfl ?_
      (conv => arg 2; whnf); refine wp_pcall (pattern_call x hbd) ?_
      cases hi : isPaB x with
      | false =>
        rw [hi] at hr
        (repeat ((conv => arg 2; whnf); first | refine wp_ite (fun _ => ?_) (fun h => Bool.noConfusion h) | refine wp_ite (fun h => Bool.noConfusion h) (fun _ => ?_)))
        (conv => arg 2; whnf); refine wp_storeE (cs := pZ) 0 0 (paC pa0) rfl rfl pZ_vle (Nat.le_refl _) rfl (R' := [.obj c (paC pa0), .obj d (paC x)]) rfl ?_
        (conv => arg 2; whnf); refine w_ret2ck (R' := []) (a := .agg (paC pa0)) (u := .c (errV (some 10))) c 0 0 rfl rfl rfl rfl rfl (Vle.refl _) (Vle.refl _) (List.nil_sublist _) (by rw [hr]; rfl)
      | true =>
        rw [hi] at hr
        (repeat ((conv => arg 2; whnf); first | refine wp_ite (fun _ => ?_) (fun h => Bool.noConfusion h) | refine wp_ite (fun h => Bool.noConfusion h) (fun _ => ?_)))
        (conv => arg 2; whnf); refine wp_load (cs := paC x) 1 rfl rfl ?_
        (conv => arg 2; whnf); refine wp_storeE (cs := pZ) 0 0 (paC x) rfl rfl (VleL.refl _) (Nat.le_refl _) rfl (R' := [.obj c (paC x), .obj d (paC x)]) rfl ?_
        (conv => arg 2; whnf); refine w_ret2ck (R' := []) (a := .agg (paC x)) (u := .c (errV none)) c 0 0 rfl rfl rfl rfl rfl (Vle.refl _) (Vle.refl _) (List.nil_sublist _) (by rw [hr]; rfl)
end Go.Sv
/- pasternlaw9: what is known; wrong texts. -/
namespace Go.Sv
open Go Go.Proofs

def k9s0 : List UInt8 := [83, 69, 81, 40, 97, 58, 116, 124, 117, 43, 91, 40, 97, 46, 120, 32, 60, 32, 45, 51, 41, 93, 44, 32, 33, 110, 58, 116, 32, 44, 32, 98, 58, 117, 41, 32, 32, 87, 73, 84, 72, 73, 78, 32, 55, 32, 66, 89, 32, 105, 100, 32, 65, 78, 89]
def k9s1 : List UInt8 := [83, 69, 81, 40, 97, 58, 117, 124, 116, 41, 32, 87, 73, 84, 72, 73, 78, 32, 55]
def k9s2 : List UInt8 := [83, 69, 81, 40, 97, 58, 116, 41, 32, 87, 73, 84, 72, 73, 78, 32, 55, 32, 35]
def k9s3 : List UInt8 := [40, 78, 79, 84, 32, 97, 46, 98, 105, 103, 41]
def k9s4 : List UInt8 := [40, 78, 79, 84, 32, 40, 78, 79, 84, 32, 40, 78, 79, 84, 32, 40, 78, 79, 84, 32, 40, 78, 79, 84, 32, 97, 46, 120, 41, 41, 41, 41, 41]
def k9x : Ex := .mk 8 val0 [] [] [.mk 2 val0 [97] [120] [], .mk 1 ⟨1, -3, []⟩ [] [] []]
def k9a : El := ⟨[97], [[116], [117]], true, false, k9x⟩
def k9b : El := ⟨[110], [[116]], false, true, ex0⟩
def k9c : El := ⟨[98], [[117]], false, false, ex0⟩
def k9p : Pa := ⟨[k9a, k9b, k9c], 7, [105, 100], true⟩
def k9n : Ex := .mk 12 val0 [] [] [.mk 2 val0 [97] [98, 105, 103] []]
theorem k9_0 : parsePaE k9s0 = .ok k9p := by kernel_rfl
theorem k9_1 : parsePaE k9s1 = .error 10 := by kernel_rfl
theorem k9_2 : parsePaE k9s2 = .error 21 := by kernel_rfl
theorem k9_3 : parseExE k9s3 = .ok k9n := by kernel_rfl
theorem k9_4 : parseExE k9s4 = .error 12 := by kernel_rfl
def wrongL : List (List UInt8) := [[],
  [83, 69, 81],
  [83, 69, 81, 40, 41],
  [83, 69, 81, 40, 97, 41, 32, 87, 73, 84, 72, 73, 78, 32, 53],
  [83, 69, 81, 40, 97, 58, 116, 41, 32, 87, 73, 84, 72, 73, 78],
  [83, 69, 81, 40, 97, 58, 116, 41, 32, 87, 73, 84, 72, 73, 78, 32, 45, 49],
  [83, 69, 81, 40, 97, 58, 116, 41, 32, 87, 73, 84, 72, 73, 78, 32, 49, 48, 48, 49],
  [83, 69, 81, 40, 33, 97, 58, 116, 44, 32, 98, 58, 116, 41, 32, 87, 73, 84, 72, 73, 78, 32, 53],
  [83, 69, 81, 40, 97, 58, 116, 44, 32, 97, 58, 116, 41, 32, 87, 73, 84, 72, 73, 78, 32, 53],
  [83, 69, 81, 40, 97, 58, 116, 43, 43, 41, 32, 87, 73, 84, 72, 73, 78, 32, 53],
  [83, 69, 81, 40, 97, 58, 116, 91, 93, 41, 32, 87, 73, 84, 72, 73, 78, 32, 53],
  [83, 69, 81, 40, 97, 58, 116, 41, 32, 87, 73, 84, 72, 73, 78, 32, 53, 32, 65, 78, 89, 32, 66, 89, 32, 105, 100],
  [83, 69, 81, 40, 97, 58, 116, 91, 40, 49, 32, 43, 32, 50, 93, 41, 32, 87, 73, 84, 72, 73, 78, 32, 53],
  [83, 69, 81, 40, 97, 58, 116, 91, 40, 97, 46, 120, 32, 65, 78, 68, 41, 93, 41, 32, 87, 73, 84, 72, 73, 78, 32, 53]]
def is10 : Except Nat Pa → Bool
  | .error e => Nat.beq e 10
  | .ok _ => false
theorem wrong_all : wrongL.all (fun s => is10 (parsePaE s)) = true := by kernel_rfl
theorem wrong_is {s : List UInt8} (h : s ∈ wrongL) : parsePaE s = .error 10 := by
  have h1 := List.all_eq_true.1 wrong_all s h
  unfold is10 at h1
  split at h1
  · rename_i e he; rw [he, Nat.eq_of_beq_eq_true h1]
  · cases h1

theorem eqF9 {a b : List UInt8} (e : a = b) (h : ((S a).toList == (S b).toList) = false) : False := by rw [strEq, decide_eq_true e] at h; cases h
set_option maxRecDepth 100000 in
set_option maxHeartbeats 4000000 in
theorem known9_call : PCall Tryz.prog 7 [] (bV true) := by
  have f0 := parsepattern_call k9s0 (by decide)
  have f1 := parsepattern_call k9s1 (by decide)
  have f2 := parsepattern_call k9s2 (by decide)
  have f3 := parseexpr_call k9s3 (by decide)
  have f4 := parseexpr_call k9s4 (by decide)
  rw [k9_0] at f0
  rw [k9_1] at f1
  rw [k9_2] at f2
  rw [k9_3] at f3
  rw [k9_4] at f4
  refine scall_of (live := []) (ords := [(6, [])]) Tryz.func7 rfl (by kernel_rfl) (by kernel_rfl) (Nat.le_of_ble_eq_true rfl) ?_
  (conv => arg 2; whnf); refine wp_pcall f0 ?_
  (conv => arg 2; whnf); refine wp_allocE pZ rfl fun a => ?_
  (conv => arg 2; whnf); refine wp_storeE (cs := pZ) 0 0 (paC k9p) rfl rfl (VleL.refl _) (Nat.le_refl _) rfl (R' := [.obj a (paC k9p)]) rfl ?_
  (conv => arg 2; whnf); refine wp_pcall f1 ?_
  (conv => arg 2; whnf); refine wp_allocE pZ rfl fun b => ?_
  (conv => arg 2; whnf); refine wp_storeE (cs := pZ) 1 0 (paC pa0) rfl rfl (VleL.refl _) (Nat.le_refl _) rfl (R' := [.obj a (paC k9p), .obj b (paC pa0)]) rfl ?_
  (conv => arg 2; whnf); refine wp_pcall f2 ?_
  (conv => arg 2; whnf); refine wp_allocE pZ rfl fun c => ?_
  (conv => arg 2; whnf); refine wp_storeE (cs := pZ) 2 0 (paC pa0) rfl rfl (VleL.refl _) (Nat.le_refl _) rfl (R' := [.obj a (paC k9p), .obj b (paC pa0), .obj c (paC pa0)]) rfl ?_
  (conv => arg 2; whnf); refine wp_pcall f3 ?_
  (conv => arg 2; whnf); refine wp_allocE exZ rfl fun d => ?_
  (conv => arg 2; whnf); refine wp_storeE (cs := exZ) 3 0 (exC k9n) rfl rfl (VleL.refl _) (Nat.le_refl _) rfl (R' := [.obj a (paC k9p), .obj b (paC pa0), .obj c (paC pa0), .obj d (exC k9n)]) rfl ?_
  (conv => arg 2; whnf); refine wp_pcall f4 ?_
  (conv => arg 2; whnf); refine wp_allocE exZ rfl fun e => ?_
  (conv => arg 2; whnf); refine wp_storeE (cs := exZ) 4 0 (exC ex0) rfl rfl (VleL.refl _) (Nat.le_refl _) rfl (R' := [.obj a (paC k9p), .obj b (paC pa0), .obj c (paC pa0), .obj d (exC k9n), .obj e (exC ex0)]) rfl ?_
  refine wp_cutR (frL [(1, .loc a 0), (2, .c (errV none)), (4, .c (errV (some 10))), (6, .c (errV (some 21))), (7, .loc d 0), (8, .c (errV none)), (10, .c (errV (some 12)))]) [.obj a (paC k9p), .obj d (exC k9n)] (.cons (.refl _) (.cons (.refl _) (.cons (.refl _) (.cons (.refl _) (.cons (.refl _) (.cons (.refl _) (.cons (.refl _) (.nil _)))))))) (by simp) ?_
  (repeat ((conv => arg 2; whnf); first | refine wp_ite (fun _ => ?_) (fun h => Bool.noConfusion h) | refine wp_ite (fun h => Bool.noConfusion h) (fun _ => ?_)))
  (conv => arg 2; whnf); refine wp_load (cs := paC k9p) 0 rfl rfl ?_
  (repeat ((conv => arg 2; whnf); first | refine wp_ite (fun _ => ?_) (fun h => Bool.noConfusion h) | refine wp_ite (fun h => Bool.noConfusion h) (fun _ => ?_)))
  (conv => arg 2; whnf); refine wp_load (cs := paC k9p) 0 rfl rfl ?_
  (conv => arg 2; whnf); refine wp_elem 0 (elV k9a) rfl rfl (Vle.refl _) ?_
  (repeat ((conv => arg 2; whnf); first | refine wp_ite (fun _ => ?_) (fun h => Bool.noConfusion h) | refine wp_ite (fun h => Bool.noConfusion h) (fun _ => ?_)))
  (conv => arg 2; whnf); refine wp_load (cs := paC k9p) 0 rfl rfl ?_
  (conv => arg 2; whnf); refine wp_elem 1 (elV k9b) rfl rfl (Vle.refl _) ?_
  (repeat ((conv => arg 2; whnf); first | refine wp_ite (fun _ => ?_) (fun h => Bool.noConfusion h) | refine wp_ite (fun h => Bool.noConfusion h) (fun _ => ?_)))
  (conv => arg 2; whnf); refine wp_load (cs := paC k9p) 0 rfl rfl ?_
  (conv => arg 2; whnf); refine wp_ite (fun _ => ?_) (fun h => (eqF9 (a := [105, 100]) (b := [105, 100]) rfl h).elim)
  (repeat ((conv => arg 2; whnf); first | refine wp_ite (fun _ => ?_) (fun h => Bool.noConfusion h) | refine wp_ite (fun h => Bool.noConfusion h) (fun _ => ?_)))
  (conv => arg 2; whnf); refine wp_load (cs := paC k9p) 0 rfl rfl ?_
  (repeat ((conv => arg 2; whnf); first | refine wp_ite (fun _ => ?_) (fun h => Bool.noConfusion h) | refine wp_ite (fun h => Bool.noConfusion h) (fun _ => ?_)))
  (conv => arg 2; whnf); refine wp_pcall (is_call (some 10) 10) ?_
  (repeat ((conv => arg 2; whnf); first | refine wp_ite (fun _ => ?_) (fun h => Bool.noConfusion h) | refine wp_ite (fun h => Bool.noConfusion h) (fun _ => ?_)))
  (conv => arg 2; whnf); refine wp_pcall (is_call (some 21) 21) ?_
  (repeat ((conv => arg 2; whnf); first | refine wp_ite (fun _ => ?_) (fun h => Bool.noConfusion h) | refine wp_ite (fun h => Bool.noConfusion h) (fun _ => ?_)))
  (conv => arg 2; whnf); refine wp_load (cs := exC k9n) 1 rfl rfl ?_
  (repeat ((conv => arg 2; whnf); first | refine wp_ite (fun _ => ?_) (fun h => Bool.noConfusion h) | refine wp_ite (fun h => Bool.noConfusion h) (fun _ => ?_)))
  (conv => arg 2; whnf); refine wp_pcall (is_call (some 12) 12) ?_
  (conv => arg 2; whnf); refine w_ret1 rfl (Vle.refl _) (List.nil_sublist _) rfl

set_option maxRecDepth 100000 in
set_option maxHeartbeats 4000000 in
theorem parsewrong_call (u : UInt8) : PCall Tryz.prog 5 [.c (.int .u8 u.toNat)] (bV true) := by
  have h14 : u.toNat % 14 < 14 := Nat.mod_lt _ (by decide)
  obtain ⟨i, hi⟩ : ∃ i, i = u.toNat % 14 := ⟨_, rfl⟩
  rw [← hi] at h14
  have hr : ((u.toNat : Int).tmod 14) = (i : Int) := by rw [hi]; rfl
  have hm : wrongL.getD i [] ∈ wrongL := by
    match i, h14 with
    | 0, _ | 1, _ | 2, _ | 3, _ | 4, _ | 5, _ | 6, _ | 7, _ | 8, _ | 9, _ | 10, _ | 11, _ | 12, _ | 13, _ => simp [wrongL]
  have hl : (wrongL.getD i []).length < 2 ^ 40 := by
    match i, h14 with
    | 0, _ | 1, _ | 2, _ | 3, _ | 4, _ | 5, _ | 6, _ | 7, _ | 8, _ | 9, _ | 10, _ | 11, _ | 12, _ | 13, _ => decide
  have hv : ∀ z : Int, z = (i : Int) → (wrongL.map str).getD z.toNat .undef = str (wrongL.getD i []) := by
    rintro z rfl
    match i, h14 with
    | 0, _ | 1, _ | 2, _ | 3, _ | 4, _ | 5, _ | 6, _ | 7, _ | 8, _ | 9, _ | 10, _ | 11, _ | 12, _ | 13, _ => rfl
  have f0 := parsepattern_call (wrongL.getD i []) hl
  rw [wrong_is hm] at f0
  refine scall_of (live := []) (ords := [(4, [])]) Tryz.func5 rfl (by kernel_rfl) (by kernel_rfl) (Nat.le_of_ble_eq_true rfl) ?_
  (conv => arg 2; whnf); refine wp_pcall known9_call ?_
  (repeat ((conv => arg 2; whnf); first | refine wp_ite (fun _ => ?_) (fun h => Bool.noConfusion h) | refine wp_ite (fun h => Bool.noConfusion h) (fun _ => ?_)))
  have h0 : 0 ≤ (u.toNat : Int).tmod 14 ∧ (u.toNat : Int).tmod 14 < 14 := by rw [hr]; omega
  (conv => arg 2; whnf); refine wp_need ⟨h0.1, h0.2, Nat.le_of_ble_eq_true rfl⟩ ?_
  (conv => arg 2; whnf); refine wp_cutR (frL [(3, str (wrongL.getD i []))]) [] (.cons (Vle.eq (hv _ hr)) (.nil _)) (List.nil_sublist _) ?_
  (conv => arg 2; whnf); refine wp_pcall f0 ?_
  (conv => arg 2; whnf); refine wp_allocE pZ rfl fun a => ?_
  (conv => arg 2; whnf); refine wp_storeE (cs := pZ) 0 0 (paC pa0) rfl rfl (VleL.refl _) (Nat.le_refl _) rfl (R' := [.obj a (paC pa0)]) rfl ?_
  (conv => arg 2; whnf); refine wp_pcall (is_call (some 10) 10) ?_
  (repeat ((conv => arg 2; whnf); first | refine wp_ite (fun _ => ?_) (fun h => Bool.noConfusion h) | refine wp_ite (fun h => Bool.noConfusion h) (fun _ => ?_)))
  (conv => arg 2; whnf); refine wp_load (cs := paC pa0) 0 rfl rfl ?_
  (conv => arg 2; whnf); refine w_ret1 rfl (Vle.refl _) (List.nil_sublist _) rfl
end Go.Sv
/- Numbers as the reference reads them: the plain functions agree. -/
namespace Go.Sv
open Go

theorem digV_mono : ∀ (a b : List UInt8) (acc : Nat), digV acc a ≤ digV acc (a ++ b)
  | [], b, acc => digV_le b acc
  | c :: a, b, acc => digV_mono a b (acc * 10 + (c.toNat - 48))
theorem parseM_val : ∀ (l : List UInt8) (acc : Nat), (∀ c ∈ l, isDg c = true) → acc ≤ 2 ^ 64 - 1 → Lib.parseUintM (2 ^ 64 - 1) acc l = if digV acc l ≤ 2 ^ 64 - 1 then .ok (digV acc l) else .range
  | [], acc, _, h => by
    show Lib.NumEnd.ok acc = if acc ≤ 2 ^ 64 - 1 then .ok acc else .range
    rw [if_pos h]
  | c :: l, acc, hd, h => by
    have hc : 48 ≤ c.toNat ∧ c.toNat ≤ 57 := by simpa [isDg] using hd c (by simp)
    have h1 := digV_le l (acc * 10 + (c.toNat - 48))
    have e : digV acc (c :: l) = digV (acc * 10 + (c.toNat - 48)) l := rfl
    have ih := fun h => parseM_val l (acc * 10 + (c.toNat - 48)) (fun d hx => hd d (by simp [hx])) h
    rw [e]
    generalize digV (acc * 10 + (c.toNat - 48)) l = v at *
    rw [Lib.parseUintM, if_pos hc]
    by_cases a1 : 1844674407370955162 ≤ acc
    · rw [if_pos a1, if_neg (by omega)]
    · rw [if_neg a1]
      by_cases a2 : 2 ^ 64 - 1 < acc * 10 + (c.toNat - 48)
      · rw [if_pos a2, if_neg (by omega)]
      · rw [if_neg a2]
        exact ih (by omega)

theorem take_takeWhile (l : List UInt8) : l.take (spanN isDg l) = l.takeWhile isDg := by
  induction l with
  | nil => simp [spanN]
  | cons c l ih =>
    cases h : isDg c with
    | true => rw [spanN_cons h, List.take_succ_cons, ih, List.takeWhile_cons_of_pos h]
    | false => rw [spanN_stop h, List.takeWhile_cons_of_neg (by rw [h]; decide)]; rfl
theorem take_dg (l : List UInt8) : ∀ c ∈ l.take (spanN isDg l), isDg c = true := by
  intro c hc
  rw [take_takeWhile] at hc
  have := List.all_takeWhile (p := isDg) (l := l)
  rw [List.all_eq_true] at this
  exact this c hc
/-- A number without a sign. -/
theorem numR_pos {c : UInt8} {r : List UInt8} (h : isDg c = true) : numR (c :: r) = if digV 0 ((c :: r).take (spanN isDg (c :: r))) ≤ 9223372036854775807 then .ok ⟨2, [], (digV 0 ((c :: r).take (spanN isDg (c :: r))) : Nat), spanN isDg (c :: r)⟩ else .error 12 := by
  have hc : 48 ≤ c.toNat ∧ c.toNat ≤ 57 := by simpa [isDg] using h
  have hs : 1 + spanN isDg r = spanN isDg (c :: r) := by rw [spanN_cons h]; omega
  have hd := take_dg (c :: r)
  rw [numR, List.drop_succ_cons, List.drop_zero, hs]
  have hne : (c :: r).take (spanN isDg (c :: r)) = c :: r.take (spanN isDg r) := by rw [spanN_cons h, List.take_succ_cons]
  have hp := parseM_val ((c :: r).take (spanN isDg (c :: r))) 0 hd (by omega)
  generalize spanN isDg (c :: r) = n at *
  rw [hne] at hp ⊢
  rw [Lib.parseIntB, if_neg (by omega), Lib.parseUintB, if_neg (by simp), hp]
  generalize digV 0 (c :: r.take (spanN isDg r)) = u
  by_cases a1 : u ≤ 2 ^ 64 - 1
  · rw [if_pos a1]
    simp only
    by_cases a2 : u ≤ 9223372036854775807
    · rw [if_pos a2, if_neg (by omega), if_neg (by omega), if_neg (by omega)]; rfl
    · rw [if_neg a2, if_pos (by omega)]; rfl
  · rw [if_neg a1, if_neg (by omega)]; rfl
/-- A number with a sign. -/
theorem numR_neg {r : List UInt8} (h : isDg (r.headD 0) = true) (hr : r ≠ []) : numR (45 :: r) = if digV 0 (r.take (spanN isDg r)) ≤ 9223372036854775808 then .ok ⟨2, [], -((digV 0 (r.take (spanN isDg r)) : Nat) : Int), 1 + spanN isDg r⟩ else .error 12 := by
  have hd := take_dg r
  have hne : r.take (spanN isDg r) ≠ [] := by
    cases r with
    | nil => exact absurd rfl hr
    | cons c r =>
      have h : isDg c = true := h
      rw [spanN_cons h, List.take_succ_cons]; simp
  rw [numR, List.drop_succ_cons, List.drop_zero]
  have hp := parseM_val (r.take (spanN isDg r)) 0 hd (by omega)
  have ht : (45 :: r : List UInt8).take (1 + spanN isDg r) = 45 :: r.take (spanN isDg r) := by rw [Nat.add_comm, List.take_succ_cons]
  rw [ht]
  generalize spanN isDg r = n at *
  rw [Lib.parseIntB, if_pos (.inr rfl), Lib.parseUintB, if_neg hne, hp]
  generalize digV 0 (r.take n) = u
  by_cases a1 : u ≤ 2 ^ 64 - 1
  · rw [if_pos a1]
    simp only
    by_cases a2 : u ≤ 9223372036854775808
    · rw [if_pos a2, if_neg (by simp), if_neg (by omega), if_pos (by decide)]; rfl
    · rw [if_neg a2, if_neg (by simp), if_pos ⟨by decide, by omega⟩]; rfl
  · rw [if_neg a1, if_neg (by omega)]; rfl
end Go.Sv
/- The reference's words: numbers, texts. -/
namespace Go.Sv
open Go Go.Proofs

def rnxV : Except Nat Nx → V
  | .ok x => .tup [wdV (x.wd 0), i64V x.len, i64V 0]
  | .error e => .tup [wdV wd0, i64V 0, i64V e]

theorem rdigit_call (c : UInt8) : PCall Tryz.prog 65 [byteV c] (bV (isDg c)) := by
  refine scall_of (live := []) (ords := []) Tryz.func65 rfl (by kernel_rfl) (by kernel_rfl) (Nat.le_of_ble_eq_true rfl) ?_
  (conv => arg 2; whnf); refine wp_ite (fun h => ?_) (fun h => ?_)
  · have h := of_decide_eq_true h
    (conv => arg 2; whnf); refine w_retp rfl (Vle.eq (cBool ?_))
    rw [isDg, decide_eq_true (by omega : 48 ≤ c.toNat), Bool.true_and]
    exact decide_eq_decide.2 (by omega)
  · have h := of_decide_eq_false h
    (conv => arg 2; whnf); refine w_retp rfl (Vle.eq (cBool ?_))
    rw [isDg, decide_eq_false (by omega : ¬ 48 ≤ c.toNat), Bool.false_and]

set_option maxRecDepth 100000 in
set_option maxHeartbeats 1000000 in
theorem rnumber_call (s : List UInt8) (at_ : Nat) (c : UInt8) (hc : s[at_]? = some c) (h : isDg c = true ∨ (c = 45 ∧ at_ + 1 < s.length ∧ isDg ((s.drop (at_ + 1)).headD 0) = true)) (hs : s.length < 2 ^ 40) :
    PCall Tryz.prog 83 [str s, i64V at_] (rnxV (numR (s.drop at_))) := by
  have hat := (List.getElem?_eq_some_iff.1 hc).1
  obtain ⟨neg, hneg⟩ : ∃ neg : Bool, neg = decide (c = 45) := ⟨_, rfl⟩
  obtain ⟨q, hq⟩ : ∃ q : Nat, q = if neg then 1 else 0 := ⟨_, rfl⟩
  obtain ⟨most, hmost⟩ : ∃ most : Nat, most = if neg then 9223372036854775808 else 9223372036854775807 := ⟨_, rfl⟩
  have hq1 : q ≤ 1 := by rw [hq]; split <;> omega
  have hm1 : 9223372036854775807 ≤ most ∧ most ≤ 9223372036854775808 := by rw [hmost]; split <;> omega
  have hnum : numR (s.drop at_) = if digV 0 ((s.drop (at_ + q)).take (spanN isDg (s.drop (at_ + q)))) ≤ most then .ok ⟨2, [], (if neg then -((digV 0 ((s.drop (at_ + q)).take (spanN isDg (s.drop (at_ + q)))) : Nat) : Int) else (digV 0 ((s.drop (at_ + q)).take (spanN isDg (s.drop (at_ + q)))) : Nat)), q + spanN isDg (s.drop (at_ + q))⟩ else .error 12 := by
    rcases h with h | ⟨h1, h2, h3⟩
    · have hn : neg = false := by
        rw [hneg]; refine decide_eq_false ?_
        rintro rfl; revert h; decide
      rw [hn] at hq hmost
      simp only [Bool.false_eq_true, if_false] at hq hmost
      subst hq; subst hmost
      rw [hn, Nat.add_zero, drop_at hc, numR_pos h]; simp
    · have hn : neg = true := by rw [hneg, h1]; rfl
      rw [hn] at hq hmost
      simp only [if_true] at hq hmost
      subst hq; subst hmost
      rw [hn, drop_at hc, h1, numR_neg h3 (by intro e; have := congrArg List.length e; simp at this; omega)]; simp
  have hlq : at_ + q ≤ s.length := by omega
  have hkn : (((byteAt (S s) (Int.toNat (at_ : Int))).toNat : Int) == 45) = neg := by rw [hneg, Int.toNat_natCast, byte_at hc]; exact c_int_eq c 45 45 rfl
  refine scall_of (live := []) (ords := [(3, []), (5, []), (9, []), (10, []), (11, []), (13, []), (15, []), (18, [])]) Tryz.func83 rfl (by kernel_rfl) (by kernel_rfl) (Nat.le_of_ble_eq_true rfl) ?_
  (conv => arg 2; whnf); refine wp_allocE (wdL wd0) rfl fun b => ?_
  (conv => arg 2; whnf); refine wp_need (by rw [S_size]; omega) ?_
  (conv => arg 2; whnf); refine wp_cutR (frL [(0, str s), (1, i64V at_), (4, .loc b 0), (7, bV neg), (8, i64V 0)]) _ (.cons (.refl _) (.cons (.refl _) (.cons (.refl _) (.cons (Vle.of _ rfl (cBool hkn)) (.cons (.refl _) (.nil _)))))) (List.Sublist.refl _) ?_
  have hqt : neg = true → (i64V 1 : V) = i64V q := fun h => by rw [hq, h]; rfl
  have hqf : neg = false → (i64V 0 : V) = i64V q := fun h => by rw [hq, h]; rfl
  have hmt : neg = true → V.c (.int .u64 9223372036854775808) = u64V most := fun h => by rw [hmost, h]; rfl
  have hmf : neg = false → V.c (.int .u64 9223372036854775807) = u64V most := fun h => by rw [hmost, h]; rfl
  apply wp_joinT
  case h1 =>
    intro rest
    (conv => arg 2; whnf); refine wp_ite (fun hn => ?_) (fun hn => ?_)
    · (conv => arg 2; whnf)
      exact wp_cutR (frL [(0, str s), (1, i64V at_), (4, .loc b 0), (7, bV neg), (8, i64V q)]) [.obj b (wdL wd0)] (.cons (.refl _) (.cons (.refl _) (.cons (.refl _) (.cons (.refl _) (.cons (Vle.of (i64V 1) rfl (hqt hn)) (.nil _)))))) (List.Sublist.refl _) rest
    · (conv => arg 2; whnf)
      exact wp_cutR (frL [(0, str s), (1, i64V at_), (4, .loc b 0), (7, bV neg), (8, i64V q)]) [.obj b (wdL wd0)] (.cons (.refl _) (.cons (.refl _) (.cons (.refl _) (.cons (.refl _) (.cons (Vle.of (i64V 0) rfl (hqf hn)) (.nil _)))))) (List.Sublist.refl _) rest
  case rest =>
    have hsp0 : spanN isDg (s.drop (at_ + q)) = 0 + spanN isDg (s.drop (at_ + q + 0)) := by simp
    apply wp_joinT
    case h1 =>
      intro rest
      (conv => arg 2; whnf); refine wp_ite (fun hn => ?_) (fun hn => ?_)
      · (conv => arg 2; whnf)
        exact wp_loop (fun m fr R => ∃ i : Nat, m = s.length - i ∧ at_ + q + i ≤ s.length ∧ R = [.obj b (wdL wd0)] ∧ spanN isDg (s.drop (at_ + q)) = i + spanN isDg (s.drop (at_ + q + i)) ∧ digV 0 ((s.drop (at_ + q)).take i) ≤ most ∧ fr = frL [(0, str s), (1, i64V at_), (4, .loc b 0), (7, bV neg), (8, i64V (q + i : Nat)), (9, u64V (digV 0 ((s.drop (at_ + q)).take i))), (10, u64V most)]) s.length _ _ (.cons (.refl _) (.cons (.refl _) (.cons (.refl _) (.cons (.refl _) (.cons (.refl _) (.cons (.refl _) (.cons (Vle.of (V.c (.int .u64 9223372036854775808)) rfl (hmt hn)) (.nil _)))))))) (List.Sublist.refl _) ⟨0, rfl, hlq, rfl, hsp0, Nat.zero_le _, rfl⟩ rest
      · (conv => arg 2; whnf)
        exact wp_loop (fun m fr R => ∃ i : Nat, m = s.length - i ∧ at_ + q + i ≤ s.length ∧ R = [.obj b (wdL wd0)] ∧ spanN isDg (s.drop (at_ + q)) = i + spanN isDg (s.drop (at_ + q + i)) ∧ digV 0 ((s.drop (at_ + q)).take i) ≤ most ∧ fr = frL [(0, str s), (1, i64V at_), (4, .loc b 0), (7, bV neg), (8, i64V (q + i : Nat)), (9, u64V (digV 0 ((s.drop (at_ + q)).take i))), (10, u64V most)]) s.length _ _ (.cons (.refl _) (.cons (.refl _) (.cons (.refl _) (.cons (.refl _) (.cons (.refl _) (.cons (.refl _) (.cons (Vle.of (V.c (.int .u64 9223372036854775807)) rfl (hmf hn)) (.nil _)))))))) (List.Sublist.refl _) ⟨0, rfl, hlq, rfl, hsp0, Nat.zero_le _, rfl⟩ rest
    case rest =>
      rintro m fr R ⟨i, rfl, hi, rfl, hsp, hv, rfl⟩
      have w1 : IntKind.i64.wrap ((at_ : Int) + (q + i : Nat)) = ((at_ + q + i : Nat) : Int) := wadd (by omega) (by omega) (by omega)
      (conv => arg 2; whnf); refine wp_cutR (frL [(0, str s), (1, i64V at_), (4, .loc b 0), (7, bV neg), (8, i64V (q + i : Nat)), (9, u64V (digV 0 ((s.drop (at_ + q)).take i))), (10, u64V most)]) _ (.cons (.refl _) (.cons (.refl _) (.cons (.refl _) (.cons (.refl _) (.cons (.refl _) (.cons (.refl _) (.cons (.refl _) (.nil _)))))))) (List.Sublist.refl _) ?_
      obtain ⟨K, hK⟩ : ∃ K, K = spanN isDg (s.drop (at_ + q)) := ⟨_, rfl⟩
      obtain ⟨u, hu⟩ : ∃ u, u = digV 0 ((s.drop (at_ + q)).take K) := ⟨_, rfl⟩
      rw [← hK, ← hu] at hnum
      have eqi : spanN isDg (s.drop (at_ + q + i)) = 0 → i = K := fun h => by omega
      have eqK : spanN isDg (s.drop (at_ + q + i)) = 0 → i64V (q + i : Nat) = i64V (q + K : Nat) := fun h => by rw [eqi h]
      have eqU : spanN isDg (s.drop (at_ + q + i)) = 0 → u64V (digV 0 ((s.drop (at_ + q)).take i)) = u64V u := fun h => by rw [hu, eqi h]
      have hz1 : decide (IntKind.i64.wrap ((at_ : Int) + (q + i : Nat)) < ((S s).size : Int)) = false → spanN isDg (s.drop (at_ + q + i)) = 0 := fun h => by
        rw [w1] at h
        have := of_decide_eq_false h
        rw [S_size] at this
        rw [List.drop_eq_nil_of_le (by omega)]; rfl
      have hlt : decide (IntKind.i64.wrap ((at_ : Int) + (q + i : Nat)) < ((S s).size : Int)) = true → at_ + q + i < s.length := fun h => by
        rw [w1] at h
        have := of_decide_eq_true h
        rw [S_size] at this; omega
      have hvu : i = K → u ≤ most := fun h => by rw [hu, ← h]; exact hv
      have hzr : spanN isDg (s.drop (at_ + q + i)) = 0 → u ≤ most := fun h => hvu (eqi h)
      clear hvu
      by_cases hend : spanN isDg (s.drop (at_ + q + i)) = 0
      · have hum := hzr hend
        rw [if_pos hum] at hnum
        have hx : ∀ c' : UInt8, s[at_ + q + i]? = some c' → isDg c' = false := fun c' hc' => by
          cases e : isDg c' with
          | false => rfl
          | true => rw [drop_at hc', spanN_cons e] at hend; cases hend
        have hne : decide (IntKind.i64.wrap ((at_ : Int) + (q + i : Nat)) < ((S s).size : Int)) = true → (0 : Int) ≤ IntKind.i64.wrap ((at_ : Int) + (q + i : Nat)) ∧ IntKind.i64.wrap ((at_ : Int) + (q + i : Nat)) < (S s).size := fun h => by
          have := hlt h
          rw [w1, S_size]; omega
        have hget : decide (IntKind.i64.wrap ((at_ : Int) + (q + i : Nat)) < ((S s).size : Int)) = true → ∃ c', s[at_ + q + i]? = some c' := fun h => ⟨_, List.getElem?_eq_getElem (hlt h)⟩
        apply wp_joinT
        case h1 =>
          intro rest
          (conv => arg 2; whnf); refine wp_ite (fun h => ?yes) (fun h => ?no)
          case no =>
            (repeat ((conv => arg 2; whnf); first | refine wp_ite (fun _ => ?_) (fun h => Bool.noConfusion h) | refine wp_ite (fun h => Bool.noConfusion h) (fun _ => ?_)))
            (conv => arg 2; whnf)
            refine wp_leaf (loop_exit ?_)
            (conv => arg 2; whnf)
            exact wp_cutR (frL [(4, .loc b 0), (7, bV neg), (8, i64V (q + K : Nat)), (9, u64V u)]) [.obj b (wdL wd0)] (.cons (.refl _) (.cons (.refl _) (.cons (Vle.of (i64V (q + i : Nat)) rfl (eqK hend)) (.cons (Vle.of (u64V (digV 0 ((s.drop (at_ + q)).take i))) rfl (eqU hend)) (.nil _))))) (List.Sublist.refl _) rest
          case yes =>
            obtain ⟨c', hc'⟩ := hget h
            (conv => arg 2; whnf); refine wp_need (hne h) ?_
            (conv => arg 2; whnf); refine wp_pcallV (.cons (cByteAt hc' w1 rfl) .nil) (rdigit_call c') ?_
            rw [hx c' hc']
            (repeat ((conv => arg 2; whnf); first | refine wp_ite (fun _ => ?_) (fun h => Bool.noConfusion h) | refine wp_ite (fun h => Bool.noConfusion h) (fun _ => ?_)))
            (conv => arg 2; whnf)
            refine wp_leaf (loop_exit ?_)
            (conv => arg 2; whnf)
            exact wp_cutR (frL [(4, .loc b 0), (7, bV neg), (8, i64V (q + K : Nat)), (9, u64V u)]) [.obj b (wdL wd0)] (.cons (.refl _) (.cons (.refl _) (.cons (Vle.of (i64V (q + i : Nat)) rfl (eqK hend)) (.cons (Vle.of (u64V (digV 0 ((s.drop (at_ + q)).take i))) rfl (eqU hend)) (.nil _))))) (List.Sublist.refl _) rest
        case rest =>
          obtain ⟨N, hN⟩ : ∃ N : Int, N = if neg then -((u : Nat) : Int) else (u : Nat) := ⟨_, rfl⟩
          rw [← hN] at hnum
          have hA : neg = true → decide ((u : Int) > 0) = true → IntKind.i64.wrap (IntKind.i64.wrap (0 - IntKind.i64.wrap (IntKind.u64.wrap ((u : Int) - 1))) - 1) = N := fun h h0 => by
            have h0 := of_decide_eq_true h0
            have a1 : IntKind.u64.wrap ((u : Int) - 1) = (u : Int) - 1 := w_u64_small (by omega) (by omega)
            have a2 : IntKind.i64.wrap ((u : Int) - 1) = (u : Int) - 1 := w_i64_small (by omega) (by omega)
            have a3 : IntKind.i64.wrap (0 - ((u : Int) - 1)) = 0 - ((u : Int) - 1) := w_i64_small (by omega) (by omega)
            rw [a1, a2, a3, hN, h, if_pos rfl, w_i64_small (by omega) (by omega)]; omega
          have hB : neg = true → decide ((u : Int) > 0) = false → IntKind.i64.wrap (u : Int) = N := fun h h0 => by
            have h0 := of_decide_eq_false h0
            rw [hN, h, if_pos rfl, w_i64_small (by omega) (by omega)]; omega
          have hC : neg = false → IntKind.i64.wrap (u : Int) = N := fun h => by
            rw [h] at hmost
            simp only [Bool.false_eq_true, if_false] at hmost
            rw [hN, h, if_neg (by decide), w_i64_small (by omega) (by omega)]
          (conv => arg 2; whnf); refine wp_allocE (wdL wd0) rfl fun b2 => ?_
          (conv => arg 2; whnf); refine wp_storeE (cs := wdL wd0) 1 0 (wdL ⟨2, [], IntKind.i64.wrap (u : Int), 0⟩) rfl rfl (VleL.refl _) (Nat.le_refl _) rfl (R' := [.obj b (wdL wd0), .obj b2 (wdL ⟨2, [], IntKind.i64.wrap (u : Int), 0⟩)]) rfl ?_
          apply wp_joinT
          case h1 =>
            intro rest
            (conv => arg 2; whnf); refine wp_ite (fun hn => ?_) (fun hn => ?_)
            · (conv => arg 2; whnf); refine wp_ite (fun h0 => ?_) (fun h0 => ?_)
              · (conv => arg 2; whnf); refine wp_storeE (cs := wdL ⟨2, [], IntKind.i64.wrap (u : Int), 0⟩) 1 2 [i64V N] rfl rfl (.cons (Vle.i64 _ rfl (hA hn h0)) .nil) (Nat.le_of_ble_eq_true rfl) rfl (R' := [.obj b (wdL wd0), .obj b2 (wdL ⟨2, [], N, 0⟩)]) rfl ?_
                (conv => arg 2; whnf)
                exact wp_cutR (frL [(4, .loc b 0), (8, i64V (q + K : Nat)), (12, .loc b2 0)]) [.obj b (wdL wd0), .obj b2 (wdL ⟨2, [], N, 0⟩)] (.cons (.refl _) (.cons (.refl _) (.cons (.refl _) (.nil _)))) (List.Sublist.refl _) rest
              · (conv => arg 2; whnf)
                exact wp_cutR (frL [(4, .loc b 0), (8, i64V (q + K : Nat)), (12, .loc b2 0)]) [.obj b (wdL wd0), .obj b2 (wdL ⟨2, [], N, 0⟩)] (.cons (.refl _) (.cons (.refl _) (.cons (.refl _) (.nil _)))) (by rw [hB hn h0]; exact List.Sublist.refl _) rest
            · (repeat ((conv => arg 2; whnf); first | refine wp_ite (fun _ => ?_) (fun h => Bool.noConfusion h) | refine wp_ite (fun h => Bool.noConfusion h) (fun _ => ?_)))
              (conv => arg 2; whnf)
              exact wp_cutR (frL [(4, .loc b 0), (8, i64V (q + K : Nat)), (12, .loc b2 0)]) [.obj b (wdL wd0), .obj b2 (wdL ⟨2, [], N, 0⟩)] (.cons (.refl _) (.cons (.refl _) (.cons (.refl _) (.nil _)))) (by rw [hC hn]; exact List.Sublist.refl _) rest
          case rest =>
            (conv => arg 2; whnf); refine wp_load (cs := wdL ⟨2, [], N, 0⟩) 1 rfl rfl ?_
            (conv => arg 2; whnf); refine wp_store' 0 rfl (Nat.le_of_ble_eq_true rfl) rfl ?_
            (conv => arg 2; whnf); refine w_ret3cE (cs := wdL ((⟨2, [], N, q + K⟩ : Nx).wd 0)) b 0 0 rfl rfl rfl rfl rfl (.refl _) (.refl _) (.refl _) (by rw [hnum]; rfl)
      · obtain ⟨c', hc'⟩ : ∃ c', s[at_ + q + i]? = some c' := by
          have : at_ + q + i < s.length := by
            rcases Nat.lt_or_ge (at_ + q + i) s.length with h | h
            · exact h
            · exact absurd (by rw [List.drop_eq_nil_of_le h]; rfl) hend
          exact ⟨_, List.getElem?_eq_getElem this⟩
        have hdg : isDg c' = true := by
          cases e : isDg c' with
          | true => rfl
          | false => exact absurd (by rw [drop_at hc', spanN_stop e]) hend
        have hcd : 48 ≤ c'.toNat ∧ c'.toNat ≤ 57 := by simpa [isDg] using hdg
        have hlen := (List.getElem?_eq_some_iff.1 hc').1
        have hspc : spanN isDg (s.drop (at_ + q + i)) = 1 + spanN isDg (s.drop (at_ + q + (i + 1))) := by rw [drop_at hc', spanN_cons hdg, Nat.add_comm]; rfl
        have htk : (s.drop (at_ + q)).take (i + 1) = (s.drop (at_ + q)).take i ++ [c'] := by
          rw [List.take_add_one, List.getElem?_drop, hc']; rfl
        have hval : digV 0 ((s.drop (at_ + q)).take (i + 1)) = digV 0 ((s.drop (at_ + q)).take i) * 10 + (c'.toNat - 48) := by rw [htk, digV_app]
        have hmono : digV 0 ((s.drop (at_ + q)).take (i + 1)) ≤ u := by
          rw [hu]
          have e : (s.drop (at_ + q)).take K = (s.drop (at_ + q)).take (i + 1) ++ ((s.drop (at_ + q)).drop (i + 1)).take (K - (i + 1)) := by
            rw [← List.take_add]; congr 1; omega
          rw [e]; exact digV_mono _ _ _
        obtain ⟨v, hvv⟩ : ∃ v, v = digV 0 ((s.drop (at_ + q)).take i) := ⟨_, rfl⟩
        rw [← hvv] at hv hval ⊢
        obtain ⟨d, hdd⟩ : ∃ d, d = c'.toNat - 48 := ⟨_, rfl⟩
        rw [← hdd] at hval
        have hd9 : d ≤ 9 := by omega
        have e1 : IntKind.u64.wrap (IntKind.u8.wrap ((c'.toNat : Int) - 48)) = (d : Int) := by
          rw [show IntKind.u8.wrap ((c'.toNat : Int) - 48) = (d : Int) by rw [w_u8]; omega, w_u64_small (by omega) (by omega)]
        have e2 : IntKind.u64.wrap ((IntKind.u64.wrap ((most : Int) - (d : Int))).tdiv 10) = (((most - d) / 10 : Nat) : Int) := by
          rw [w_u64_small (n := (most : Int) - d) (by omega) (by omega), Int.tdiv_eq_ediv_of_nonneg (by omega), w_u64_small (by omega) (by omega)]; omega
        have hne : (0 : Int) ≤ IntKind.i64.wrap ((at_ : Int) + (q + i : Nat)) ∧ IntKind.i64.wrap ((at_ : Int) + (q + i : Nat)) < (S s).size := by rw [w1, S_size]; omega
        have hbb : byteAt (S s) (Int.toNat (IntKind.i64.wrap ((at_ : Int) + (q + i : Nat)))) = c' := by rw [w1]; exact byte_at hc'
        (conv => arg 2; whnf); refine wp_ite (fun _ => ?_) (fun h => by rw [w1] at h; have := of_decide_eq_false h; rw [S_size] at this; omega)
        (conv => arg 2; whnf); refine wp_need hne ?_
        (conv => arg 2; whnf); refine wp_pcallV (.cons (cByteAt hc' w1 rfl) .nil) (rdigit_call c') ?_
        rw [hdg]
        (repeat ((conv => arg 2; whnf); first | refine wp_ite (fun _ => ?_) (fun h => Bool.noConfusion h) | refine wp_ite (fun h => Bool.noConfusion h) (fun _ => ?_)))
        (conv => arg 2; whnf); refine wp_cutR (frL [(0, str s), (1, i64V at_), (4, .loc b 0), (7, bV neg), (8, i64V (q + i : Nat)), (9, u64V v), (10, u64V most)]) _ (.cons (.refl _) (.cons (.refl _) (.cons (.refl _) (.cons (.refl _) (.cons (.refl _) (.cons (.refl _) (.cons (.refl _) (.nil _)))))))) (List.Sublist.refl _) ?_
        (conv => arg 2; whnf); refine wp_need hne ?_
        (conv => arg 2; whnf); refine wp_cutR (frL [(0, str s), (1, i64V at_), (4, .loc b 0), (7, bV neg), (8, i64V (q + i : Nat)), (9, u64V v), (10, u64V most), (11, u64V d)]) _ (.cons (.refl _) (.cons (.refl _) (.cons (.refl _) (.cons (.refl _) (.cons (.refl _) (.cons (.refl _) (.cons (.refl _) (.cons (Vle.of _ rfl (cU64 (by rw [hbb]; exact e1))) (.nil _))))))))) (List.Sublist.refl _) ?_
        (conv => arg 2; whnf); refine wp_ite (fun h => ?_) (fun h => ?_)
        · rw [e2] at h
          have h := of_decide_eq_true h
          rw [if_neg (by omega)] at hnum
          (conv => arg 2; whnf); refine wp_store' 0 rfl (Nat.le_of_ble_eq_true rfl) rfl ?_
          (conv => arg 2; whnf)
          refine wp_leaf (loop_ret ?_)
          (conv => arg 2; whnf); refine w_ret3cE (cs := wdL wd0) b 0 0 rfl rfl rfl rfl rfl (.refl _) (.refl _) (.refl _) (by rw [hnum]; rfl)
        · rw [e2] at h
          have h := of_decide_eq_false h
          have hle : v * 10 + d ≤ most := by omega
          have e3 : IntKind.u64.wrap (IntKind.u64.wrap ((v : Int) * 10) + (d : Int)) = ((digV 0 ((s.drop (at_ + q)).take (i + 1)) : Nat) : Int) := by
            rw [hval, w_u64_small (n := (v : Int) * 10) (by omega) (by omega), w_u64_small (by omega) (by omega)]; omega
          (conv => arg 2; whnf); refine wp_cutR (frL [(0, str s), (1, i64V at_), (4, .loc b 0), (7, bV neg), (8, i64V (q + i : Nat)), (9, u64V v), (10, u64V most), (11, u64V d)]) _ (.cons (.refl _) (.cons (.refl _) (.cons (.refl _) (.cons (.refl _) (.cons (.refl _) (.cons (.refl _) (.cons (.refl _) (.cons (.refl _) (.nil _))))))))) (List.Sublist.refl _) ?_
          (conv => arg 2; whnf)
          refine wp_leaf (loop_next (s.length - (i + 1)) _ [.obj b (wdL wd0)] (by omega) (.cons (.refl _) (.cons (.refl _) (.cons (.refl _) (.cons (.refl _) (.cons (Vle.inc (q + i) rfl (by omega)) (.cons (Vle.of (V.c (.int .u64 (IntKind.u64.wrap (IntKind.u64.wrap ((v : Int) * 10) + (d : Int))))) rfl (cU64 e3)) (.cons (.refl _) (.nil _)))))))) (List.Sublist.refl _) ⟨i + 1, rfl, by omega, rfl, by omega, by rw [hval]; exact hle, rfl⟩)
end Go.Sv
/- The reference's words: texts. -/
namespace Go.Sv
open Go Go.Proofs

set_option maxRecDepth 100000 in
set_option maxHeartbeats 1000000 in
theorem rtext_call (s : List UInt8) (at_ : Nat) (hat : at_ < s.length) (hs : s.length < 2 ^ 40) : PCall Tryz.prog 84 [str s, i64V at_] (rnxV (textN (s.drop at_))) := by
  have htn : textN (s.drop at_) = textE (textR [] (s.drop (at_ + 1))) := by rw [textN, List.drop_drop]
  rw [htn]
  refine scall_of (live := []) (ords := [(5, []), (7, []), (9, []), (12, [])]) Tryz.func84 rfl (by kernel_rfl) (by kernel_rfl) (Nat.le_of_ble_eq_true rfl) ?_
  (conv => arg 2; whnf); refine wp_allocE (wdL wd0) rfl fun b => ?_
  have w1 : IntKind.i64.wrap ((at_ : Int) + 1) = ((at_ + 1 : Nat) : Int) := wadd (by omega) (by omega) (by omega)
  (conv => arg 2; whnf); refine wp_loop (fun m fr R => ∃ (i : Nat) (out : List UInt8), m = s.length - i ∧ at_ + 1 ≤ i ∧ i ≤ s.length ∧ R = [.obj b (wdL wd0)] ∧ textR [] (s.drop (at_ + 1)) = addN (i - (at_ + 1)) (textR out (s.drop i)) ∧ out.length ≤ i ∧
      fr = frL [(0, str s), (1, i64V at_), (4, .loc b 0), (7, str out), (8, i64V i)])
    (s.length - (at_ + 1)) _ _ (.cons (.refl _) (.cons (.refl _) (.cons (.refl _) (.cons (.refl _) (.cons (Vle.i64 _ rfl w1) (.nil _)))))) (List.Sublist.refl _) ⟨at_ + 1, [], rfl, Nat.le_refl _, hat, rfl, by rw [Nat.sub_self, addN_zero], Nat.zero_le _, rfl⟩ ?_
  rintro m fr R ⟨i, out, rfl, hi1, hi, rfl, hinv, hout, rfl⟩
  have w2 : IntKind.i64.wrap ((i : Int) + 1) = ((i + 1 : Nat) : Int) := wadd (by omega) (by omega) (by omega)
  generalize textR [] (s.drop (at_ + 1)) = res at *
  have w4 : IntKind.i64.wrap (IntKind.i64.wrap ((i : Int) + 1) - at_) = ((i + 1 - at_ : Nat) : Int) := by rw [w2]; exact wsub (by omega) (by omega) (by omega)
  (conv => arg 2; whnf); refine wp_ite (fun h => ?_) (fun h => ?_)
  · have h : i < s.length := by have := of_decide_eq_true h; rw [S_size] at this; omega
    obtain ⟨c, hc⟩ : ∃ c, s[i]? = some c := ⟨_, List.getElem?_eq_getElem h⟩
    have hd := drop_at hc
    rw [hd] at hinv
    have hb : byteAt (S s) (Int.toNat (i : Int)) = c := byte_at hc
    have hne : (0 : Int) ≤ (i : Int) ∧ (i : Int) < (S s).size := by rw [S_size]; omega
    have k34 : (((byteAt (S s) (Int.toNat (i : Int))).toNat : Int) != 34) = !decide (c = 34) := by rw [hb]; exact c_int_ne c 34 34 rfl
    have k92 : (((byteAt (S s) (Int.toNat (i : Int))).toNat : Int) == 92) = decide (c = 92) := by rw [hb]; exact c_int_eq c 92 92 rfl
    have klt : decide (((byteAt (S s) (Int.toNat (i : Int))).toNat : Int) < 32) = decide (c.toNat < 32) := by rw [hb]; exact decide_eq_decide.2 (by omega)
    have kgt : decide (((byteAt (S s) (Int.toNat (i : Int))).toNat : Int) > 126) = decide (126 < c.toNat) := by rw [hb]; exact decide_eq_decide.2 (by omega)
    (conv => arg 2; whnf); refine wp_need hne ?_
    (conv => arg 2; whnf); refine wp_ite (fun h1 => ?_) (fun h1 => ?_)
    · have h34 : c ≠ 34 := by rw [k34] at h1; simpa using h1
      (conv => arg 2; whnf); refine wp_cutR (frL [(0, str s), (1, i64V at_), (4, .loc b 0), (7, str out), (8, i64V i)]) _ (.cons (.refl _) (.cons (.refl _) (.cons (.refl _) (.cons (.refl _) (.cons (.refl _) (.nil _)))))) (List.Sublist.refl _) ?_
      (conv => arg 2; whnf); refine wp_need hne ?_
      (conv => arg 2; whnf); refine wp_ite (fun h2 => ?_) (fun h2 => ?_)
      · have h2' : c = 92 := by rw [k92] at h2; exact of_decide_eq_true h2
        subst h2'
        (conv => arg 2; whnf); refine wp_cutR (frL [(0, str s), (1, i64V at_), (4, .loc b 0), (7, str out), (8, i64V (i + 1 : Nat))]) _ (.cons (.refl _) (.cons (.refl _) (.cons (.refl _) (.cons (.refl _) (.cons (Vle.i64 _ rfl w2) (.nil _)))))) (List.Sublist.refl _) ?_
        (conv => arg 2; whnf); refine wp_ite (fun h3 => ?_) (fun h3 => ?_)
        · have h3 : i + 1 = s.length := by have := of_decide_eq_true h3; rw [S_size] at this; omega
          rw [h3, List.drop_length, textR_end] at hinv
          (repeat ((conv => arg 2; whnf); first | refine wp_ite (fun _ => ?_) (fun h => Bool.noConfusion h) | refine wp_ite (fun h => Bool.noConfusion h) (fun _ => ?_)))
          (conv => arg 2; whnf); refine wp_store' 0 rfl (Nat.le_of_ble_eq_true rfl) rfl ?_
          (conv => arg 2; whnf)
          refine wp_leaf (loop_ret ?_)
          (conv => arg 2; whnf); refine w_ret3cE (cs := wdL wd0) b 0 0 rfl rfl rfl rfl rfl (.refl _) (.refl _) (.refl _) (by rw [hinv]; rfl)
        have h3 : i + 1 < s.length := by have := of_decide_eq_false h3; rw [S_size] at this; omega
        obtain ⟨d, hdc⟩ : ∃ d, s[i + 1]? = some d := ⟨_, List.getElem?_eq_getElem h3⟩
        have hb2 : byteAt (S s) (Int.toNat ((i + 1 : Nat) : Int)) = d := byte_at hdc
        have hd2 := drop_at hdc
        rw [hd2, textR_92] at hinv
        have k34 : (((byteAt (S s) (Int.toNat ((i + 1 : Nat) : Int))).toNat : Int) != 34) = !decide (d = 34) := by rw [hb2]; exact c_int_ne d 34 34 rfl
        have k92 : (((byteAt (S s) (Int.toNat ((i + 1 : Nat) : Int))).toNat : Int) != 92) = !decide (d = 92) := by rw [hb2]; exact c_int_ne d 92 92 rfl
        have klt : decide (((byteAt (S s) (Int.toNat ((i + 1 : Nat) : Int))).toNat : Int) < 32) = decide (d.toNat < 32) := by rw [hb2]; exact decide_eq_decide.2 (by omega)
        have kgt : decide (((byteAt (S s) (Int.toNat ((i + 1 : Nat) : Int))).toNat : Int) > 126) = decide (126 < d.toNat) := by rw [hb2]; exact decide_eq_decide.2 (by omega)
        have hne : (0 : Int) ≤ ((i + 1 : Nat) : Int) ∧ ((i + 1 : Nat) : Int) < (S s).size := by rw [S_size]; omega
        have w5 : IntKind.i64.wrap (((i + 1 : Nat) : Int) + 1) = ((i + 1 + 1 : Nat) : Int) := wadd (by omega) (by omega) (by omega)
        (conv => arg 2; whnf); refine wp_need hne ?_
        by_cases hq : d = 34 ∨ d = 92
        · rw [if_pos hq] at hinv
          have hokd : 32 ≤ d.toNat ∧ d.toNat ≤ 126 := by rcases hq with rfl | rfl <;> decide
          apply wp_joinT
          case h1 =>
            intro rest
            rcases hq with hq | hq
            · (conv => arg 2; whnf); refine wp_ite (fun h4 => by rw [k34, hq] at h4; cases h4) (fun h4 => ?_)
              (repeat ((conv => arg 2; whnf); first | refine wp_ite (fun _ => ?_) (fun h => Bool.noConfusion h) | refine wp_ite (fun h => Bool.noConfusion h) (fun _ => ?_)))
              (conv => arg 2; whnf)
              exact wp_cutR (frL [(0, str s), (1, i64V at_), (4, .loc b 0), (7, str out), (8, i64V (i + 1 : Nat))]) [.obj b (wdL wd0)] (.cons (.refl _) (.cons (.refl _) (.cons (.refl _) (.cons (.refl _) (.cons (.refl _) (.nil _)))))) (List.Sublist.refl _) rest
            · (conv => arg 2; whnf); refine wp_ite (fun h4 => ?_) (fun h4 => by rw [k34, hq] at h4; cases h4)
              (conv => arg 2; whnf); refine wp_need hne ?_
              (conv => arg 2; whnf); refine wp_ite (fun h4 => by rw [k92, hq] at h4; cases h4) (fun h4 => ?_)
              (repeat ((conv => arg 2; whnf); first | refine wp_ite (fun _ => ?_) (fun h => Bool.noConfusion h) | refine wp_ite (fun h => Bool.noConfusion h) (fun _ => ?_)))
              (conv => arg 2; whnf)
              exact wp_cutR (frL [(0, str s), (1, i64V at_), (4, .loc b 0), (7, str out), (8, i64V (i + 1 : Nat))]) [.obj b (wdL wd0)] (.cons (.refl _) (.cons (.refl _) (.cons (.refl _) (.cons (.refl _) (.cons (.refl _) (.nil _)))))) (List.Sublist.refl _) rest
          case rest =>
            rw [addN_addN] at hinv
            (conv => arg 2; whnf); refine wp_need hne ?_
            (conv => arg 2; whnf); refine wp_ite (fun h5 => by rw [klt] at h5; have := of_decide_eq_true h5; omega) (fun _ => ?_)
            (conv => arg 2; whnf); refine wp_need hne ?_
            (conv => arg 2; whnf); refine wp_ite (fun h5 => by rw [kgt] at h5; have := of_decide_eq_true h5; omega) (fun _ => ?_)
            (conv => arg 2; whnf); refine wp_need (by rw [w5, S_size]; omega) ?_
            (conv => arg 2; whnf); refine wp_need (by rw [sliceOne hdc rfl w5, S_size, S_size]; show _ + 1 ≤ _; omega) ?_
            (conv => arg 2; whnf)
            refine wp_leaf (loop_next (s.length - (i + 1 + 1)) _ [.obj b (wdL wd0)] (by omega) (.cons (.refl _) (.cons (.refl _) (.cons (.refl _) (.cons (addOne hdc rfl w5 rfl) (.cons (Vle.inc (i + 1) rfl (by omega)) (.nil _)))))) (List.Sublist.refl _) ⟨i + 1 + 1, out ++ [d], rfl, by omega, by omega, rfl, ?_, by simp; omega, rfl⟩)
            rw [hinv]; congr 1; omega
        · rw [if_neg hq] at hinv
          (conv => arg 2; whnf); refine wp_ite (fun h4 => ?_) (fun h4 => ?_)
          · (conv => arg 2; whnf); refine wp_need hne ?_
            (conv => arg 2; whnf); refine wp_ite (fun h5 => ?_) (fun h5 => ?_)
            · (conv => arg 2; whnf); refine wp_store' 0 rfl (Nat.le_of_ble_eq_true rfl) rfl ?_
              (conv => arg 2; whnf)
              refine wp_leaf (loop_ret ?_)
              (conv => arg 2; whnf); refine w_ret3cE (cs := wdL wd0) b 0 0 rfl rfl rfl rfl rfl (.refl _) (.refl _) (.refl _) (by rw [hinv]; rfl)
            · exfalso
              rw [k92] at h5
              simp at h5
              exact hq (.inr h5)
          · exfalso
            rw [k34] at h4
            simp at h4
            exact hq (.inl h4)
      · have h92 : c ≠ 92 := by rw [k92] at h2; exact of_decide_eq_false h2
        rw [textR_c _ _ h34 h92] at hinv
        (conv => arg 2; whnf); refine wp_cutR (frL [(0, str s), (1, i64V at_), (4, .loc b 0), (7, str out), (8, i64V i)]) _ (.cons (.refl _) (.cons (.refl _) (.cons (.refl _) (.cons (.refl _) (.cons (.refl _) (.nil _)))))) (List.Sublist.refl _) ?_
        (conv => arg 2; whnf); refine wp_need hne ?_
        (conv => arg 2; whnf); refine wp_ite (fun h5 => ?_) (fun h5 => ?_)
        · rw [klt] at h5
          rw [if_neg (by have := of_decide_eq_true h5; omega)] at hinv
          (repeat ((conv => arg 2; whnf); first | refine wp_ite (fun _ => ?_) (fun h => Bool.noConfusion h) | refine wp_ite (fun h => Bool.noConfusion h) (fun _ => ?_)))
          (conv => arg 2; whnf); refine wp_store' 0 rfl (Nat.le_of_ble_eq_true rfl) rfl ?_
          (conv => arg 2; whnf)
          refine wp_leaf (loop_ret ?_)
          (conv => arg 2; whnf); refine w_ret3cE (cs := wdL wd0) b 0 0 rfl rfl rfl rfl rfl (.refl _) (.refl _) (.refl _) (by rw [hinv]; rfl)
        · rw [klt] at h5
          (conv => arg 2; whnf); refine wp_need hne ?_
          (conv => arg 2; whnf); refine wp_ite (fun h6 => ?_) (fun h6 => ?_)
          · rw [kgt] at h6
            rw [if_neg (by have := of_decide_eq_true h6; omega)] at hinv
            (repeat ((conv => arg 2; whnf); first | refine wp_ite (fun _ => ?_) (fun h => Bool.noConfusion h) | refine wp_ite (fun h => Bool.noConfusion h) (fun _ => ?_)))
            (conv => arg 2; whnf); refine wp_store' 0 rfl (Nat.le_of_ble_eq_true rfl) rfl ?_
            (conv => arg 2; whnf)
            refine wp_leaf (loop_ret ?_)
            (conv => arg 2; whnf); refine w_ret3cE (cs := wdL wd0) b 0 0 rfl rfl rfl rfl rfl (.refl _) (.refl _) (.refl _) (by rw [hinv]; rfl)
          · rw [kgt] at h6
            rw [if_pos (by have := of_decide_eq_false h5; have := of_decide_eq_false h6; omega), addN_addN] at hinv
            (conv => arg 2; whnf); refine wp_need (by rw [w2, S_size]; omega) ?_
            (conv => arg 2; whnf); refine wp_need (by rw [sliceOne hc rfl w2, S_size, S_size]; show _ + 1 ≤ _; omega) ?_
            (conv => arg 2; whnf)
            refine wp_leaf (loop_next (s.length - (i + 1)) _ [.obj b (wdL wd0)] (by omega) (.cons (.refl _) (.cons (.refl _) (.cons (.refl _) (.cons (addOne hc rfl w2 rfl) (.cons (Vle.inc i rfl (by omega)) (.nil _)))))) (List.Sublist.refl _) ⟨i + 1, out ++ [c], rfl, by omega, by omega, rfl, ?_, by simp; omega, rfl⟩)
            rw [hinv]; congr 1; omega
    · have h34 : c = 34 := by rw [k34] at h1; simpa using h1
      subst h34
      rw [textR_34] at hinv
      (conv => arg 2; whnf)
      refine wp_leaf (loop_exit ?_)
      (conv => arg 2; whnf); refine wp_cutR (frL [(0, str s), (1, i64V at_), (4, .loc b 0), (7, str out), (8, i64V i)]) _ (.cons (.refl _) (.cons (.refl _) (.cons (.refl _) (.cons (.refl _) (.cons (.refl _) (.nil _)))))) (List.Sublist.refl _) ?_
      (conv => arg 2; whnf); refine wp_ite (fun h5 => by have := of_decide_eq_true h5; rw [S_size] at this; omega) (fun _ => ?_)
      (conv => arg 2; whnf); refine wp_ite (fun h5 => ?_) (fun h5 => ?_)
      · rw [if_pos (by have := of_decide_eq_true h5; rw [S_size] at this; omega)] at hinv
        (conv => arg 2; whnf); refine wp_store' 0 rfl (Nat.le_of_ble_eq_true rfl) rfl ?_
        (conv => arg 2; whnf); refine w_ret3cE (cs := wdL wd0) b 0 0 rfl rfl rfl rfl rfl (.refl _) (.refl _) (.refl _) (by rw [hinv]; rfl)
      · rw [if_neg (by have := of_decide_eq_false h5; rw [S_size] at this; omega)] at hinv
        (conv => arg 2; whnf); refine wp_store' 0 rfl (Nat.le_of_ble_eq_true rfl) rfl ?_
        (conv => arg 2; whnf); refine w_ret3cE (cs := wdL ((⟨3, out, 0, i + 1 - at_⟩ : Nx).wd 0)) b 0 0 rfl rfl rfl rfl rfl (.refl _) (Vle.i64 _ rfl w4) (.refl _) ?_
        rw [hinv, show i + 1 - at_ = 1 + (i - (at_ + 1)) + 1 by omega]; rfl
  · have h : i = s.length := by have := of_decide_eq_false h; rw [S_size] at this; omega
    rw [h, List.drop_length, textR.eq_def] at hinv
    (repeat ((conv => arg 2; whnf); first | refine wp_ite (fun _ => ?_) (fun h => Bool.noConfusion h) | refine wp_ite (fun h => Bool.noConfusion h) (fun _ => ?_)))
    (conv => arg 2; whnf)
    refine wp_leaf (loop_exit ?_)
    (conv => arg 2; whnf); refine wp_cutR (frL [(0, str s), (4, .loc b 0), (8, i64V i)]) _ (.cons (.refl _) (.cons (.refl _) (.cons (.refl _) (.nil _)))) (List.Sublist.refl _) ?_
    (conv => arg 2; whnf); refine wp_ite (fun _ => ?_) (fun h5 => by have := of_decide_eq_false h5; rw [S_size] at this; omega)
    (conv => arg 2; whnf); refine wp_store' 0 rfl (Nat.le_of_ble_eq_true rfl) rfl ?_
    (conv => arg 2; whnf); refine w_ret3cE (cs := wdL wd0) b 0 0 rfl rfl rfl rfl rfl (.refl _) (.refl _) (.refl _) (by rw [hinv]; rfl)
end Go.Sv
