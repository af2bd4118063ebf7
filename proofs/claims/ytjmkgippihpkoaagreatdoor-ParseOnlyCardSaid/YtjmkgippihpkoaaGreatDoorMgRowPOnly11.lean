/- Parts of the proof, one behind the other. -/
import Derived.Test.YtjmkgippihpkoaaGreatDoorMgRowPOnly10
import Derived.Test.YtjmkgippihpkoaaGreatDoorMgRowPOnly8
import Derived.Test.YtjmkgippihpkoaaGreatDoorMgRowPOnly9
/- The program's parser: a pattern. -/
namespace Go.Sv
open Go Go.Proofs

theorem Sim.other {α : Type} {r : Got α} {x y : α} {l l' : List Wd} {m n n' : Nat} (h : Sim r x l (some m) n) : Sim r y l' (some m) n' := ⟨fun h => (by cases h), h.2⟩
theorem Sim.pass {α : Type} {r : Got α} {e : Option Nat} {x : α} {l : List Wd} {e' : Option Nat} {n : Nat} (h : Sim (startE e r) x l e' n) : ∀ m, e = some m → e' = some m := fun m hm => by
  subst hm
  cases e' with
  | none => have := h.1 rfl; cases this
  | some k => have := h.2 k rfl; cases this; rfl

structure ElInv (s : List UInt8) (r0 : Got (List El)) (m : Nat) (acc : List El) (l : List Wd) (e : Option Nat) (n : Nat) (L0 : List Wd) : Prop where
  ok : e = none → r0 = elemsE s m acc l n ∧ l.length ≤ m ∧ l <:+ L0 ∧ acc.length + l.length ≤ 501
  er : ∀ k, e = some k → r0 = .error k
theorem ElInv.step {s : List UInt8} {r0 : Got (List El)} {m : Nat} {acc : List El} {l : List Wd} {n : Nat} {L0 : List Wd} (h : ElInv s r0 m acc l none n L0) (hL : AllOk s.length L0) (hb : isP l none 5 [44] = true) :
    AllOk s.length l.tail ∧ l.tail.length ≤ 2 ^ 30 ∧ 0 < m ∧ acc.length + 1 ≤ 502 ∧ ∀ x l1 e1 n1, Sim (startE none (elemE s l.tail n)) x l1 e1 n1 → ElInv s r0 (m - 1) (acc ++ [x]) l1 e1 n1 L0 := by
  obtain ⟨h1, h2, h3, h4⟩ := h.ok rfl
  obtain ⟨w, r, rfl⟩ := isP_cons hb
  rw [isP_hdT (by decide)] at hb
  rw [List.length_cons] at h2 h4
  obtain ⟨k, rfl⟩ : ∃ k, m = k + 1 := ⟨m - 1, by omega⟩
  rw [elemsE, if_pos hb] at h1
  have ht : AllOk s.length r := (hL.suf h3).tail
  refine ⟨ht, by show r.length ≤ _; omega, by omega, by omega, fun x l1 e1 n1 hS => ⟨fun he => ?_, fun q hq => ?_⟩⟩
  · have hr := hS.1 he
    obtain ⟨_, a2, a3⟩ := elemE_ok ht hr
    have a4 := suf_len a2
    refine ⟨?_, by show l1.length ≤ k; omega, a2.trans ((List.suffix_cons w r).trans h3), ?_⟩
    · rw [h1, show elemE s (w :: r).tail n = .ok (x, l1, n1) from hr, thenE_o]; rfl
    · rw [List.length_append, List.length_singleton]; omega
  · have hr := hS.2 q hq
    rw [h1, show elemE s (w :: r).tail n = .error q from hr, thenE_e]
theorem ElInv.fin {s : List UInt8} {r0 : Got (List El)} {m : Nat} {acc : List El} {l : List Wd} {e : Option Nat} {n : Nat} {L0 : List Wd} (h : ElInv s r0 m acc l e n L0) (hb : isP l e 5 [44] = false) : Sim r0 acc l e n := by
  refine ⟨fun he => ?_, h.er⟩
  subst he
  rw [isP_hdT (by decide)] at hb
  rw [(h.ok rfl).1]
  cases m with
  | zero => rfl
  | succ k => rw [elemsE, hb]; rfl

/-- What a pattern's walk comes to. -/
theorem pat_sim {s : List UInt8} {l l1 l2 l3 l4 l5 l6 l8 l9 l10 : List Wd} {e1 e2 e3 e4 e5 e6 e8 e9 : Option Nat} {n3 n4 : Nat} {x0 : El} {els : List El} {wn : Int} {bt : List UInt8} {a10 : Bool}
    (hl1 : l1 = mayL l none 4 seq3) (he1 : e1 = mustX l none 4 seq3) (hl2 : l2 = mayL l1 e1 5 [40]) (he2 : e2 = mustX l1 e1 5 [40]) (hE : Sim (startE e2 (elemE s l2 0)) x0 l3 e3 n3)
    (hEs : Sim (startE e3 (elemsE s l3.length [x0] l3 n3)) els l4 e4 n4) (hl5 : l5 = mayL l4 e4 5 [41]) (he5 : e5 = mustX l4 e4 5 [41]) (hl6 : l6 = mayL l5 e5 4 within6) (he6 : e6 = mustX l5 e5 4 within6)
    (h8 : ∀ m, e6 = some m → e8 = some m) (hW : e6 = none → Sim (withinE s l6 n4) wn l8 e8 n4) (h9 : ∀ m, e8 = some m → e9 = some m) (hB : e8 = none → Sim (byE l8 n4) bt l9 e9 n4)
    (ha : a10 = isP l9 e9 4 any3) (hl10 : l10 = mayL l9 e9 4 any3) : Sim (patE s l 0) ⟨els, wn, bt, a10⟩ l10 e9 n4 := by
  have x6 : ∀ m, e5 = some m → e6 = some m := fun m hm => by rw [he6, hm, mustX_some]
  have x5 : ∀ m, e4 = some m → e5 = some m := fun m hm => by rw [he5, hm, mustX_some]
  have x4 := hEs.pass
  have x3 := hE.pass
  have x2 : ∀ m, e1 = some m → e2 = some m := fun m hm => by rw [he2, hm, mustX_some]
  unfold patE
  refine Sim.bind (x := ()) (l := l1) (e := e1) (n := 0) (by rw [hl1, he1]; exact sim_must (by decide)) (fun m hm => h9 m (h8 m (x6 m (x5 m (x4 m (x3 m (x2 m hm))))))) fun h => ?_
  subst h
  refine Sim.bind (x := ()) (l := l2) (e := e2) (n := 0) (by rw [hl2, he2]; exact sim_must (by decide)) (fun m hm => h9 m (h8 m (x6 m (x5 m (x4 m (x3 m hm)))))) fun h => ?_
  subst h
  refine Sim.bind hE (fun m hm => h9 m (h8 m (x6 m (x5 m (x4 m hm))))) fun h => ?_
  subst h
  refine Sim.bind hEs (fun m hm => h9 m (h8 m (x6 m (x5 m hm)))) fun h => ?_
  subst h
  refine Sim.bind (x := ()) (l := l5) (e := e5) (n := n4) (by rw [hl5, he5]; exact sim_must (by decide)) (fun m hm => h9 m (h8 m (x6 m hm))) fun h => ?_
  subst h
  refine Sim.bind (x := ()) (l := l6) (e := e6) (n := n4) (by rw [hl6, he6]; exact sim_must (by decide)) (fun m hm => h9 m (h8 m hm)) fun h => ?_
  subst h
  refine Sim.bind (hW rfl) h9 fun h => ?_
  subst h
  refine Sim.bind (hB rfl) (fun m hm => hm) fun h => ?_
  subst h
  rw [ha, hl10, isP_hdT (by decide), optT_may (by decide)]
  exact Sim.ok

def plE (s : List UInt8) (l : List Wd) (e : Option Nat) : Option Nat := if plainP s l e then e else failE e 10
theorem plE_pass {s : List UInt8} {l : List Wd} {e : Option Nat} : ∀ m, e = some m → mustX l (plE s l e) 2 [] = some m := fun m hm => by
  subst hm
  rw [plE, plainP_some, if_neg (by decide), show failE (some m) 10 = some m from rfl, mustX_some]
theorem within_ok {s : List UInt8} {l : List Wd} {e : Option Nat} {n : Nat} (h0 : ¬ (takeW l (plE s l e) 2).n < 0) (h1 : ¬ (takeW l (plE s l e) 2).n > 1000) (he : e = none) : Sim (withinE s l n) (takeW l (plE s l e) 2).n (mayL l (plE s l e) 2 []) (mustX l (plE s l e) 2 []) n := by
  subst he
  cases hp : plainP s l none with
  | true =>
    rw [plE, hp, if_pos rfl] at h0 h1 ⊢
    rw [plainP_none] at hp
    have hk : isP l none 2 [] = true := by rw [isP_hdK]; exact (Bool.and_eq_true _ _ ▸ hp).1
    rw [takeW, if_pos hk] at h0 h1 ⊢
    rw [mayL, mustX, if_pos hk, if_pos hk]
    have hpl : plainW s (l.headD wd0) = true := (Bool.and_eq_true _ _ ▸ hp).2
    rw [withinE, show hdK 2 l = true from hk, hpl, decide_eq_true (show 0 ≤ (l.headD wd0).n by omega), decide_eq_true (show (l.headD wd0).n ≤ 1000 by omega)]
    exact Sim.ok
  | false =>
    rw [plE, hp, if_neg (by decide), show failE none 10 = some 10 from rfl, mustX_some]
    rw [plainP_none] at hp
    have : withinE s l n = .error 10 := by
      rw [withinE]
      cases hk : hdK 2 l with
      | false => rfl
      | true =>
        rw [hk] at hp
        have hp : plainW s (l.headD wd0) = false := hp
        rw [hp]; rfl
    rw [this]
    exact Sim.err
theorem within_bad {s : List UInt8} {l : List Wd} {e : Option Nat} {n : Nat} (h : (takeW l (plE s l e) 2).n < 0 ∨ (takeW l (plE s l e) 2).n > 1000) : e = none ∧ plainP s l e = true ∧ mustX l (plE s l e) 2 [] = none ∧ withinE s l n = .error 10 := by
  have h0 : wd0.n = 0 := rfl
  cases e with
  | some m =>
    rw [plE, plainP_some, if_neg (by decide), show failE (some m) 10 = some m from rfl, takeW, isP_some, if_neg (by decide), h0] at h
    omega
  | none =>
    cases hp : plainP s l none with
    | false =>
      rw [plE, hp, if_neg (by decide), show failE none 10 = some 10 from rfl, takeW, isP_some, if_neg (by decide), h0] at h
      omega
    | true =>
      rw [plE, hp, if_pos rfl] at h ⊢
      rw [plainP_none] at hp
      have hk : isP l none 2 [] = true := by rw [isP_hdK]; exact (Bool.and_eq_true _ _ ▸ hp).1
      rw [takeW, if_pos hk] at h
      refine ⟨rfl, rfl, by rw [mustX, if_pos hk], ?_⟩
      rw [withinE, if_neg]
      simp only [Bool.and_eq_true, decide_eq_true_eq]
      omega
theorem by_yes {l : List Wd} {e : Option Nat} {n : Nat} (hk : isP l e 4 by2 = true) : e = none → Sim (byE l n) (takeW l.tail e 1).text (mayL l.tail e 1 []) (mustX l.tail e 1 []) n := by
  intro he
  subst he
  rw [isP_hdT (by decide)] at hk
  rw [byE, if_pos hk]
  exact Sim.bind sim_take (fun m hm => hm) fun h => by rw [h]; exact Sim.ok
theorem by_no {l : List Wd} {e : Option Nat} {n : Nat} (hk : isP l e 4 by2 = false) : e = none → Sim (byE l n) [] l e n := by
  intro he
  subst he
  rw [isP_hdT (by decide)] at hk
  rw [byE, hk]
  exact Sim.ok

theorem pat_bad {s : List UInt8} {l l1 l2 l3 l4 l5 l6 l8 : List Wd} {e1 e2 e3 e4 e5 e6 e8 : Option Nat} {n3 n4 n' : Nat} {x0 : El} {els : List El} {p : Pa}
    (hl1 : l1 = mayL l none 4 seq3) (he1 : e1 = mustX l none 4 seq3) (hl2 : l2 = mayL l1 e1 5 [40]) (he2 : e2 = mustX l1 e1 5 [40]) (hE : Sim (startE e2 (elemE s l2 0)) x0 l3 e3 n3)
    (hEs : Sim (startE e3 (elemsE s l3.length [x0] l3 n3)) els l4 e4 n4) (hl5 : l5 = mayL l4 e4 5 [41]) (he5 : e5 = mustX l4 e4 5 [41]) (hl6 : l6 = mayL l5 e5 4 within6) (he6 : e6 = mustX l5 e5 4 within6)
    (h : e6 = none) (h8 : e8 = none) (hw : withinE s l6 n4 = .error 10) : Sim (patE s l 0) p l8 (failE e8 10) n' := by
  rw [h8]
  refine Sim.other (pat_sim (wn := 0) (l8 := l8) (e8 := some 10) (bt := []) (l9 := l8) (e9 := some 10) hl1 he1 hl2 he2 hE hEs hl5 he5 hl6 he6 (fun m hm => ?_) (fun _ => ?_) (fun m hm => hm) (fun h => ?_) rfl rfl)
  · rw [h] at hm; cases hm
  · rw [hw]; exact Sim.err
  · cases h
/-- A pattern's cells while it is read. -/
def pZ : List V := [.sl none [] .zero, i64V 0, str [], bV false]
def psK (t : Nat) (els : List El) (w : Int) (bt : List UInt8) (a : Bool) : List V := [.sl (some 11) (els.map elV) (.t t), i64V w, str bt, bV a]
theorem psK_vle (t : Nat) (els : List El) (w : Int) (bt : List UInt8) (a : Bool) : VleL (psK t els w bt a) (paC ⟨els, w, bt, a⟩) := .cons (Vle.sl _ _ _) (VleL.refl _)
def pa0 : Pa := ⟨[], 0, [], false⟩
theorem pZ_vle : VleL pZ (paC pa0) := .cons (Vle.nil _ _ _) (VleL.refl _)
theorem one_el (x : El) : ∀ y ∈ [elV x], okE (some 11) y := fun y hy => by
  rw [List.mem_singleton.1 hy]
  exact ⟨elC x, rfl, rfl, fun c hc => List.all_eq_true.1 (show (elC x).all oneV = true from rfl) c hc⟩
theorem el_app (acc : List El) (x : El) (t : Nat) : V.sl (some 11) (acc.map elV ++ [elV x]) (.t t) = V.sl (some 11) ((acc ++ [x]).map elV) (.t t) := by rw [List.map_append]; rfl

set_option maxRecDepth 100000 in
theorem parsepat_call (b : Nat) (s : List UInt8) (hs : s.length < 2 ^ 40) (l : List Wd) (hl : AllOk s.length l) (hlen : l.length ≤ 500) : SCall Tryz.prog 19 [.loc b 0] [.obj b (prL s l none 0)] (GK paC b s (patE s l 0)) := by
  obtain ⟨l1, hl1⟩ : ∃ x, x = mayL l none 4 seq3 := ⟨_, rfl⟩
  obtain ⟨e1, he1⟩ : ∃ x, x = mustX l none 4 seq3 := ⟨_, rfl⟩
  have c1 := must_x b s l none 0 4 seq3
  rw [← hl1, ← he1] at c1
  obtain ⟨l2, hl2⟩ : ∃ x, x = mayL l1 e1 5 [40] := ⟨_, rfl⟩
  obtain ⟨e2, he2⟩ : ∃ x, x = mustX l1 e1 5 [40] := ⟨_, rfl⟩
  have c2 := must_x b s l1 e1 0 5 [40]
  rw [← hl2, ← he2] at c2
  have s2 : l2 <:+ l := by
    rw [hl2, hl1]
    exact (mayL_suf _ _ _ _).trans (mayL_suf _ _ _ _)
  have c3 := elem_call b s hs l2 e2 0 (hl.suf s2) (by have := suf_len s2; omega)
  have inv0 : ∀ x0 l3 e3 n3, Sim (startE e2 (elemE s l2 0)) x0 l3 e3 n3 → ElInv s (startE e3 (elemsE s l3.length [x0] l3 n3)) l3.length [x0] l3 e3 n3 l2 := by
    intro x0 l3 e3 n3 h
    refine ⟨fun he => ?_, fun k hk => by rw [hk]; rfl⟩
    subst he
    have h0 : e2 = none := by
      cases e2 with
      | none => rfl
      | some m => have := h.pass m rfl; cases this
    subst h0
    obtain ⟨_, a2, _⟩ := elemE_ok (hl.suf s2) (h.1 rfl)
    have a3 := suf_len a2
    have a4 := suf_len s2
    refine ⟨rfl, Nat.le_refl _, a2, ?_⟩
    rw [List.length_singleton]; omega
  have sEs : ∀ x0 l3 e3 n3 els l4 e4 n4, Sim (startE e2 (elemE s l2 0)) x0 l3 e3 n3 → Sim (startE e3 (elemsE s l3.length [x0] l3 n3)) els l4 e4 n4 → e4 = none → l4 <:+ l := by
    intro x0 l3 e3 n3 els l4 e4 n4 h h' he
    subst he
    have h3 : e3 = none := by
      cases e3 with
      | none => rfl
      | some m => have := h'.pass m rfl; cases this
    subst h3
    have h0 : e2 = none := by
      cases e2 with
      | none => rfl
      | some m => have := h.pass m rfl; cases this
    subst h0
    obtain ⟨a1, a2, _⟩ := elemE_ok (hl.suf s2) (h.1 rfl)
    have s3 := a2.trans s2
    obtain ⟨_, _, b3⟩ := elemsE_ok (K := 500) _ _ _ _ (hl.suf s3) (by have := suf_len s3; omega) (fun f hf => by
      rw [List.mem_singleton.1 hf]
      exact { a1 with tyk := Nat.le_trans a1.tyk (by have := suf_len s2; omega) }) (h'.1 rfl)
    exact b3.trans s3
  refine scall_of (live := [11, 16, 18, 1700000, 10001800000]) (ords := [(4, []), (6, [2, 0, 1, 3, 4, 5, 6, 7]), (7, []), (9, []), (11, []), (15, []), (18, [])]) Tryz.func19 rfl (by kernel_rfl) (by kernel_rfl) (Nat.le_of_ble_eq_true rfl) ?_
  (conv => arg 2; whnf); refine wp_allocE pZ rfl fun c => ?_
  (conv => arg 2; whnf); refine wp_allocD pZ rfl fun d hfr => ?_
  have hne : d ≠ b := fun e => hfr 0 b _ rfl (List.cons_ne_nil _ _) e.symm
  clear hfr
  (conv => arg 2; whnf); refine wp_callF [] [.obj b (prL s l none 0)] [.obj c pZ, .obj d pZ] rfl c1 ?_
  rintro v R1 ⟨rfl, rfl⟩
  (conv => arg 2; whnf); refine wp_callF [] [.obj b (prL s l1 e1 0)] [.obj c pZ, .obj d pZ] rfl c2 ?_
  rintro v R1 ⟨rfl, rfl⟩
  refine wp_cutR (frL [(0, .loc b 0), (2, .loc c 0), (3, .loc d 0)]) [.obj b (prL s l2 e2 0), .obj c pZ, .obj d pZ] (.cons (.refl _) (.cons (.refl _) (.cons (.refl _) (.nil _)))) (List.Sublist.refl _) ?_
  (conv => arg 2; whnf); refine wp_callF [] [.obj b (prL s l2 e2 0)] [.obj c pZ, .obj d pZ] rfl c3 ?_
  rintro v R1 ⟨x0, l3, e3, n3, rfl, rfl, hE⟩
  (conv => arg 2; whnf)
  intro t0
  (conv => arg 2; whnf); refine wp_storeE (cs := pZ) 2 0 [.sl (some 11) [elV x0] (.t t0)] rfl rfl (VleL.refl _) (Nat.le_of_ble_eq_true rfl) rfl (R' := [.obj b (prL s l3 e3 n3), .obj c pZ, .obj d (psK t0 [x0] 0 [] false), .tok t0 (some 11)]) rfl ?_
  (conv => arg 2; whnf); refine wp_loop (fun m fr R => ∃ acc l5 e5 n5 t, ElInv s (startE e3 (elemsE s l3.length [x0] l3 n3)) m acc l5 e5 n5 l2 ∧ R = [.obj b (prL s l5 e5 n5), .obj c pZ, .obj d (psK t acc 0 [] false), .tok t (some 11)] ∧ fr = frL [(0, .loc b 0), (2, .loc c 0), (3, .loc d 0)])
    l3.length _ _ (.cons (.refl _) (.cons (.refl _) (.cons (.refl _) (.nil _)))) (List.Sublist.refl _) ⟨_, _, _, _, _, inv0 _ _ _ _ hE, rfl, rfl⟩ ?_
  rintro m fr R ⟨acc, l5, e5, n5, t, hI, rfl, rfl⟩
  (conv => arg 2; whnf); refine wp_callF [] [.obj b (prL s l5 e5 n5)] [.obj c pZ, .obj d (psK t acc 0 [] false), .tok t (some 11)] rfl (may_call b s l5 e5 n5 5 [44]) ?_
  rintro v R1 (⟨hb, rfl, rfl⟩ | ⟨hb, rfl, rfl⟩)
  · obtain rfl := isP_none hb
    obtain ⟨hA, hln, hm, hlt, hstep⟩ := hI.step (hl.suf s2) hb
    have hlen2 : (acc.map elV).length + 1 ≤ 502 := by rw [List.length_map]; exact hlt
    have ce := elem_call b s hs l5.tail none n5 hA hln
    (repeat ((conv => arg 2; whnf); first | refine wp_ite (fun _ => ?_) (fun h => Bool.noConfusion h) | refine wp_ite (fun h => Bool.noConfusion h) (fun _ => ?_)))
    refine wp_cutR (frL [(0, .loc b 0), (2, .loc c 0), (3, .loc d 0)]) [.obj b (prL s l5.tail none n5), .obj c pZ, .obj d (psK t acc 0 [] false), .tok t (some 11)] (.cons (.refl _) (.cons (.refl _) (.cons (.refl _) (.nil _)))) (List.Sublist.refl _) ?_
    (conv => arg 2; whnf); refine wp_need (lates1 d 0 b 0 rfl rfl rfl hne) ?_
    (conv => arg 2; whnf); refine wp_load (cs := psK t acc 0 [] false) 2 rfl rfl ?_
    (conv => arg 2; whnf); refine wp_dcall [] [.obj b (prL s l5.tail none n5)] [.obj c pZ, .obj d (psK t acc 0 [] false), .tok t (some 11)] rfl (okq1 0 (by decide) rfl) ce ?_
    rintro v R1 ⟨x, l7, e7, n7, rfl, rfl, hE2⟩
    (conv => arg 2; whnf); refine wp_append_tok 3 rfl (one_el x) (Nat.le_trans (Nat.mul_le_mul_right _ hlen2) (Nat.le_of_ble_eq_true rfl)) fun t' => ?_
    (conv => arg 2; whnf); refine wp_storeE (cs := psK t acc 0 [] false) 2 0 [.sl (some 11) ((acc ++ [x]).map elV) (.t t')] rfl rfl (.cons (Vle.eq (el_app _ _ _)) .nil) (Nat.le_of_ble_eq_true rfl) rfl (R' := [.obj b (prL s l7 e7 n7), .obj c pZ, .obj d (psK t' (acc ++ [x]) 0 [] false), .tok t' (some 11)]) rfl ?_
    (conv => arg 2; whnf)
    exact wp_leaf (loop_next (m - 1) _ _ (by omega) (.cons (.refl _) (.cons (.refl _) (.cons (.refl _) (.nil _)))) (List.Sublist.refl _) ⟨_, _, _, _, _, hstep _ _ _ _ hE2, rfl, rfl⟩)
  have hEs := hI.fin hb
  clear hI
  (repeat ((conv => arg 2; whnf); first | refine wp_ite (fun _ => ?_) (fun h => Bool.noConfusion h) | refine wp_ite (fun h => Bool.noConfusion h) (fun _ => ?_)))
  (conv => arg 2; whnf)
  refine wp_leaf (loop_exit ?_)
  have s5 := sEs _ _ _ _ _ _ _ _ hE hEs
  obtain ⟨l6, hl6⟩ : ∃ x, x = mayL l5 e5 5 [41] := ⟨_, rfl⟩
  obtain ⟨e6, he6⟩ : ∃ x, x = mustX l5 e5 5 [41] := ⟨_, rfl⟩
  have c4 := must_x b s l5 e5 n5 5 [41]
  rw [← hl6, ← he6] at c4
  obtain ⟨l7, hl7⟩ : ∃ x, x = mayL l6 e6 4 within6 := ⟨_, rfl⟩
  obtain ⟨e7, he7⟩ : ∃ x, x = mustX l6 e6 4 within6 := ⟨_, rfl⟩
  have c5 := must_x b s l6 e6 n5 4 within6
  rw [← hl7, ← he7] at c5
  have a7 : e7 = none → AllOk s.length l7 := by
    intro h
    have h6 : e6 = none := by
      cases e6 with
      | none => rfl
      | some m => rw [he7, mustX_some] at h; cases h
    have h5 : e5 = none := by
      cases e5 with
      | none => rfl
      | some m => rw [he6, mustX_some] at h6; cases h6
    rw [hl7, hl6]
    exact hl.suf ((mayL_suf _ _ _ _).trans ((mayL_suf _ _ _ _).trans (s5 h5)))
  have c6 := plain_call2 b s l7 e7 n5 hs a7
  have c7 := take_x b s l7 (plE s l7 e7) n5 2
  obtain ⟨l8, hl8⟩ : ∃ x, x = mayL l7 (plE s l7 e7) 2 [] := ⟨_, rfl⟩
  obtain ⟨e8, he8⟩ : ∃ x, x = mustX l7 (plE s l7 e7) 2 [] := ⟨_, rfl⟩
  rw [← hl8, ← he8] at c7
  refine wp_cutR (frL [(0, .loc b 0), (2, .loc c 0), (3, .loc d 0)]) [.obj b (prL s l5 e5 n5), .obj c pZ, .obj d (psK t acc 0 [] false)] (.cons (.refl _) (.cons (.refl _) (.cons (.refl _) (.nil _)))) (by simp) ?_
  (conv => arg 2; whnf); refine wp_callF [] [.obj b (prL s l5 e5 n5)] [.obj c pZ, .obj d (psK t acc 0 [] false)] rfl c4 ?_
  rintro v R1 ⟨rfl, rfl⟩
  (conv => arg 2; whnf); refine wp_callF [] [.obj b (prL s l6 e6 n5)] [.obj c pZ, .obj d (psK t acc 0 [] false)] rfl c5 ?_
  rintro v R1 ⟨rfl, rfl⟩
  (conv => arg 2; whnf)
  refine wp_cutR (frL [(0, .loc b 0), (2, .loc c 0), (3, .loc d 0)]) [.obj b (prL s l7 e7 n5), .obj c pZ, .obj d (psK t acc 0 [] false)] (.cons (.refl _) (.cons (.refl _) (.cons (.refl _) (.nil _)))) (List.Sublist.refl _) ?_
  (conv => arg 2; whnf); refine wp_callF [] [.obj b (prL s l7 e7 n5)] [.obj c pZ, .obj d (psK t acc 0 [] false)] rfl c6 ?_
  rintro v R1 ⟨rfl, rfl⟩
  have fp : plainP s l7 e7 = false → failE e7 10 = plE s l7 e7 := fun h => by rw [plE, h]; rfl
  have fq : plainP s l7 e7 = true → e7 = plE s l7 e7 := fun h => by rw [plE, if_pos h]
  (conv => arg 2; whnf)
  apply wp_ite_join
  case h1 =>
    intro rest hp
    have hp : plainP s l7 e7 = false := by simpa using hp
    (conv => arg 2; whnf); refine wp_callF [] [.obj b (prL s l7 e7 n5)] [.obj c pZ, .obj d (psK t acc 0 [] false)] rfl (fails_call b s l7 e7 n5 10) ?_
    rintro v R1 ⟨rfl, rfl⟩
    rw [fp hp]
    (conv => arg 2; whnf)
    exact wp_cutR (frL [(0, .loc b 0), (2, .loc c 0), (3, .loc d 0)]) [.obj b (prL s l7 (plE s l7 e7) n5), .obj c pZ, .obj d (psK t acc 0 [] false)] (.cons (.refl _) (.cons (.refl _) (.cons (.refl _) (.nil _)))) (List.Sublist.refl _) rest
  case h2 =>
    intro rest hp
    have hp : plainP s l7 e7 = true := by simpa using hp
    have hR : [Res.obj b (prL s l7 (plE s l7 e7) n5), .obj c pZ, .obj d (psK t acc 0 [] false)] = [Res.obj b (prL s l7 e7 n5), .obj c pZ, .obj d (psK t acc 0 [] false)] := by rw [← fq hp]
    (conv => arg 2; whnf)
    exact wp_cutR (frL [(0, .loc b 0), (2, .loc c 0), (3, .loc d 0)]) [.obj b (prL s l7 (plE s l7 e7) n5), .obj c pZ, .obj d (psK t acc 0 [] false)] (.cons (.refl _) (.cons (.refl _) (.cons (.refl _) (.nil _)))) (hR ▸ List.Sublist.refl _) rest
  case rest =>
  (conv => arg 2; whnf); refine wp_callF [] [.obj b (prL s l7 (plE s l7 e7) n5)] [.obj c pZ, .obj d (psK t acc 0 [] false)] rfl c7 ?_
  rintro v R1 ⟨rfl, rfl⟩
  (conv => arg 2; whnf); refine wp_ite (fun h1 => ?_) (fun h1 => ?_)
  · have h1 := of_decide_eq_true h1
    (repeat ((conv => arg 2; whnf); first | refine wp_ite (fun _ => ?_) (fun h => Bool.noConfusion h) | refine wp_ite (fun h => Bool.noConfusion h) (fun _ => ?_)))
    obtain ⟨h7, hpl, h8n, hwi⟩ := within_bad (s := s) (l := l7) (e := e7) (n := n5) (.inl h1)
    (conv => arg 2; whnf); refine wp_callF [] [.obj b (prL s l8 e8 n5)] [.obj c pZ, .obj d (psK t acc 0 [] false)] rfl (fails_call b s l8 e8 n5 10) ?_
    rintro v R1 ⟨rfl, rfl⟩
    (conv => arg 2; whnf); refine wp_storeE (cs := pZ) 1 0 (paC pa0) rfl rfl pZ_vle (Nat.le_refl _) rfl (R' := [.obj b (prL s l8 (failE e8 10) n5), .obj c (paC pa0), .obj d (psK t acc 0 [] false)]) rfl ?_
    (conv => arg 2; whnf); refine w_ret1k (R' := [.obj b (prL s l8 (failE e8 10) n5)]) c 0 1 rfl rfl rfl rfl rfl (Vle.refl _) (by simp) ⟨_, _, _, _, rfl, rfl, pat_bad hl1 he1 hl2 he2 hE hEs hl6 he6 hl7 he7 h7 (he8.trans h8n) hwi⟩
  have h1 : ¬ (takeW l7 (plE s l7 e7) 2).n < 0 := of_decide_eq_false h1
  (conv => arg 2; whnf); refine wp_ite (fun h2 => ?_) (fun h2 => ?_)
  · have h2 := of_decide_eq_true h2
    obtain ⟨h7, hpl, h8n, hwi⟩ := within_bad (s := s) (l := l7) (e := e7) (n := n5) (.inr h2)
    (conv => arg 2; whnf); refine wp_callF [] [.obj b (prL s l8 e8 n5)] [.obj c pZ, .obj d (psK t acc 0 [] false)] rfl (fails_call b s l8 e8 n5 10) ?_
    rintro v R1 ⟨rfl, rfl⟩
    (conv => arg 2; whnf); refine wp_storeE (cs := pZ) 1 0 (paC pa0) rfl rfl pZ_vle (Nat.le_refl _) rfl (R' := [.obj b (prL s l8 (failE e8 10) n5), .obj c (paC pa0), .obj d (psK t acc 0 [] false)]) rfl ?_
    (conv => arg 2; whnf); refine w_ret1k (R' := [.obj b (prL s l8 (failE e8 10) n5)]) c 0 1 rfl rfl rfl rfl rfl (Vle.refl _) (by simp) ⟨_, _, _, _, rfl, rfl, pat_bad hl1 he1 hl2 he2 hE hEs hl6 he6 hl7 he7 h7 (he8.trans h8n) hwi⟩
  have h2 : ¬ (takeW l7 (plE s l7 e7) 2).n > 1000 := of_decide_eq_false h2
  have hW : e7 = none → Sim (withinE s l7 n5) (takeW l7 (plE s l7 e7) 2).n l8 e8 n5 := by rw [hl8, he8]; exact within_ok h1 h2
  have hp8 : ∀ m, e7 = some m → e8 = some m := by rw [he8]; exact plE_pass
  (conv => arg 2; whnf)
  refine wp_cutR (frL [(0, .loc b 0), (2, .loc c 0), (3, .loc d 0), (4, i64V (takeW l7 (plE s l7 e7) 2).n)]) [.obj b (prL s l8 e8 n5), .obj c pZ, .obj d (psK t acc 0 [] false)] (.cons (.refl _) (.cons (.refl _) (.cons (.refl _) (.cons (.refl _) (.nil _))))) (List.Sublist.refl _) ?_
  (conv => arg 2; whnf); refine wp_storeE (cs := psK t acc 0 [] false) 2 1 [i64V (takeW l7 (plE s l7 e7) 2).n] rfl rfl (VleL.refl _) (Nat.le_of_ble_eq_true rfl) rfl (R' := [.obj b (prL s l8 e8 n5), .obj c pZ, .obj d (psK t acc (takeW l7 (plE s l7 e7) 2).n [] false)]) rfl ?_
  (conv => arg 2; whnf); refine wp_callF [] [.obj b (prL s l8 e8 n5)] [.obj c pZ, .obj d (psK t acc (takeW l7 (plE s l7 e7) 2).n [] false)] rfl (may_call b s l8 e8 n5 4 by2) ?_
  rintro v R1 (⟨hk, rfl, rfl⟩ | ⟨hk, rfl, rfl⟩)
  · have s9 : ∀ m, e8 = some m → mustX l8.tail e8 1 [] = some m := fun m hm => by rw [hm, mustX_some]
    have hB := by_yes (n := n5) hk
    obtain ⟨l9, hl9⟩ : ∃ x, x = mayL l8.tail e8 1 [] := ⟨_, rfl⟩
    obtain ⟨e9, he9⟩ : ∃ x, x = mustX l8.tail e8 1 [] := ⟨_, rfl⟩
    have c9 := take_x b s l8.tail e8 n5 1
    rw [← he9] at s9
    rw [← hl9, ← he9] at hB c9
    (repeat ((conv => arg 2; whnf); first | refine wp_ite (fun _ => ?_) (fun h => Bool.noConfusion h) | refine wp_ite (fun h => Bool.noConfusion h) (fun _ => ?_)))
    (conv => arg 2; whnf); refine wp_callF [] [.obj b (prL s l8.tail e8 n5)] [.obj c pZ, .obj d (psK t acc (takeW l7 (plE s l7 e7) 2).n [] false)] rfl c9 ?_
    rintro v R1 ⟨rfl, rfl⟩
    (conv => arg 2; whnf); refine wp_storeE (cs := psK t acc (takeW l7 (plE s l7 e7) 2).n [] false) 2 2 [str (takeW l8.tail e8 1).text] rfl rfl (VleL.refl _) (Nat.le_of_ble_eq_true rfl) rfl (R' := [.obj b (prL s l9 e9 n5), .obj c pZ, .obj d (psK t acc (takeW l7 (plE s l7 e7) 2).n (takeW l8.tail e8 1).text false)]) rfl ?_
    (conv => arg 2; whnf)
    refine wp_cutR (frL [(0, .loc b 0), (2, .loc c 0), (3, .loc d 0)]) [.obj b (prL s l9 e9 n5), .obj c pZ, .obj d (psK t acc (takeW l7 (plE s l7 e7) 2).n (takeW l8.tail e8 1).text false)] (.cons (.refl _) (.cons (.refl _) (.cons (.refl _) (.nil _)))) (List.Sublist.refl _) ?_
    (conv => arg 2; whnf); refine wp_callF [] [.obj b (prL s l9 e9 n5)] [.obj c pZ, .obj d (psK t acc (takeW l7 (plE s l7 e7) 2).n (takeW l8.tail e8 1).text false)] rfl (may_x b s l9 e9 n5 4 any3) ?_
    rintro v R1 ⟨rfl, rfl⟩
    (conv => arg 2; whnf); refine wp_storeE (cs := psK t acc (takeW l7 (plE s l7 e7) 2).n (takeW l8.tail e8 1).text false) 2 3 [bV (isP l9 e9 4 any3)] rfl rfl (VleL.refl _) (Nat.le_of_ble_eq_true rfl) rfl (R' := [.obj b (prL s (mayL l9 e9 4 any3) e9 n5), .obj c pZ, .obj d (psK t acc (takeW l7 (plE s l7 e7) 2).n (takeW l8.tail e8 1).text (isP l9 e9 4 any3))]) rfl ?_
    (conv => arg 2; whnf); refine wp_load (cs := psK t acc (takeW l7 (plE s l7 e7) 2).n (takeW l8.tail e8 1).text (isP l9 e9 4 any3)) 2 rfl rfl ?_
    (conv => arg 2; whnf); refine wp_storeE (cs := pZ) 1 0 (paC ⟨acc, (takeW l7 (plE s l7 e7) 2).n, (takeW l8.tail e8 1).text, isP l9 e9 4 any3⟩) rfl rfl (psK_vle _ _ _ _ _) (Nat.le_refl _) rfl (R' := [.obj b (prL s (mayL l9 e9 4 any3) e9 n5), .obj c (paC ⟨acc, (takeW l7 (plE s l7 e7) 2).n, (takeW l8.tail e8 1).text, isP l9 e9 4 any3⟩), .obj d (psK t acc (takeW l7 (plE s l7 e7) 2).n (takeW l8.tail e8 1).text (isP l9 e9 4 any3))]) rfl ?_
    (conv => arg 2; whnf); refine w_ret1k (R' := [.obj b (prL s (mayL l9 e9 4 any3) e9 n5)]) c 0 1 rfl rfl rfl rfl rfl (Vle.refl _) (by simp) ⟨_, _, _, _, rfl, rfl, pat_sim hl1 he1 hl2 he2 hE hEs hl6 he6 hl7 he7 hp8 hW s9 hB rfl rfl⟩
  have hB := by_no (n := n5) hk
  (repeat ((conv => arg 2; whnf); first | refine wp_ite (fun _ => ?_) (fun h => Bool.noConfusion h) | refine wp_ite (fun h => Bool.noConfusion h) (fun _ => ?_)))
  (conv => arg 2; whnf)
  refine wp_cutR (frL [(0, .loc b 0), (2, .loc c 0), (3, .loc d 0)]) [.obj b (prL s l8 e8 n5), .obj c pZ, .obj d (psK t acc (takeW l7 (plE s l7 e7) 2).n [] false)] (.cons (.refl _) (.cons (.refl _) (.cons (.refl _) (.nil _)))) (List.Sublist.refl _) ?_
  (conv => arg 2; whnf); refine wp_callF [] [.obj b (prL s l8 e8 n5)] [.obj c pZ, .obj d (psK t acc (takeW l7 (plE s l7 e7) 2).n [] false)] rfl (may_x b s l8 e8 n5 4 any3) ?_
  rintro v R1 ⟨rfl, rfl⟩
  (conv => arg 2; whnf); refine wp_storeE (cs := psK t acc (takeW l7 (plE s l7 e7) 2).n [] false) 2 3 [bV (isP l8 e8 4 any3)] rfl rfl (VleL.refl _) (Nat.le_of_ble_eq_true rfl) rfl (R' := [.obj b (prL s (mayL l8 e8 4 any3) e8 n5), .obj c pZ, .obj d (psK t acc (takeW l7 (plE s l7 e7) 2).n [] (isP l8 e8 4 any3))]) rfl ?_
  (conv => arg 2; whnf); refine wp_load (cs := psK t acc (takeW l7 (plE s l7 e7) 2).n [] (isP l8 e8 4 any3)) 2 rfl rfl ?_
  (conv => arg 2; whnf); refine wp_storeE (cs := pZ) 1 0 (paC ⟨acc, (takeW l7 (plE s l7 e7) 2).n, [], isP l8 e8 4 any3⟩) rfl rfl (psK_vle _ _ _ _ _) (Nat.le_refl _) rfl (R' := [.obj b (prL s (mayL l8 e8 4 any3) e8 n5), .obj c (paC ⟨acc, (takeW l7 (plE s l7 e7) 2).n, [], isP l8 e8 4 any3⟩), .obj d (psK t acc (takeW l7 (plE s l7 e7) 2).n [] (isP l8 e8 4 any3))]) rfl ?_
  (conv => arg 2; whnf); refine w_ret1k (R' := [.obj b (prL s (mayL l8 e8 4 any3) e8 n5)]) c 0 1 rfl rfl rfl rfl rfl (Vle.refl _) (by simp) ⟨_, _, _, _, rfl, rfl, pat_sim hl1 he1 hl2 he2 hE hEs hl6 he6 hl7 he7 hp8 hW (fun m hm => hm) hB rfl rfl⟩
end Go.Sv
/- The program's parser: of a text. -/
namespace Go.Sv
open Go Go.Proofs

def pairV (x : V) (e : Option Nat) : V := .tup [x, .c (errV e)]
def parseExV : Except Nat Ex → V
  | .ok x => pairV (.agg (exC x)) none
  | .error e => pairV (.agg (exC ex0)) (some e)
def parsePaV : Except Nat Pa → V
  | .ok x => pairV (.agg (paC x)) none
  | .error e => pairV (.agg (paC pa0)) (some e)
theorem Sim.end_ok {α : Type} {r : Got α} {x : α} {l : List Wd} {e : Option Nat} {n : Nat} (h : Sim r x l e n) (he : (if l = [] then e else failE e 10) = none) : endE r = .ok x := by
  cases e with
  | none =>
    rw [h.1 rfl, endE]
    split at he
    · rename_i hl; rw [if_pos hl]
    · cases he
  | some m => split at he <;> cases he
theorem Sim.end_err {α : Type} {r : Got α} {x : α} {l : List Wd} {e : Option Nat} {n m : Nat} (h : Sim r x l e n) (he : (if l = [] then e else failE e 10) = some m) : endE r = .error m := by
  cases e with
  | none =>
    rw [h.1 rfl, endE]
    split at he
    · cases he
    · rename_i hl; rw [if_neg hl]; cases he; rfl
  | some k =>
    rw [h.2 k rfl, endE]
    split at he <;> (cases he; rfl)

set_option maxRecDepth 100000 in
theorem parseexpr_call (s : List UInt8) (hs : s.length < 2 ^ 40) : PCall Tryz.prog 12 [str s] (parseExV (parseExE s)) := by
  have f1 := cut_call s hs
  refine scall_of (live := [21]) (ords := []) Tryz.func12 rfl (by kernel_rfl) (by kernel_rfl) (Nat.le_of_ble_eq_true rfl) ?_
  cases hc : cutW s with
  | error k =>
    rw [hc] at f1
    have hr : parseExE s = .error k := by rw [parseExE, hc]
    (conv => arg 2; whnf); refine wp_allocE exZ rfl fun c => ?_
    (conv => arg 2; whnf); refine wp_pcall f1 ?_
    (repeat ((conv => arg 2; whnf); first | refine wp_ite (fun _ => ?_) (fun h => Bool.noConfusion h) | refine wp_ite (fun h => Bool.noConfusion h) (fun _ => ?_)))
    (conv => arg 2; whnf); refine wp_storeE (cs := exZ) 0 0 (exC ex0) rfl rfl ex0_vle (Nat.le_refl _) rfl (R' := [.obj c (exC ex0)]) rfl ?_
    (conv => arg 2; whnf); refine w_ret2ck (R' := []) (a := .agg (exC ex0)) (u := .c (errV (some k))) c 0 0 rfl rfl rfl rfl rfl (Vle.refl _) (Vle.refl _) (List.nil_sublist _) (by rw [hr]; rfl)
  | ok l =>
    rw [hc] at f1
    obtain ⟨hl, hlen⟩ := cutW_ok hc
    (conv => arg 2; whnf); refine wp_allocE exZ rfl fun c => ?_
    (conv => arg 2; whnf); refine wp_pcall f1 ?_
    (repeat ((conv => arg 2; whnf); first | refine wp_ite (fun _ => ?_) (fun h => Bool.noConfusion h) | refine wp_ite (fun h => Bool.noConfusion h) (fun _ => ?_)))
    (conv => arg 2; whnf); refine wp_allocE (prL s l none 0) rfl fun b => ?_
    (conv => arg 2; whnf); refine wp_callF [.obj c exZ] [.obj b (prL s l none 0)] [] rfl (node_gen b s hs l hl) ?_
    rintro v R1 ⟨x, l1, e1, n1, rfl, rfl, hN⟩
    (conv => arg 2; whnf); refine wp_allocE exZ rfl fun d => ?_
    (conv => arg 2; whnf); refine wp_storeE (cs := exZ) 2 0 (exC x) rfl rfl (VleL.refl _) (Nat.le_refl _) rfl (R' := [.obj c exZ, .obj b (prL s l1 e1 n1), .obj d (exC x)]) rfl ?_
    obtain ⟨e2, he2⟩ : ∃ y, y = (if l1 = [] then e1 else failE e1 10) := ⟨_, rfl⟩
    have c2 := ends_call b s l1 e1 n1
    rw [← he2] at c2
    (conv => arg 2; whnf); refine wp_callF [.obj c exZ] [.obj b (prL s l1 e1 n1)] [.obj d (exC x)] rfl c2 ?_
    rintro v R1 ⟨rfl, rfl⟩
    cases e2 with
    | some k =>
      have hr : parseExE s = .error k := by rw [parseExE, hc]; exact hN.end_err he2.symm
      (repeat ((conv => arg 2; whnf); first | refine wp_ite (fun _ => ?_) (fun h => Bool.noConfusion h) | refine wp_ite (fun h => Bool.noConfusion h) (fun _ => ?_)))
      (conv => arg 2; whnf); refine wp_storeE (cs := exZ) 0 0 (exC ex0) rfl rfl ex0_vle (Nat.le_refl _) rfl (R' := [.obj c (exC ex0), .obj b (prL s l1 (some k) n1), .obj d (exC x)]) rfl ?_
      (conv => arg 2; whnf); refine w_ret2ck (R' := []) (a := .agg (exC ex0)) (u := .c (errV (some k))) c 0 0 rfl rfl rfl rfl rfl (Vle.refl _) (Vle.refl _) (List.nil_sublist _) (by rw [hr]; rfl)
    | none =>
      have hr : parseExE s = .ok x := by rw [parseExE, hc]; exact hN.end_ok he2.symm
      (repeat ((conv => arg 2; whnf); first | refine wp_ite (fun _ => ?_) (fun h => Bool.noConfusion h) | refine wp_ite (fun h => Bool.noConfusion h) (fun _ => ?_)))
      (conv => arg 2; whnf); refine wp_load (cs := exC x) 2 rfl rfl ?_
      (conv => arg 2; whnf); refine wp_storeE (cs := exZ) 0 0 (exC x) rfl rfl (VleL.refl _) (Nat.le_refl _) rfl (R' := [.obj c (exC x), .obj b (prL s l1 none n1), .obj d (exC x)]) rfl ?_
      (conv => arg 2; whnf); refine w_ret2ck (R' := []) (a := .agg (exC x)) (u := .c (errV none)) c 0 0 rfl rfl rfl rfl rfl (Vle.refl _) (Vle.refl _) (List.nil_sublist _) (by rw [hr]; rfl)

set_option maxRecDepth 100000 in
theorem parsepattern_call (s : List UInt8) (hs : s.length < 2 ^ 40) : PCall Tryz.prog 8 [str s] (parsePaV (parsePaE s)) := by
  have f1 := cut_call s hs
  refine scall_of (live := [21]) (ords := [(9, [])]) Tryz.func8 rfl (by kernel_rfl) (by kernel_rfl) (Nat.le_of_ble_eq_true rfl) ?_
  cases hc : cutW s with
  | error k =>
    rw [hc] at f1
    have hr : parsePaE s = .error k := by rw [parsePaE, hc]
    (conv => arg 2; whnf); refine wp_allocE pZ rfl fun c => ?_
    (conv => arg 2; whnf); refine wp_pcall f1 ?_
    (repeat ((conv => arg 2; whnf); first | refine wp_ite (fun _ => ?_) (fun h => Bool.noConfusion h) | refine wp_ite (fun h => Bool.noConfusion h) (fun _ => ?_)))
    (conv => arg 2; whnf); refine wp_storeE (cs := pZ) 0 0 (paC pa0) rfl rfl pZ_vle (Nat.le_refl _) rfl (R' := [.obj c (paC pa0)]) rfl ?_
    (conv => arg 2; whnf); refine w_ret2ck (R' := []) (a := .agg (paC pa0)) (u := .c (errV (some k))) c 0 0 rfl rfl rfl rfl rfl (Vle.refl _) (Vle.refl _) (List.nil_sublist _) (by rw [hr]; rfl)
  | ok l =>
    rw [hc] at f1
    obtain ⟨hl, hlen⟩ := cutW_ok hc
    (conv => arg 2; whnf); refine wp_allocE pZ rfl fun c => ?_
    (conv => arg 2; whnf); refine wp_pcall f1 ?_
    (repeat ((conv => arg 2; whnf); first | refine wp_ite (fun _ => ?_) (fun h => Bool.noConfusion h) | refine wp_ite (fun h => Bool.noConfusion h) (fun _ => ?_)))
    (conv => arg 2; whnf); refine wp_allocE (prL s l none 0) rfl fun b => ?_
    (conv => arg 2; whnf); refine wp_callF [.obj c pZ] [.obj b (prL s l none 0)] [] rfl (parsepat_call b s hs l hl hlen) ?_
    rintro v R1 ⟨x, l1, e1, n1, rfl, rfl, hN⟩
    (conv => arg 2; whnf); refine wp_allocE pZ rfl fun d => ?_
    (conv => arg 2; whnf); refine wp_storeE (cs := pZ) 2 0 (paC x) rfl rfl (VleL.refl _) (Nat.le_refl _) rfl (R' := [.obj c pZ, .obj b (prL s l1 e1 n1), .obj d (paC x)]) rfl ?_
    obtain ⟨e2, he2⟩ : ∃ y, y = (if l1 = [] then e1 else failE e1 10) := ⟨_, rfl⟩
    have c2 := ends_call b s l1 e1 n1
    rw [← he2] at c2
    (conv => arg 2; whnf); refine wp_callF [.obj c pZ] [.obj b (prL s l1 e1 n1)] [.obj d (paC x)] rfl c2 ?_
    rintro v R1 ⟨rfl, rfl⟩
    cases e2 with
    | some k =>
      have hr : parsePaE s = .error k := by rw [parsePaE, hc]; simp only; rw [hN.end_err he2.symm]
      (repeat ((conv => arg 2; whnf); first | refine wp_ite (fun _ => ?_) (fun h => Bool.noConfusion h) | refine wp_ite (fun h => Bool.noConfusion h) (fun _ => ?_)))
      (conv => arg 2; whnf); refine wp_storeE (cs := pZ) 0 0 (paC pa0) rfl rfl pZ_vle (Nat.le_refl _) rfl (R' := [.obj c (paC pa0), .obj b (prL s l1 (some k) n1), .obj d (paC x)]) rfl ?_
      (conv => arg 2; whnf); refine w_ret2ck (R' := []) (a := .agg (paC pa0)) (u := .c (errV (some k))) c 0 0 rfl rfl rfl rfl rfl (Vle.refl _) (Vle.refl _) (List.nil_sublist _) (by rw [hr]; rfl)
    | none =>
      have hr0 := hN.end_ok he2.symm
      have hbd : PaBd x := by
        have he1 : e1 = none := by
          cases e1 with
          | none => rfl
          | some m => split at he2 <;> cases he2
        exact (patE_ok hl hlen (hN.1 he1)).1
      have hr : parsePaE s = if isPaB x then .ok x else .error 10 := by rw [parsePaE, hc]; simp only; rw [hr0]
      (repeat ((conv => arg 2; whnf); first | refine wp_ite (fun _ => ?_) (fun h => Bool.noConfusion h) | refine wp_ite (fun h => Bool.noConfusion h) (fun _ => ?_)))
      (conv => arg 2; whnf)
      refine wp_cutR (frL [(2, .loc c 0), (7, .loc d 0)]) [.obj c pZ, .obj d (paC x)] (.cons (.refl _) (.cons (.refl _) (.nil _))) (by simp) ?_
      (conv => arg 2; whnf); refine wp_load (cs := paC x) 1 rfl rfl ?_
      (conv => arg 2; whnf); refine wp_pcall (pattern_call x hbd) ?_
      cases hi : isPaB x with
      | false =>
        rw [hi] at hr
        (repeat ((conv => arg 2; whnf); first | refine wp_ite (fun _ => ?_) (fun h => Bool.noConfusion h) | refine wp_ite (fun h => Bool.noConfusion h) (fun _ => ?_)))
        (conv => arg 2; whnf); refine wp_storeE (cs := pZ) 0 0 (paC pa0) rfl rfl pZ_vle (Nat.le_refl _) rfl (R' := [.obj c (paC pa0), .obj d (paC x)]) rfl ?_
        (conv => arg 2; whnf); refine w_ret2ck (R' := []) (a := .agg (paC pa0)) (u := .c (errV (some 10))) c 0 0 rfl rfl rfl rfl rfl (Vle.refl _) (Vle.refl _) (List.nil_sublist _) (by rw [hr]; rfl)
      | true =>
        rw [hi] at hr
        (repeat ((conv => arg 2; whnf); first | refine wp_ite (fun _ => ?_) (fun h => Bool.noConfusion h) | refine wp_ite (fun h => Bool.noConfusion h) (fun _ => ?_)))
        (conv => arg 2; whnf); refine wp_load (cs := paC x) 1 rfl rfl ?_
        (conv => arg 2; whnf); refine wp_storeE (cs := pZ) 0 0 (paC x) rfl rfl (VleL.refl _) (Nat.le_refl _) rfl (R' := [.obj c (paC x), .obj d (paC x)]) rfl ?_
        (conv => arg 2; whnf); refine w_ret2ck (R' := []) (a := .agg (paC x)) (u := .c (errV none)) c 0 0 rfl rfl rfl rfl rfl (Vle.refl _) (Vle.refl _) (List.nil_sublist _) (by rw [hr]; rfl)
end Go.Sv
/- pasternlaw9: what is known; wrong texts. -/
namespace Go.Sv
open Go Go.Proofs

def k9s0 : List UInt8 := [83, 69, 81, 40, 97, 58, 116, 124, 117, 43, 91, 40, 97, 46, 120, 32, 60, 32, 45, 51, 41, 93, 44, 32, 33, 110, 58, 116, 32, 44, 32, 98, 58, 117, 41, 32, 32, 87, 73, 84, 72, 73, 78, 32, 55, 32, 66, 89, 32, 105, 100, 32, 65, 78, 89]
def k9s1 : List UInt8 := [83, 69, 81, 40, 97, 58, 117, 124, 116, 41, 32, 87, 73, 84, 72, 73, 78, 32, 55]
def k9s2 : List UInt8 := [83, 69, 81, 40, 97, 58, 116, 41, 32, 87, 73, 84, 72, 73, 78, 32, 55, 32, 35]
def k9s3 : List UInt8 := [40, 78, 79, 84, 32, 97, 46, 98, 105, 103, 41]
def k9s4 : List UInt8 := [40, 78, 79, 84, 32, 40, 78, 79, 84, 32, 40, 78, 79, 84, 32, 40, 78, 79, 84, 32, 40, 78, 79, 84, 32, 97, 46, 120, 41, 41, 41, 41, 41]
def k9x : Ex := .mk 8 val0 [] [] [.mk 2 val0 [97] [120] [], .mk 1 ⟨1, -3, []⟩ [] [] []]
def k9a : El := ⟨[97], [[116], [117]], true, false, k9x⟩
def k9b : El := ⟨[110], [[116]], false, true, ex0⟩
def k9c : El := ⟨[98], [[117]], false, false, ex0⟩
def k9p : Pa := ⟨[k9a, k9b, k9c], 7, [105, 100], true⟩
def k9n : Ex := .mk 12 val0 [] [] [.mk 2 val0 [97] [98, 105, 103] []]
theorem k9_0 : parsePaE k9s0 = .ok k9p := by kernel_rfl
theorem k9_1 : parsePaE k9s1 = .error 10 := by kernel_rfl
theorem k9_2 : parsePaE k9s2 = .error 21 := by kernel_rfl
theorem k9_3 : parseExE k9s3 = .ok k9n := by kernel_rfl
theorem k9_4 : parseExE k9s4 = .error 12 := by kernel_rfl
def wrongL : List (List UInt8) := [[],
  [83, 69, 81],
  [83, 69, 81, 40, 41],
  [83, 69, 81, 40, 97, 41, 32, 87, 73, 84, 72, 73, 78, 32, 53],
  [83, 69, 81, 40, 97, 58, 116, 41, 32, 87, 73, 84, 72, 73, 78],
  [83, 69, 81, 40, 97, 58, 116, 41, 32, 87, 73, 84, 72, 73, 78, 32, 45, 49],
  [83, 69, 81, 40, 97, 58, 116, 41, 32, 87, 73, 84, 72, 73, 78, 32, 49, 48, 48, 49],
  [83, 69, 81, 40, 33, 97, 58, 116, 44, 32, 98, 58, 116, 41, 32, 87, 73, 84, 72, 73, 78, 32, 53],
  [83, 69, 81, 40, 97, 58, 116, 44, 32, 97, 58, 116, 41, 32, 87, 73, 84, 72, 73, 78, 32, 53],
  [83, 69, 81, 40, 97, 58, 116, 43, 43, 41, 32, 87, 73, 84, 72, 73, 78, 32, 53],
  [83, 69, 81, 40, 97, 58, 116, 91, 93, 41, 32, 87, 73, 84, 72, 73, 78, 32, 53],
  [83, 69, 81, 40, 97, 58, 116, 41, 32, 87, 73, 84, 72, 73, 78, 32, 53, 32, 65, 78, 89, 32, 66, 89, 32, 105, 100],
  [83, 69, 81, 40, 97, 58, 116, 91, 40, 49, 32, 43, 32, 50, 93, 41, 32, 87, 73, 84, 72, 73, 78, 32, 53],
  [83, 69, 81, 40, 97, 58, 116, 91, 40, 97, 46, 120, 32, 65, 78, 68, 41, 93, 41, 32, 87, 73, 84, 72, 73, 78, 32, 53]]
def is10 : Except Nat Pa → Bool
  | .error e => Nat.beq e 10
  | .ok _ => false
theorem wrong_all : wrongL.all (fun s => is10 (parsePaE s)) = true := by kernel_rfl
theorem wrong_is {s : List UInt8} (h : s ∈ wrongL) : parsePaE s = .error 10 := by
  have h1 := List.all_eq_true.1 wrong_all s h
  unfold is10 at h1
  split at h1
  · rename_i e he; rw [he, Nat.eq_of_beq_eq_true h1]
  · cases h1

theorem eqF9 {a b : List UInt8} (e : a = b) (h : ((S a).toList == (S b).toList) = false) : False := by rw [strEq, decide_eq_true e] at h; cases h
set_option maxRecDepth 100000 in
set_option maxHeartbeats 4000000 in
theorem known9_call : PCall Tryz.prog 7 [] (bV true) := by
  have f0 := parsepattern_call k9s0 (by decide)
  have f1 := parsepattern_call k9s1 (by decide)
  have f2 := parsepattern_call k9s2 (by decide)
  have f3 := parseexpr_call k9s3 (by decide)
  have f4 := parseexpr_call k9s4 (by decide)
  rw [k9_0] at f0
  rw [k9_1] at f1
  rw [k9_2] at f2
  rw [k9_3] at f3
  rw [k9_4] at f4
  refine scall_of (live := []) (ords := [(6, [])]) Tryz.func7 rfl (by kernel_rfl) (by kernel_rfl) (Nat.le_of_ble_eq_true rfl) ?_
  (conv => arg 2; whnf); refine wp_pcall f0 ?_
  (conv => arg 2; whnf); refine wp_allocE pZ rfl fun a => ?_
  (conv => arg 2; whnf); refine wp_storeE (cs := pZ) 0 0 (paC k9p) rfl rfl (VleL.refl _) (Nat.le_refl _) rfl (R' := [.obj a (paC k9p)]) rfl ?_
  (conv => arg 2; whnf); refine wp_pcall f1 ?_
  (conv => arg 2; whnf); refine wp_allocE pZ rfl fun b => ?_
  (conv => arg 2; whnf); refine wp_storeE (cs := pZ) 1 0 (paC pa0) rfl rfl (VleL.refl _) (Nat.le_refl _) rfl (R' := [.obj a (paC k9p), .obj b (paC pa0)]) rfl ?_
  (conv => arg 2; whnf); refine wp_pcall f2 ?_
  (conv => arg 2; whnf); refine wp_allocE pZ rfl fun c => ?_
  (conv => arg 2; whnf); refine wp_storeE (cs := pZ) 2 0 (paC pa0) rfl rfl (VleL.refl _) (Nat.le_refl _) rfl (R' := [.obj a (paC k9p), .obj b (paC pa0), .obj c (paC pa0)]) rfl ?_
  (conv => arg 2; whnf); refine wp_pcall f3 ?_
  (conv => arg 2; whnf); refine wp_allocE exZ rfl fun d => ?_
  (conv => arg 2; whnf); refine wp_storeE (cs := exZ) 3 0 (exC k9n) rfl rfl (VleL.refl _) (Nat.le_refl _) rfl (R' := [.obj a (paC k9p), .obj b (paC pa0), .obj c (paC pa0), .obj d (exC k9n)]) rfl ?_
  (conv => arg 2; whnf); refine wp_pcall f4 ?_
  (conv => arg 2; whnf); refine wp_allocE exZ rfl fun e => ?_
  (conv => arg 2; whnf); refine wp_storeE (cs := exZ) 4 0 (exC ex0) rfl rfl (VleL.refl _) (Nat.le_refl _) rfl (R' := [.obj a (paC k9p), .obj b (paC pa0), .obj c (paC pa0), .obj d (exC k9n), .obj e (exC ex0)]) rfl ?_
  refine wp_cutR (frL [(1, .loc a 0), (2, .c (errV none)), (4, .c (errV (some 10))), (6, .c (errV (some 21))), (7, .loc d 0), (8, .c (errV none)), (10, .c (errV (some 12)))]) [.obj a (paC k9p), .obj d (exC k9n)] (.cons (.refl _) (.cons (.refl _) (.cons (.refl _) (.cons (.refl _) (.cons (.refl _) (.cons (.refl _) (.cons (.refl _) (.nil _)))))))) (by simp) ?_
  (repeat ((conv => arg 2; whnf); first | refine wp_ite (fun _ => ?_) (fun h => Bool.noConfusion h) | refine wp_ite (fun h => Bool.noConfusion h) (fun _ => ?_)))
  (conv => arg 2; whnf); refine wp_load (cs := paC k9p) 0 rfl rfl ?_
  (repeat ((conv => arg 2; whnf); first | refine wp_ite (fun _ => ?_) (fun h => Bool.noConfusion h) | refine wp_ite (fun h => Bool.noConfusion h) (fun _ => ?_)))
  (conv => arg 2; whnf); refine wp_load (cs := paC k9p) 0 rfl rfl ?_
  (conv => arg 2; whnf); refine wp_elem 0 (elV k9a) rfl rfl (Vle.refl _) ?_
  (repeat ((conv => arg 2; whnf); first | refine wp_ite (fun _ => ?_) (fun h => Bool.noConfusion h) | refine wp_ite (fun h => Bool.noConfusion h) (fun _ => ?_)))
  (conv => arg 2; whnf); refine wp_load (cs := paC k9p) 0 rfl rfl ?_
  (conv => arg 2; whnf); refine wp_elem 1 (elV k9b) rfl rfl (Vle.refl _) ?_
  (repeat ((conv => arg 2; whnf); first | refine wp_ite (fun _ => ?_) (fun h => Bool.noConfusion h) | refine wp_ite (fun h => Bool.noConfusion h) (fun _ => ?_)))
  (conv => arg 2; whnf); refine wp_load (cs := paC k9p) 0 rfl rfl ?_
  (conv => arg 2; whnf); refine wp_ite (fun _ => ?_) (fun h => (eqF9 (a := [105, 100]) (b := [105, 100]) rfl h).elim)
  (repeat ((conv => arg 2; whnf); first | refine wp_ite (fun _ => ?_) (fun h => Bool.noConfusion h) | refine wp_ite (fun h => Bool.noConfusion h) (fun _ => ?_)))
  (conv => arg 2; whnf); refine wp_load (cs := paC k9p) 0 rfl rfl ?_
  (repeat ((conv => arg 2; whnf); first | refine wp_ite (fun _ => ?_) (fun h => Bool.noConfusion h) | refine wp_ite (fun h => Bool.noConfusion h) (fun _ => ?_)))
  (conv => arg 2; whnf); refine wp_pcall (is_call (some 10) 10) ?_
  (repeat ((conv => arg 2; whnf); first | refine wp_ite (fun _ => ?_) (fun h => Bool.noConfusion h) | refine wp_ite (fun h => Bool.noConfusion h) (fun _ => ?_)))
  (conv => arg 2; whnf); refine wp_pcall (is_call (some 21) 21) ?_
  (repeat ((conv => arg 2; whnf); first | refine wp_ite (fun _ => ?_) (fun h => Bool.noConfusion h) | refine wp_ite (fun h => Bool.noConfusion h) (fun _ => ?_)))
  (conv => arg 2; whnf); refine wp_load (cs := exC k9n) 1 rfl rfl ?_
  (repeat ((conv => arg 2; whnf); first | refine wp_ite (fun _ => ?_) (fun h => Bool.noConfusion h) | refine wp_ite (fun h => Bool.noConfusion h) (fun _ => ?_)))
  (conv => arg 2; whnf); refine wp_pcall (is_call (some 12) 12) ?_
  (conv => arg 2; whnf); refine w_ret1 rfl (Vle.refl _) (List.nil_sublist _) rfl

set_option maxRecDepth 100000 in
set_option maxHeartbeats 4000000 in
theorem parsewrong_call (u : UInt8) : PCall Tryz.prog 5 [.c (.int .u8 u.toNat)] (bV true) := by
  have h14 : u.toNat % 14 < 14 := Nat.mod_lt _ (by decide)
  obtain ⟨i, hi⟩ : ∃ i, i = u.toNat % 14 := ⟨_, rfl⟩
  rw [← hi] at h14
  have hr : ((u.toNat : Int).tmod 14) = (i : Int) := by rw [hi]; rfl
  have hm : wrongL.getD i [] ∈ wrongL := by
    match i, h14 with
    | 0, _ | 1, _ | 2, _ | 3, _ | 4, _ | 5, _ | 6, _ | 7, _ | 8, _ | 9, _ | 10, _ | 11, _ | 12, _ | 13, _ => simp [wrongL]
  have hl : (wrongL.getD i []).length < 2 ^ 40 := by
    match i, h14 with
    | 0, _ | 1, _ | 2, _ | 3, _ | 4, _ | 5, _ | 6, _ | 7, _ | 8, _ | 9, _ | 10, _ | 11, _ | 12, _ | 13, _ => decide
  have hv : ∀ z : Int, z = (i : Int) → (wrongL.map str).getD z.toNat .undef = str (wrongL.getD i []) := by
    rintro z rfl
    match i, h14 with
    | 0, _ | 1, _ | 2, _ | 3, _ | 4, _ | 5, _ | 6, _ | 7, _ | 8, _ | 9, _ | 10, _ | 11, _ | 12, _ | 13, _ => rfl
  have f0 := parsepattern_call (wrongL.getD i []) hl
  rw [wrong_is hm] at f0
  refine scall_of (live := []) (ords := [(4, [])]) Tryz.func5 rfl (by kernel_rfl) (by kernel_rfl) (Nat.le_of_ble_eq_true rfl) ?_
  (conv => arg 2; whnf); refine wp_pcall known9_call ?_
  (repeat ((conv => arg 2; whnf); first | refine wp_ite (fun _ => ?_) (fun h => Bool.noConfusion h) | refine wp_ite (fun h => Bool.noConfusion h) (fun _ => ?_)))
  have h0 : 0 ≤ (u.toNat : Int).tmod 14 ∧ (u.toNat : Int).tmod 14 < 14 := by rw [hr]; omega
  (conv => arg 2; whnf); refine wp_need ⟨h0.1, h0.2, Nat.le_of_ble_eq_true rfl⟩ ?_
  (conv => arg 2; whnf); refine wp_cutR (frL [(3, str (wrongL.getD i []))]) [] (.cons (Vle.eq (hv _ hr)) (.nil _)) (List.nil_sublist _) ?_
  (conv => arg 2; whnf); refine wp_pcall f0 ?_
  (conv => arg 2; whnf); refine wp_allocE pZ rfl fun a => ?_
  (conv => arg 2; whnf); refine wp_storeE (cs := pZ) 0 0 (paC pa0) rfl rfl (VleL.refl _) (Nat.le_refl _) rfl (R' := [.obj a (paC pa0)]) rfl ?_
  (conv => arg 2; whnf); refine wp_pcall (is_call (some 10) 10) ?_
  (repeat ((conv => arg 2; whnf); first | refine wp_ite (fun _ => ?_) (fun h => Bool.noConfusion h) | refine wp_ite (fun h => Bool.noConfusion h) (fun _ => ?_)))
  (conv => arg 2; whnf); refine wp_load (cs := paC pa0) 0 rfl rfl ?_
  (conv => arg 2; whnf); refine w_ret1 rfl (Vle.refl _) (List.nil_sublist _) rfl
end Go.Sv
/- Words of a text that is shown. -/
namespace Go.Sv
open Go Go.Proofs

/-- From a place on a text begins with these words. -/
def Lex (a : Nat) (t r : List UInt8) (ws : List Wd) : Prop := items a (t ++ r) = (ws.map fun w => (w, none)) ++ items (a + t.length) r
theorem Lex.nil {a : Nat} {r : List UInt8} : Lex a [] r [] := rfl
theorem Lex.app {a : Nat} {t u r : List UInt8} {ws vs : List Wd} (h1 : Lex a t (u ++ r) ws) (h2 : Lex (a + t.length) u r vs) : Lex a (t ++ u) r (ws ++ vs) := by
  unfold Lex at *
  rw [List.append_assoc, h1, h2, List.map_append, List.append_assoc, List.length_append, Nat.add_assoc]
theorem Lex.blank {a : Nat} {t r : List UInt8} {ws : List Wd} (h : Lex (a + 1) t r ws) : Lex a (32 :: t) r ws := by
  unfold Lex at *
  rw [List.cons_append, items_blank, h, List.length_cons, Nat.add_right_comm, Nat.add_assoc]
theorem Lex.word {a : Nat} {c : UInt8} {t r : List UInt8} {x : Nx} (hc : c ≠ 32) (h : nextR (c :: t ++ r) = .ok x) (hl : x.len = (c :: t).length) : Lex a (c :: t) r [x.wd a] := by
  unfold Lex
  rw [show c :: t ++ r = c :: (t ++ r) from rfl] at h ⊢
  rw [items_word hc h, hl, show c :: (t ++ r) = (c :: t) ++ r from rfl, List.drop_left]
  rfl
theorem Lex.at {a b : Nat} {t r : List UInt8} {ws : List Wd} (h : Lex a t r ws) (e : b = a) : Lex b t r ws := by rw [e]; exact h
theorem drop_app {s t r : List UInt8} {a : Nat} (h : s.drop a = t ++ r) : s.drop (a + t.length) = r := by rw [← List.drop_drop, h, List.drop_left]

theorem span_app {p : UInt8 → Bool} : ∀ {l r : List UInt8}, (∀ c ∈ l, p c = true) → NoHd p r → spanN p (l ++ r) = l.length
  | [], [], _, _ => rfl
  | [], c :: r, _, h => spanN_stop (h c r rfl)
  | c :: l, r, h, h2 => by
    rw [List.cons_append, spanN_cons (h c (by simp)), span_app (fun d hd => h d (by simp [hd])) h2]; rfl
theorem nx_let {kind : Nat} {p : UInt8 → Bool} {l r : List UInt8} (h : ∀ c ∈ l, p c = true) (h8 : l.length ≤ 8) (hr : NoHd p r) : letR kind p (l ++ r) = .ok ⟨kind, l, 0, l.length⟩ := by
  rw [letR, span_app h hr, if_neg (by omega), List.take_left]
theorem nx_name {l r : List UInt8} (h : isNm l = true) (hr : NoHd isSm r) : nextR (l ++ r) = .ok ⟨1, l, 0, l.length⟩ := by
  obtain ⟨h1, h2, h3⟩ := isNm_all h
  have hl := nx_let (kind := 1) h1 h3 hr
  cases l with
  | nil => exact absurd rfl h2
  | cons c t =>
    rw [List.cons_append] at hl ⊢
    rw [nextR_cons, h1 c (by simp), if_pos rfl, hl]
theorem lex_name {a : Nat} {l r : List UInt8} (h : isNm l = true) (hr : NoHd isSm r) : Lex a l r [⟨1, l, 0, a⟩] := by
  have hx := nx_name h hr
  obtain ⟨h1, h2, _⟩ := isNm_all h
  cases l with
  | nil => exact absurd rfl h2
  | cons c t => exact Lex.word (fun e => by have := h1 c (by simp); rw [e] at this; cases this) hx rfl
theorem nx_great {c : UInt8} {t r : List UInt8} (h : ∀ d ∈ c :: t, isGr d = true) (hs : isSm c = false) (h8 : (c :: t).length ≤ 8) (hr : NoHd isGr r) : nextR (c :: t ++ r) = .ok ⟨4, c :: t, 0, (c :: t).length⟩ := by
  have hl := nx_let (kind := 4) h h8 hr
  rw [List.cons_append] at hl ⊢
  rw [nextR_cons, hs, if_neg (by decide), h c (by simp), if_pos rfl, hl]
theorem lex_great {a : Nat} {c : UInt8} {t r : List UInt8} (h : ∀ d ∈ c :: t, isGr d = true) (hs : isSm c = false) (h8 : (c :: t).length ≤ 8) (hr : NoHd isGr r) : Lex a (c :: t) r [⟨4, c :: t, 0, a⟩] :=
  Lex.word (fun e => by have := h c (by simp); rw [e] at this; cases this) (nx_great h hs h8 hr) rfl
theorem nx_dec {n : Int} {r : List UInt8} (hn : I64 n) (hr : NoHd isDg r) : nextR (decD n ++ r) = .ok ⟨2, [], n, (decD n).length⟩ := by
  have hp := parse_dec n hn.1 hn.2
  obtain ⟨c, t, e, ht, hc⟩ := dec_shape n
  rw [e] at hp ⊢
  have hm : numR (c :: t ++ r) = .ok ⟨2, [], n, (c :: t).length⟩ := by
    rw [numR, List.cons_append, List.drop_succ_cons, List.drop_zero, span_app ht hr, show 1 + t.length = (c :: t).length by simp [Nat.add_comm], show c :: (t ++ r) = (c :: t) ++ r from rfl, List.take_left, hp]
    rfl
  rw [List.cons_append] at hm ⊢
  rw [nextR_cons]
  rcases hc with hc | ⟨rfl, hne⟩
  · obtain ⟨a1, a2, _⟩ := dg_not hc
    rw [a1, a2, hc, if_neg (by decide), if_neg (by decide), if_pos (Bool.true_or _), hm]
  · cases t with
    | nil => exact absurd rfl hne
    | cons d t' =>
      rw [if_neg (by decide), if_neg (by decide), if_pos (by simp [ht d (by simp)]), hm]
theorem lex_dec {a : Nat} {n : Int} {r : List UInt8} (hn : I64 n) (hr : NoHd isDg r) : Lex a (decD n) r [⟨2, [], n, a⟩] := by
  have hx := nx_dec hn hr
  obtain ⟨c, t, e, _, hc⟩ := dec_shape n
  have hl : (decD n).length = (c :: t).length := by rw [e]
  rw [hl] at hx
  rw [e] at hx ⊢
  refine Lex.word ?_ hx rfl
  rcases hc with hc | ⟨rfl, _⟩
  · exact (dg_not hc).2.2
  · decide
theorem textR_esc2 : ∀ (s out r : List UInt8), s.all okCh = true → out.length + s.length ≤ 16 → textR out (esc s ++ 34 :: r) = .ok (out ++ s, (esc s).length + 1)
  | [], out, r, _, h => by rw [show esc [] ++ 34 :: r = 34 :: r from rfl, textR_34, if_neg (by simp at h; omega)]; simp [esc]
  | c :: s, out, r, h, hl => by
    rw [List.all_cons, Bool.and_eq_true] at h
    rw [List.length_cons] at hl
    have ih := textR_esc2 s (out ++ [c]) r h.2 (by rw [List.length_append, List.length_singleton]; omega)
    rw [List.append_assoc] at ih
    have e2 : (esc (c :: s)).length = (escB c).length + (esc s).length := by rw [esc_cons, List.length_append]
    rw [esc_cons, List.append_assoc, ← esc_cons, e2]
    by_cases hq : c = 34 ∨ c = 92
    · rw [escB, if_pos hq]
      show textR out (92 :: c :: (esc s ++ 34 :: r)) = _
      rw [textR_92, if_pos hq, ih]
      show Except.ok (_, _) = Except.ok (_, _)
      rw [show ([92, c] : List UInt8).length = 2 from rfl]
      congr 2
      omega
    · rw [escB, if_neg hq]
      show textR out (c :: (esc s ++ 34 :: r)) = _
      rw [textR_c _ _ (fun h => hq (.inl h)) (fun h => hq (.inr h)), if_pos (by simpa [okCh] using h.1), ih]
      show Except.ok (_, _) = Except.ok (_, _)
      rw [show ([c] : List UInt8).length = 1 from rfl]
      congr 2
      omega
theorem lex_quoted {a : Nat} {s r : List UInt8} (h : isTextB s = true) : Lex a (quoted s) r [⟨3, s, 0, a⟩] := by
  rw [isTextB, Bool.and_eq_true] at h
  have ht := textR_esc2 s [] r h.1 (by have := of_decide_eq_true h.2; simpa using this)
  refine Lex.word (x := ⟨3, s, 0, (esc s).length + 1 + 1⟩) (by decide) ?_ (by simp)
  rw [List.cons_append, nextR_cons, if_neg (by decide), if_neg (by decide), if_neg (by simp [isDg]), if_pos (by decide), textN, List.drop_succ_cons, List.drop_zero, List.append_assoc]
  show textE (textR [] (esc s ++ 34 :: r)) = _
  rw [ht]; rfl

/-- The plain signs. -/
theorem lex_sign {a : Nat} {c : UInt8} {r : List UInt8} (h : c = 40 ∨ c = 41 ∨ c = 91 ∨ c = 93 ∨ c = 58 ∨ c = 124 ∨ c = 44 ∨ c = 43 ∨ c = 46) : Lex a [c] r [⟨5, [c], 0, a⟩] := by
  refine Lex.word (x := ⟨5, [c], 0, 1⟩) ?_ ?_ rfl
  · rcases h with rfl | rfl | rfl | rfl | rfl | rfl | rfl | rfl | rfl <;> decide
  · rcases h with rfl | rfl | rfl | rfl | rfl | rfl | rfl | rfl | rfl <;> rfl
theorem lex_not {a : Nat} {r : List UInt8} (h : NoHd (fun c => decide (c = 61)) r) : Lex a [33] r [⟨5, [33], 0, a⟩] := by
  refine Lex.word (x := ⟨5, [33], 0, 1⟩) (by decide) ?_ rfl
  cases r with
  | nil => rfl
  | cons d r =>
    have hd : ¬ d = 61 := of_decide_eq_false (h d r rfl)
    have hp : ([33, 61] : List UInt8).isPrefixOf (33 :: d :: r) = false := by
      show ((33 : UInt8) == 33 && ((61 : UInt8) == d && ([] : List UInt8).isPrefixOf r)) = false
      rw [beq_eq_false_iff_ne.2 (fun e => hd e.symm)]; rfl
    show nextR (33 :: d :: r) = _
    rw [nextR_cons, if_neg (by decide), if_neg (by decide), if_neg (by simp [isDg]), if_neg (by decide), signR, if_neg (by rw [hp]; decide)]
    rfl
/-- The signs between two, with their blanks. -/
def opT : Nat → Nx
  | 0 => ⟨5, [43], 0, 1⟩
  | 1 => ⟨5, [45], 0, 1⟩
  | 2 => ⟨5, [42], 0, 1⟩
  | 3 => ⟨5, [61], 0, 1⟩
  | 4 => ⟨5, [33, 61], 0, 2⟩
  | 5 => ⟨5, [60], 0, 1⟩
  | 6 => ⟨5, [60, 61], 0, 2⟩
  | 7 => ⟨4, andL, 0, 3⟩
  | _ => ⟨4, orL, 0, 2⟩
theorem op_3 (r : List UInt8) : nextR (43 :: ([] ++ 32 :: r)) = .ok (opT 0) := by kernel_rfl
theorem op_4 (r : List UInt8) : nextR (45 :: ([] ++ 32 :: r)) = .ok (opT 1) := by kernel_rfl
theorem op_5 (r : List UInt8) : nextR (42 :: ([] ++ 32 :: r)) = .ok (opT 2) := by kernel_rfl
theorem op_6 (r : List UInt8) : nextR (61 :: ([] ++ 32 :: r)) = .ok (opT 3) := by kernel_rfl
theorem op_7 (r : List UInt8) : nextR (33 :: ([61] ++ 32 :: r)) = .ok (opT 4) := by kernel_rfl
theorem op_8 (r : List UInt8) : nextR (60 :: ([] ++ 32 :: r)) = .ok (opT 5) := by kernel_rfl
theorem op_9 (r : List UInt8) : nextR (60 :: ([61] ++ 32 :: r)) = .ok (opT 6) := by kernel_rfl
theorem op_10 (r : List UInt8) : nextR (65 :: ([78, 68] ++ 32 :: r)) = .ok (opT 7) := by kernel_rfl
theorem op_11 (r : List UInt8) : nextR (79 :: ([82] ++ 32 :: r)) = .ok (opT 8) := by kernel_rfl
theorem op_at (i : Nat) (hi : i < 9) : ∃ c t, signT (3 + (i : Int)) = c :: t ∧ c ≠ 32 ∧ (∀ r, nextR (c :: (t ++ 32 :: r)) = .ok (opT i)) ∧ (opT i).len = (c :: t).length ∧ ∀ a, osW ((opT i).wd a) = 3 + (i : Int) := by
  match i, hi with
  | 0, _ => exact ⟨43, [], by kernel_rfl, by decide, op_3, rfl, fun _ => by kernel_rfl⟩
  | 1, _ => exact ⟨45, [], by kernel_rfl, by decide, op_4, rfl, fun _ => by kernel_rfl⟩
  | 2, _ => exact ⟨42, [], by kernel_rfl, by decide, op_5, rfl, fun _ => by kernel_rfl⟩
  | 3, _ => exact ⟨61, [], by kernel_rfl, by decide, op_6, rfl, fun _ => by kernel_rfl⟩
  | 4, _ => exact ⟨33, [61], by kernel_rfl, by decide, op_7, rfl, fun _ => by kernel_rfl⟩
  | 5, _ => exact ⟨60, [], by kernel_rfl, by decide, op_8, rfl, fun _ => by kernel_rfl⟩
  | 6, _ => exact ⟨60, [61], by kernel_rfl, by decide, op_9, rfl, fun _ => by kernel_rfl⟩
  | 7, _ => exact ⟨65, [78, 68], by kernel_rfl, by decide, op_10, rfl, fun _ => by kernel_rfl⟩
  | 8, _ => exact ⟨79, [82], by kernel_rfl, by decide, op_11, rfl, fun _ => by kernel_rfl⟩
theorem lex_op {a : Nat} {o : Int} {r : List UInt8} (h1 : 3 ≤ o) (h2 : o ≤ 11) : ∃ w, Lex a (signT o) (32 :: r) [w] ∧ osW w = o := by
  obtain ⟨c, t, k1, k2, k3, k4, k5⟩ := op_at (o - 3).toNat (by omega)
  have e1 : 3 + (((o - 3).toNat : Nat) : Int) = o := by omega
  rw [e1] at k1 k5
  refine ⟨(opT (o - 3).toNat).wd a, ?_, k5 a⟩
  rw [k1]
  exact Lex.word k2 (k3 r) k4
end Go.Sv
/- A condition that is shown is read as it was. -/
namespace Go.Sv
open Go Go.Proofs

def cN (k : Nat) (x : Ex) : Nat := (nodesN (15 + k) x).length
theorem cN_1 {k : Nat} {o : Int} {v : Val} {al f : List UInt8} (h : o ≠ 0) : cN (k + 1) (.mk o v al f []) = 1 := by
  show (nodesN ((15 + k) + 1) (.mk o v al f [])).length = 1
  rw [nodesN, if_neg (show ¬ Ex.op (.mk o v al f []) = 0 from h)]; rfl
theorem cN_2 {k : Nat} {o : Int} {v : Val} {al f : List UInt8} {x : Ex} (h : o ≠ 0) : cN (k + 1) (.mk o v al f [x]) = cN k x + 1 := by
  show (nodesN ((15 + k) + 1) (.mk o v al f [x])).length = _
  rw [nodesN, if_neg (show ¬ Ex.op (.mk o v al f [x]) = 0 from h), show Ex.kids (.mk o v al f [x]) = [x] from rfl, List.flatMap_cons, List.flatMap_nil, List.append_nil]; rfl
theorem cN_3 {k : Nat} {o : Int} {v : Val} {al f : List UInt8} {x y : Ex} (h : o ≠ 0) : cN (k + 1) (.mk o v al f [x, y]) = cN k x + cN k y + 1 := by
  show (nodesN ((15 + k) + 1) (.mk o v al f [x, y])).length = _
  rw [nodesN, if_neg (show ¬ Ex.op (.mk o v al f [x, y]) = 0 from h), show Ex.kids (.mk o v al f [x, y]) = [x, y] from rfl, List.flatMap_cons, List.flatMap_cons, List.flatMap_nil, List.append_nil, List.length_cons, List.length_append]; rfl

structure NodeRead (s : List UInt8) (k : Nat) (x : Ex) (a : Nat) (r : List UInt8) (ws : List Wd) : Prop where
  lex : Lex a (toldN showV k x) r ws
  len : ws.length ≤ 3 * cN k x
  nn : ∀ l, hdT 4 not3 (ws ++ l) = false
  rd : ∀ l n, n + cN k x ≤ 24 → nodeE s k (ws ++ l) n = .ok (x, l, n + cN k x)

theorem plain_at {s r : List UInt8} {a : Nat} {n : Int} (hn : I64 n) (h : s.drop a = decD n ++ r) (hr : NoHd isDg r) : plainW s ⟨2, [], n, a⟩ = true := by
  rw [plainW, decF_eq n hn.1 hn.2]
  show ((decD n).isPrefixOf (s.drop a) && !hdDg ((s.drop a).drop (decD n).length)) = true
  rw [h, List.isPrefixOf_iff_prefix.2 (List.prefix_append _ _), List.drop_left]
  cases r with
  | nil => rfl
  | cons c t => rw [show hdDg (c :: t) = isDg c from rfl, hr c t rfl]; rfl
/-- A value. -/
theorem lit_read {s : List UInt8} {k : Nat} {v : Val} {a : Nat} {r : List UInt8} (hv : valIs v = true) (hn : I64 v.n) (hr : Dl r) (hs : s.drop a = showV v ++ r) : ∃ w, Lex a (showV v) r [w] ∧ (∀ l, hdT 4 not3 (w :: l) = false) ∧ ∀ l n, n + 1 ≤ 24 → nodeE s (k + 1) (w :: l) n = .ok (litX v, l, n + 1) := by
  obtain ⟨kd, n, st⟩ := v
  by_cases h1 : kd = 1
  · subst h1
    have e1 : st = [] := by
      rw [valIs, if_pos rfl] at hv
      exact of_decide_eq_true hv
    subst e1
    rw [showV_1 hv rfl] at hs ⊢
    have hp := plain_at hn hs hr.dg
    refine ⟨⟨2, [], n, a⟩, lex_dec hn hr.dg, fun l => rfl, fun l m hm => ?_⟩
    refine nodeE_lit ?_ (by omega) rfl
    rw [beginsW, show hdK 2 (⟨2, [], n, a⟩ :: l) = true from rfl, show (⟨2, [], n, a⟩ :: l : List Wd).headD wd0 = ⟨2, [], n, a⟩ from rfl, hp]; rfl
  by_cases h2 : kd = 2
  · subst h2
    have hv' := hv
    rw [valIs, if_neg h1, if_pos rfl, Bool.and_eq_true] at hv
    have e1 : n = 0 := of_decide_eq_true hv.1
    subst e1
    rw [showV_2 hv' rfl] at hs ⊢
    exact ⟨⟨3, st, 0, a⟩, lex_quoted hv.2, fun l => rfl, fun l m hm => nodeE_lit rfl (by omega) rfl⟩
  have h3 : kd = 3 := valIs_kind hv h1 h2
  subst h3
  have hv' := hv
  rw [valIs, if_neg h1, if_neg h2, if_pos rfl, Bool.and_eq_true, Bool.or_eq_true] at hv
  have e1 : st = [] := of_decide_eq_true hv.2
  subst e1
  have hg : NoHd isGr r := fun c t e => by rcases hr c t e with rfl | rfl | rfl <;> decide
  by_cases h4 : n = 1
  · subst h4
    rw [showV_t hv' h1 h2 rfl] at hs ⊢
    exact ⟨⟨4, trueL, 0, a⟩, lex_great (by decide) (by decide) (by decide) hg, fun l => rfl, fun l m hm => nodeE_lit rfl (by omega) rfl⟩
  · have e2 : n = 0 := hv.1.elim (fun h => of_decide_eq_true h) fun h => absurd (of_decide_eq_true h) h4
    subst e2
    rw [showV_f hv' h1 h2 h4] at hs ⊢
    exact ⟨⟨4, falseL, 0, a⟩, lex_great (by decide) (by decide) (by decide) hg, fun l => rfl, fun l m hm => nodeE_lit rfl (by omega) rfl⟩

theorem node_read (s : List UInt8) : ∀ (k : Nat) (x : Ex), shapedN k x = true → exRg x → ∀ (a : Nat) (r : List UInt8), Dl r → s.drop a = toldN showV k x ++ r → ∃ ws, NodeRead s k x a r ws
  | 0, _, h, _, _, _, _, _ => by cases h
  | k + 1, .mk o v al f l, hsh, hrg, a, r, hr, hs => by
    have hrg2 := (exRg_eq _).1 hrg
    rcases shape_cases hsh with rfl | rfl | ⟨rfl, x, rfl, hx⟩ | ⟨h3, h11, x, y, rfl, hx, hy⟩
    · obtain ⟨b1, rfl, rfl, rfl⟩ := shape_1 hsh
      rw [toldN_1] at hs
      obtain ⟨w, c1, c2, c3⟩ := lit_read (k := k) b1 hrg2.1 hr hs
      have hc : cN (k + 1) (.mk 1 v [] [] []) = 1 := cN_1 (by decide)
      refine ⟨[w], ⟨by rw [toldN_1]; exact c1, by rw [hc]; simp, c2, fun l n hn => ?_⟩⟩
      rw [hc] at hn ⊢
      exact c3 l n hn
    · obtain ⟨rfl, b2, b3, rfl⟩ := shape_2 hsh
      have hc : cN (k + 1) (.mk 2 val0 al f []) = 1 := cN_1 (by decide)
      refine ⟨[⟨1, al, 0, a⟩, ⟨5, [46], 0, a + al.length⟩, ⟨1, f, 0, a + al.length + 1⟩], ⟨?_, by rw [hc]; simp, fun l => rfl, fun l n hn => ?_⟩⟩
      · rw [toldN_2, List.append_assoc]
        exact Lex.app (ws := [_]) (lex_name b2 (NoHd.cons (by decide))) (Lex.app (ws := [_]) (lex_sign (by decide)) (lex_name b3 hr.sm))
      · rw [hc] at hn ⊢
        show nodeE s (k + 1) (⟨1, al, 0, a⟩ :: ⟨5, [46], 0, a + al.length⟩ :: ⟨1, f, 0, a + al.length + 1⟩ :: l) n = _
        rw [nodeE_fld rfl (by omega) rfl rfl]
        rfl
    · obtain ⟨rfl, rfl, rfl⟩ := shape_3 hsh (by omega) (by omega)
      have hc : cN (k + 1) (.mk 12 val0 [] [] [x]) = cN k x + 1 := cN_2 (by decide)
      rw [toldN_12, List.append_assoc, List.append_assoc] at hs
      have hs1 : s.drop (a + 5) = toldN showV k x ++ (41 :: r) := drop_app (t := notL) hs
      obtain ⟨wx, d1, d2, d3, d4⟩ := node_read s k x hx (hrg2.2 x (by simp [Ex.kids])) (a + 5) (41 :: r) (Dl.cons (by decide)) hs1
      refine ⟨⟨5, [40], 0, a⟩ :: ⟨4, not3, 0, a + 1⟩ :: (wx ++ [⟨5, [41], 0, a + 5 + (toldN showV k x).length⟩]), ⟨?_, ?_, fun l => rfl, fun l n hn => ?_⟩⟩
      · rw [toldN_12, List.append_assoc]
        show Lex a ([40] ++ ([78, 79, 84] ++ (32 :: (toldN showV k x ++ [41])))) r ([_] ++ ([_] ++ (wx ++ [_])))
        exact Lex.app (lex_sign (by decide)) (Lex.app (lex_great (by decide) (by decide) (by decide) (NoHd.cons (by decide))) (Lex.blank (Lex.app d1 (lex_sign (by decide)))))
      · rw [hc]; simp only [List.length_cons, List.length_append, List.length_nil]; omega
      · rw [hc] at hn ⊢
        show nodeE s (k + 1) (⟨5, [40], 0, a⟩ :: ⟨4, not3, 0, a + 1⟩ :: ((wx ++ [⟨5, [41], 0, a + 5 + (toldN showV k x).length⟩]) ++ l)) n = _
        rw [nodeE_not rfl (by omega) rfl rfl rfl]
        show thenE (nodeE s k ((wx ++ [_]) ++ l) (n + 1)) _ = _
        rw [List.append_assoc, d4 _ _ (by omega), thenE_o, mustE_t rfl, show n + 1 + cN k x = n + (cN k x + 1) by omega]
        rfl
    · obtain ⟨rfl, rfl, rfl⟩ := shape_3 hsh (by omega) (by omega)
      have hc : cN (k + 1) (.mk o val0 [] [] [x, y]) = cN k x + cN k y + 1 := cN_3 (by omega)
      have ht : toldN showV (k + 1) (.mk o val0 [] [] [x, y]) = [40] ++ (toldN showV k x ++ (32 :: (signT o ++ (32 :: (toldN showV k y ++ [41]))))) := by
        rw [toldN_op (by omega) (by omega) (by omega)]
        simp only [List.append_assoc, List.cons_append, List.nil_append]
      have hs0 : s.drop a = [40] ++ (toldN showV k x ++ ([32] ++ (signT o ++ ([32] ++ (toldN showV k y ++ (41 :: r)))))) := by
        rw [hs, ht]; simp only [List.append_assoc, List.cons_append, List.nil_append]
      have hs1 := drop_app hs0
      have hs2 := drop_app (drop_app (drop_app (drop_app hs1)))
      obtain ⟨wx, d1, d2, d3, d4⟩ := node_read s k x hx (hrg2.2 x (by simp [Ex.kids])) _ _ (Dl.cons (by decide)) hs1
      obtain ⟨wy, e1, e2, e3, e4⟩ := node_read s k y hy (hrg2.2 y (by simp [Ex.kids])) _ _ (Dl.cons (by decide)) hs2
      obtain ⟨wo, g1, g2⟩ := lex_op (a := a + 1 + (toldN showV k x).length + 1) (o := o) (r := toldN showV k y ++ (41 :: r)) h3 h11
      refine ⟨⟨5, [40], 0, a⟩ :: (wx ++ (wo :: (wy ++ [⟨5, [41], 0, a + 1 + (toldN showV k x).length + 1 + (signT o).length + 1 + (toldN showV k y).length⟩]))), ⟨?_, ?_, fun l => rfl, fun l n hn => ?_⟩⟩
      · rw [ht]
        refine Lex.app (ws := [_]) (lex_sign (by decide)) (Lex.app ?_ (Lex.blank (Lex.app (ws := [_]) ?_ (Lex.blank (Lex.app e1 (lex_sign (by decide)))))))
        · simp only [List.append_assoc, List.cons_append, List.nil_append]; exact d1
        · simp only [List.append_assoc, List.cons_append, List.nil_append]; exact g1
      · rw [hc]; simp only [List.length_cons, List.length_append, List.length_nil]; omega
      · rw [hc] at hn ⊢
        simp only [List.append_assoc, List.cons_append, List.nil_append]
        rw [nodeE_two rfl (by omega) rfl rfl (d3 _)]
        show thenE (nodeE s k (wx ++ _) (n + 1)) _ = _
        rw [d4 _ _ (by omega), thenE_o, osE_t (by show osW wo ≠ 0; rw [g2]; omega), thenE_o]
        show thenE (nodeE s k (wy ++ _) (n + 1 + cN k x)) _ = _
        rw [e4 _ _ (by omega), thenE_o, mustE_t rfl, show n + 1 + cN k x + cN k y = n + (cN k x + cN k y + 1) by omega]
        show Except.ok (Ex.mk (osW wo) val0 [] [] [x, y], _, _) = _
        rw [g2]; rfl
end Go.Sv
/- A pattern that is shown is read as it was. -/
namespace Go.Sv
open Go Go.Proofs

theorem cond_read {s : List UInt8} {x : Ex} {a : Nat} {r : List UInt8} (hx : x = ex0 ∨ (x.op ≠ 0 ∧ shapedN 5 x = true)) (hg : exRg x) (hc : x.op ≠ 0 → cN 5 x ≤ 24) (hs : s.drop a = condT x ++ r) :
    ∃ wc, Lex a (condT x) r wc ∧ wc.length ≤ 74 ∧ (∀ u m, u ≠ [91] → hdT 5 u m = false → hdT 5 u (wc ++ m) = false) ∧ ∀ m n, hdT 5 [91] m = false → ∃ n', condE s (wc ++ m) n = .ok (x, m, n') := by
  rcases hx with rfl | ⟨h0, h5⟩
  · refine ⟨[], ?_, by simp, fun u m _ h => h, fun m n h => ⟨n, ?_⟩⟩
    · rw [condT, if_pos (show ex0.op = 0 from rfl)]; exact Lex.nil
    · show condE s m n = _
      rw [condE, h, if_neg (by decide)]
  · have ht : condT x = [91] ++ (toldN showV 5 x ++ [93]) := by rw [condT, if_neg h0, List.append_assoc]
    have hs1 : s.drop (a + 1) = toldN showV 5 x ++ (93 :: r) := by
      rw [ht, List.append_assoc, List.append_assoc] at hs
      exact drop_app (t := [91]) hs
    obtain ⟨ws, d1, d2, d3, d4⟩ := node_read s 5 x h5 hg (a + 1) (93 :: r) (Dl.cons (by decide)) hs1
    have h24 := hc h0
    refine ⟨⟨5, [91], 0, a⟩ :: (ws ++ [⟨5, [93], 0, a + 1 + (toldN showV 5 x).length⟩]), ?_, ?_, ?_, ?_⟩
    · rw [ht]
      exact Lex.app (ws := [_]) (lex_sign (by decide)) (Lex.app d1 (lex_sign (by decide)))
    · simp only [List.length_cons, List.length_append, List.length_nil]; omega
    · intro u m hu _
      show (decide (5 = 5) && decide (([91] : List UInt8) = u)) = false
      rw [decide_eq_false (fun e : ([91] : List UInt8) = u => hu e.symm), Bool.and_false]
    · intro m n h
      refine ⟨0 + cN 5 x, ?_⟩
      show condE s (⟨5, [91], 0, a⟩ :: ((ws ++ [_]) ++ m)) n = _
      rw [condE, if_pos (show hdT 5 [91] (⟨5, [91], 0, a⟩ :: ((ws ++ [⟨5, [93], 0, a + 1 + (toldN showV 5 x).length⟩]) ++ m)) = true from rfl)]
      show thenE (nodeE s 5 ((ws ++ [_]) ++ m) 0) _ = _
      rw [List.append_assoc, d4 _ _ (by omega), thenE_o, mustE_t rfl]
      rfl

theorem types_end {k : Nat} {acc : List (List UInt8)} {m : List Wd} {n : Nat} (h : hdT 5 [124] m = false) : typesE k acc m n = .ok (acc, m, n) := by
  cases k with
  | zero => rfl
  | succ k => rw [typesE, h, if_neg (by decide)]
theorem types_read : ∀ (l : List (List UInt8)) (a : Nat) (r : List UInt8), (∀ x ∈ l, isNm x = true) → NoHd smBar r →
    ∃ ws, Lex a (Lib.joinTail [124] l) r ws ∧ ws.length = 2 * l.length ∧ ∀ k acc n m, l.length ≤ k → hdT 5 [124] m = false → typesE k acc (ws ++ m) n = .ok (acc ++ l, m, n)
  | [], a, r, _, _ => ⟨[], Lex.nil, rfl, fun k acc n m _ h => by rw [List.append_nil]; exact types_end h⟩
  | x :: l, a, r, hl, hr => by
    obtain ⟨ws, h1, h2, h3⟩ := types_read l (a + 1 + x.length) r (fun y hy => hl y (by simp [hy])) hr
    refine ⟨⟨5, [124], 0, a⟩ :: ⟨1, x, 0, a + 1⟩ :: ws, ?_, ?_, fun k acc n m hk h => ?_⟩
    · rw [joinTail_cons, List.append_assoc]
      exact Lex.app (ws := [_]) (lex_sign (by decide)) (Lex.app (ws := [_]) (lex_name (hl x (by simp)) (tail_nohd hr)) h1)
    · simp only [List.length_cons, h2]; omega
    · cases k with
      | zero => simp at hk
      | succ k =>
        show typesE (k + 1) acc (⟨5, [124], 0, a⟩ :: ⟨1, x, 0, a + 1⟩ :: (ws ++ m)) n = _
        rw [typesE, if_pos (show hdT 5 [124] (⟨5, [124], 0, a⟩ :: ⟨1, x, 0, a + 1⟩ :: (ws ++ m)) = true from rfl)]
        show thenE (takeE 1 (⟨1, x, 0, a + 1⟩ :: (ws ++ m)) n) _ = _
        rw [takeE_t rfl, thenE_o]
        show typesE k (acc ++ [x]) (ws ++ m) n = _
        rw [h3 k _ n m (by simpa using hk) h, List.append_assoc]; rfl

/-- What stands behind an element's words. -/
def Stop (m : List Wd) : Prop := hdT 5 [44] m = true ∨ hdT 5 [41] m = true
theorem hdT_other {t u : List UInt8} {m : List Wd} (h : hdT 5 t m = true) (hu : t ≠ u) : hdT 5 u m = false := by
  cases m with
  | nil => cases h
  | cons w m =>
    simp only [hdT, Bool.and_eq_true] at h ⊢
    rw [decide_eq_false (fun e : w.text = u => hu (by rw [← of_decide_eq_true h.2, e])), Bool.and_false]
theorem Stop.no {m : List Wd} (h : Stop m) {u : List UInt8} (h1 : ([44] : List UInt8) ≠ u) (h2 : ([41] : List UInt8) ≠ u) : hdT 5 u m = false := h.elim (fun h => hdT_other h h1) fun h => hdT_other h h2

structure ElFull (e : El) : Prop where
  good : ElGood e
  rg : exRg e.cond
  cnt : e.cond.op ≠ 0 → cN 5 e.cond ≤ 24
theorem el_full {e : El} (h : isElB e = true) (hg : exRg e.cond) : ElFull e := by
  refine ⟨el_good h, hg, fun h0 => ?_⟩
  rw [isElB, Bool.and_eq_true, Bool.and_eq_true, Bool.and_eq_true, Bool.and_eq_true, Bool.and_eq_true, Bool.and_eq_true, Bool.or_eq_true] at h
  obtain ⟨_, _, _, _, _, _, h7⟩ := h
  rcases h7 with h7 | h7
  · rw [zeroB_iff.1 h7] at h0
    exact absurd rfl h0
  · rw [isExB, Bool.and_eq_true, Bool.and_eq_true, Bool.and_eq_true] at h7
    exact of_decide_eq_true h7.1.1.2

theorem elem_read {s : List UInt8} {e : El} {a : Nat} {r : List UInt8} (he : ElFull e) (hr : De r) (hs : s.drop a = elT e ++ r) :
    ∃ ws, Lex a (elT e) r ws ∧ ws.length ≤ 83 ∧ ∀ m n, Stop m → ∃ n', elemE s (ws ++ m) n = .ok (e, m, n') := by
  obtain ⟨al, ty, pl, nt, cd⟩ := e
  obtain ⟨⟨ga, g1, g3, _, gt, gc⟩, hg, hc⟩ := he
  cases ty with
  | nil => simp at g1
  | cons t0 ts =>
  have ht : elT ⟨al, t0 :: ts, pl, nt, cd⟩ = ntT nt ++ (al ++ ([58] ++ (t0 ++ (Lib.joinTail [124] ts ++ (plusT pl ++ condT cd))))) := by
    rw [elT_eq, Lib.join_cons]
    simp only [List.append_assoc]
  rw [ht] at hs ⊢
  simp only [List.append_assoc] at hs
  have hs5 := drop_app (drop_app (drop_app (drop_app (drop_app (drop_app hs)))))
  have hcn := condT_nohd (x := cd) hr
  have hpn : NoHd smBar (plusT pl ++ (condT cd ++ r)) := by
    cases pl with
    | true => exact NoHd.cons (by decide)
    | false =>
      intro c t e
      have := hcn c t e
      rw [Bool.or_eq_false_iff] at this
      exact this.1
  obtain ⟨wc, c1, c2, c3, c4⟩ := cond_read gc hg hc hs5
  obtain ⟨wt, b1, b2, b3⟩ := types_read ts (a + (ntT nt).length + al.length + 1 + t0.length) (plusT pl ++ (condT cd ++ r)) (fun x hx => gt x (by simp [hx])) hpn
  obtain ⟨wp, p1, p2, p3⟩ : ∃ wp, Lex (a + (ntT nt).length + al.length + 1 + t0.length + (Lib.joinTail [124] ts).length) (plusT pl) (condT cd ++ r) wp ∧ wp.length ≤ 1 ∧
      ∀ m, hdT 5 [43] m = false → hdT 5 [124] m = false → hdT 5 [43] (wp ++ m) = pl ∧ optT 5 [43] (wp ++ m) = m ∧ hdT 5 [124] (wp ++ m) = false := by
    cases pl with
    | true => exact ⟨[_], lex_sign (by decide), by simp, fun m _ _ => ⟨rfl, rfl, rfl⟩⟩
    | false => exact ⟨[], Lex.nil, by simp, fun m h h' => ⟨h, by show optT 5 [43] m = m; rw [optT, h, if_neg (by decide)], h'⟩⟩
  obtain ⟨wn, n1, n2, n3⟩ : ∃ wn, Lex a (ntT nt) (al ++ ([58] ++ (t0 ++ (Lib.joinTail [124] ts ++ (plusT pl ++ (condT cd ++ r)))))) wn ∧ wn.length ≤ 1 ∧
      ∀ b m, hdT 5 [33] (wn ++ (⟨1, al, 0, b⟩ :: m)) = nt ∧ optT 5 [33] (wn ++ (⟨1, al, 0, b⟩ :: m)) = ⟨1, al, 0, b⟩ :: m := by
    cases nt with
    | true =>
      refine ⟨[_], lex_not ?_, by simp, fun b m => ⟨rfl, rfl⟩⟩
      obtain ⟨q1, q2, _⟩ := isNm_all ga
      cases al with
      | nil => exact absurd rfl q2
      | cons c t =>
        refine NoHd.cons ?_
        have := q1 c (by simp)
        refine decide_eq_false fun e => ?_
        rw [e] at this; cases this
    | false => exact ⟨[], Lex.nil, by simp, fun b m => ⟨rfl, rfl⟩⟩
  refine ⟨wn ++ (⟨1, al, 0, a + (ntT nt).length⟩ :: ⟨5, [58], 0, a + (ntT nt).length + al.length⟩ :: ⟨1, t0, 0, a + (ntT nt).length + al.length + 1⟩ :: (wt ++ (wp ++ wc))), ?_, ?_, fun m n hm => ?_⟩
  · refine Lex.app (by simp only [List.append_assoc]; exact n1) (Lex.app (ws := [_]) (lex_name ga (NoHd.cons (by decide))) (Lex.app (ws := [_]) (lex_sign (by decide)) (Lex.app (ws := [_]) (lex_name (gt t0 (by simp)) ?_) (Lex.app ?_ (Lex.app p1 c1)))))
    · simp only [List.append_assoc]; exact tail_nohd hpn
    · simp only [List.append_assoc]; exact b1
  · simp only [List.length_append, List.length_cons] at g3 ⊢
    omega
  · have hm1 := hm.no (u := [124]) (by decide) (by decide)
    have hm2 := hm.no (u := [43]) (by decide) (by decide)
    have hm3 := hm.no (u := [91]) (by decide) (by decide)
    obtain ⟨n', hn'⟩ := c4 m n hm3
    obtain ⟨q1, q2, q3⟩ := p3 (wc ++ m) (c3 [43] m (by decide) hm2) (c3 [124] m (by decide) hm1)
    have q4 := b3 (wt ++ (wp ++ (wc ++ m))).length [t0] n (wp ++ (wc ++ m)) (by rw [List.length_append, b2]; omega) q3
    obtain ⟨r1, r2⟩ := n3 (a + (ntT nt).length) (⟨5, [58], 0, a + (ntT nt).length + al.length⟩ :: ⟨1, t0, 0, a + (ntT nt).length + al.length + 1⟩ :: (wt ++ (wp ++ (wc ++ m))))
    refine ⟨n', ?_⟩
    simp only [List.append_assoc, List.cons_append]
    rw [elemE, r2, r1, takeE_t rfl, thenE_o]
    show thenE (mustE 5 [58] () (⟨5, [58], 0, a + (ntT nt).length + al.length⟩ :: ⟨1, t0, 0, a + (ntT nt).length + al.length + 1⟩ :: (wt ++ (wp ++ (wc ++ m)))) n) _ = _
    rw [mustE_t rfl, thenE_o]
    show thenE (takeE 1 (⟨1, t0, 0, a + (ntT nt).length + al.length + 1⟩ :: (wt ++ (wp ++ (wc ++ m)))) n) _ = _
    rw [takeE_t rfl, thenE_o]
    show thenE (typesE (wt ++ (wp ++ (wc ++ m))).length [t0] (wt ++ (wp ++ (wc ++ m))) n) _ = _
    rw [q4, thenE_o, q2, hn', thenE_o, q1]
    rfl

theorem Stop.c {a : Nat} {m : List Wd} : Stop (⟨5, [44], 0, a⟩ :: m) := .inl rfl
theorem elems_end {s : List UInt8} {k : Nat} {acc : List El} {m : List Wd} {n : Nat} (h : hdT 5 [41] m = true) : elemsE s k acc m n = .ok (acc, m, n) := by
  cases k with
  | zero => rfl
  | succ k => rw [elemsE, hdT_other h (by decide), if_neg (by decide)]
theorem elems_read {s : List UInt8} : ∀ (l : List El) (a : Nat) (r : List UInt8), (∀ e ∈ l, ElFull e) → s.drop a = Lib.joinTail [44, 32] (l.map elT) ++ (41 :: r) →
    ∃ ws, Lex a (Lib.joinTail [44, 32] (l.map elT)) (41 :: r) ws ∧ ws.length ≤ 84 * l.length ∧ l.length ≤ ws.length ∧ (∀ m, hdT 5 [41] m = true → Stop (ws ++ m)) ∧ ∀ k acc n m, l.length ≤ k → hdT 5 [41] m = true → ∃ n', elemsE s k acc (ws ++ m) n = .ok (acc ++ l, m, n')
  | [], a, r, _, _ => ⟨[], Lex.nil, by simp, by simp, fun m h => .inr h, fun k acc n m _ h => ⟨n, by rw [List.append_nil]; exact elems_end h⟩⟩
  | e :: l, a, r, hl, hs => by
    have ht : Lib.joinTail [44, 32] ((e :: l).map elT) = [44] ++ (32 :: (elT e ++ Lib.joinTail [44, 32] (l.map elT))) := by
      rw [List.map_cons, joinTail_cons, List.append_assoc]; rfl
    have hs0 : s.drop a = [44, 32] ++ (elT e ++ (Lib.joinTail [44, 32] (l.map elT) ++ (41 :: r))) := by
      rw [hs, ht]; simp only [List.append_assoc, List.cons_append, List.nil_append]
    have hs1 : s.drop (a + 2) = elT e ++ (Lib.joinTail [44, 32] (l.map elT) ++ (41 :: r)) := drop_app hs0
    have hs2 := drop_app hs1
    have hde : De (Lib.joinTail [44, 32] (l.map elT) ++ (41 :: r)) := by
      cases l with
      | nil => exact ⟨41, r, rfl, .inr rfl⟩
      | cons e2 l => exact ⟨44, 32 :: (elT e2 ++ Lib.joinTail [44, 32] (l.map elT) ++ (41 :: r)), by rw [List.map_cons, joinTail_cons]; simp only [List.append_assoc, List.cons_append, List.nil_append], .inl rfl⟩
    obtain ⟨we, e1, e2, e3⟩ := elem_read (hl e (by simp)) hde hs1
    obtain ⟨ws, h1, h2, h5, h3, h4⟩ := elems_read l _ r (fun x hx => hl x (by simp [hx])) hs2
    refine ⟨⟨5, [44], 0, a⟩ :: (we ++ ws), ?_, ?_, ?_, fun m hm => Stop.c, fun k acc n m hk hm => ?_⟩
    · rw [ht]
      exact Lex.app (ws := [_]) (lex_sign (by decide)) (Lex.blank (Lex.app e1 h1))
    · simp only [List.length_cons, List.length_append]; omega
    · simp only [List.length_cons, List.length_append]; omega
    · cases k with
      | zero => simp at hk
      | succ k =>
        obtain ⟨n1, g1⟩ := e3 (ws ++ m) n (h3 m hm)
        obtain ⟨n2, g2⟩ := h4 k (acc ++ [e]) n1 m (by simpa using hk) hm
        refine ⟨n2, ?_⟩
        simp only [List.cons_append, List.append_assoc]
        rw [elemsE, if_pos (show hdT 5 [44] (⟨5, [44], 0, a⟩ :: (we ++ (ws ++ m))) = true from rfl)]
        show thenE (elemE s (we ++ (ws ++ m)) n) _ = _
        rw [g1, thenE_o, g2, List.append_assoc]; rfl

theorem pa_full {p : Pa} (h : isPaB p = true) (hg : ∀ e ∈ p.els, exRg e.cond) : ∀ e ∈ p.els, ElFull e := fun e he => by
  rw [isPaB, Bool.and_eq_true, Bool.and_eq_true, Bool.and_eq_true, Bool.and_eq_true, Bool.and_eq_true, Bool.and_eq_true, Bool.and_eq_true] at h
  obtain ⟨_, _, _, _, _, _, _, h8⟩ := h
  obtain ⟨i, hi⟩ := List.mem_iff_getElem?.1 he
  have := List.all_eq_true.1 h8 i (List.mem_range.2 (List.getElem?_eq_some_iff.1 hi).1)
  rw [getDx hi, okAtB, Bool.and_eq_true] at this
  exact el_full this.1 (hg e he)

def byP (b : List UInt8) : List UInt8 := if b = [] then [] else byL ++ b
def anyP (b : Bool) : List UInt8 := if b then anyL else []
theorem any_nohd {p : UInt8 → Bool} (h : p 32 = false) (b : Bool) : NoHd p (anyP b) := by
  cases b with
  | true => exact NoHd.cons h
  | false => exact NoHd.nil
theorem any_read {a : Nat} (b : Bool) : ∃ ws, Lex a (anyP b) [] ws ∧ ws.length ≤ 1 ∧ hdT 4 any3 ws = b ∧ optT 4 any3 ws = [] ∧ hdT 4 by2 ws = false := by
  cases b with
  | true => exact ⟨[⟨4, any3, 0, a + 1⟩], Lex.blank (lex_great (by decide) (by decide) (by decide) NoHd.nil), by simp, rfl, rfl, rfl⟩
  | false => exact ⟨[], Lex.nil, by simp, rfl, rfl, rfl⟩
theorem by_read {a : Nat} {b : List UInt8} {r : List UInt8} (h : b = [] ∨ isNm b = true) (hr : NoHd isSm r) : ∃ ws, Lex a (byP b) r ws ∧ ws.length ≤ 2 ∧ ∀ m n, hdT 4 by2 m = false → byE (ws ++ m) n = .ok (b, m, n) := by
  rcases h with rfl | h
  · exact ⟨[], Lex.nil, by simp, fun m n h => by show byE m n = _; rw [byE, h, if_neg (by decide)]⟩
  · have hne := (isNm_all h).2.1
    refine ⟨[⟨4, by2, 0, a + 1⟩, ⟨1, b, 0, a + 1 + 2 + 1⟩], ?_, by simp, fun m n _ => ?_⟩
    · rw [byP, if_neg hne]
      show Lex a (32 :: ([66, 89] ++ (32 :: b))) r ([_] ++ [_])
      exact Lex.blank (Lex.app (lex_great (by decide) (by decide) (by decide) (NoHd.cons (by decide))) (Lex.blank (lex_name h hr)))
    · show byE (⟨4, by2, 0, a + 1⟩ :: ⟨1, b, 0, a + 1 + 2 + 1⟩ :: m) n = _
      rw [byE, if_pos (show hdT 4 by2 (⟨4, by2, 0, a + 1⟩ :: ⟨1, b, 0, a + 1 + 2 + 1⟩ :: m) = true from rfl)]
      show thenE (takeE 1 (⟨1, b, 0, a + 1 + 2 + 1⟩ :: m) n) _ = _
      rw [takeE_t rfl, thenE_o]; rfl

theorem read_back {p : Pa} (h : isPaB p = true) (hg : ∀ e ∈ p.els, exRg e.cond) : parsePaE (paT p) = .ok p := by
  have hfull := pa_full h hg
  have hgood := pa_good h
  obtain ⟨els, wi, bb, an⟩ := p
  obtain ⟨_, k1, k5, w0, w1, hb⟩ := hgood
  cases els with
  | nil => simp at k1
  | cons e l =>
  simp only at k1 k5 w0 w1 hb hfull
  obtain ⟨s, hsd⟩ : ∃ s, s = paT ⟨e :: l, wi, bb, an⟩ := ⟨_, rfl⟩
  have ht : s = [83, 69, 81] ++ ([40] ++ (elT e ++ (Lib.joinTail [44, 32] (l.map elT) ++ ([41] ++ (32 :: ([87, 73, 84, 72, 73, 78] ++ (32 :: (decD wi ++ (byP bb ++ anyP an))))))))) := by
    rw [hsd, paT, List.map_cons, Lib.join_cons]
    show seqL ++ (elT e ++ Lib.joinTail [44, 32] (l.map elT)) ++ withinL ++ decD wi ++ byP bb ++ anyP an = _
    simp only [seqL, withinL, List.append_assoc, List.cons_append, List.nil_append]
  have hs0 : s.drop 0 = [83, 69, 81, 40] ++ (elT e ++ (Lib.joinTail [44, 32] (l.map elT) ++ (41 :: (32 :: ([87, 73, 84, 72, 73, 78] ++ (32 :: (decD wi ++ (byP bb ++ anyP an)))))))) := by
    rw [List.drop_zero, ht]; simp only [List.cons_append, List.nil_append]
  have hs1 : s.drop 4 = _ := drop_app hs0
  have hs2 := drop_app hs1
  have hs3 := drop_app hs2
  have hde : De (Lib.joinTail [44, 32] (l.map elT) ++ (41 :: (32 :: ([87, 73, 84, 72, 73, 78] ++ (32 :: (decD wi ++ (byP bb ++ anyP an))))))) := by
    cases l with
    | nil => exact ⟨41, _, rfl, .inr rfl⟩
    | cons e2 l =>
      refine ⟨44, 32 :: (elT e2 ++ (Lib.joinTail [44, 32] (l.map elT) ++ (41 :: (32 :: ([87, 73, 84, 72, 73, 78] ++ (32 :: (decD wi ++ (byP bb ++ anyP an)))))))), ?_, .inl rfl⟩
      rw [List.map_cons, joinTail_cons]; simp only [List.append_assoc, List.cons_append, List.nil_append]
  obtain ⟨we, e1, e2, e3⟩ := elem_read (hfull e (by simp)) hde hs1
  obtain ⟨ws, l1, l2, l5, l3, l4⟩ := elems_read l _ _ (fun x hx => hfull x (by simp [hx])) hs2
  have hs4 : s.drop (4 + (elT e).length + (Lib.joinTail [44, 32] (l.map elT)).length + 9) = decD wi ++ (byP bb ++ anyP an) := by
    refine drop_app (t := withinL) ?_
    rw [hs3]; simp only [withinL, List.cons_append, List.nil_append]
  have hI : I64 wi := ⟨by omega, by omega⟩
  have hdn : NoHd isDg (byP bb ++ anyP an) := by
    rw [byP]
    split
    · exact any_nohd (by decide) an
    · exact NoHd.cons (by decide)
  have hpl := plain_at hI hs4 hdn
  obtain ⟨wb, b1, b2, b3⟩ := by_read (a := 4 + (elT e).length + (Lib.joinTail [44, 32] (l.map elT)).length + 9 + (decD wi).length) (r := anyP an) hb (any_nohd (by decide) an)
  obtain ⟨wa, a1, a2, a3, a4, a5⟩ := any_read (a := 4 + (elT e).length + (Lib.joinTail [44, 32] (l.map elT)).length + 9 + (decD wi).length + (byP bb).length) an
  obtain ⟨P, hP⟩ : ∃ P, P = 4 + (elT e).length + (Lib.joinTail [44, 32] (l.map elT)).length := ⟨_, rfl⟩
  rw [← hP] at hpl b1 a1
  have hlex : Lex 0 s [] ([⟨4, seq3, 0, 0⟩] ++ ([⟨5, [40], 0, 3⟩] ++ (we ++ (ws ++ ([⟨5, [41], 0, P⟩] ++ ([⟨4, within6, 0, P + 2⟩] ++ ([⟨2, [], wi, P + 9⟩] ++ (wb ++ wa)))))))) := by
    rw [ht]
    refine Lex.app (lex_great (by decide) (by decide) (by decide) (NoHd.cons (by decide))) (Lex.app (lex_sign (by decide)) (Lex.app ?_ (Lex.app ?_ (Lex.app ?_ (Lex.blank (Lex.app ?_ (Lex.blank (Lex.app ?_ (Lex.app ?_ ?_)))))))))
    · rw [List.append_nil]
      simp only [List.cons_append, List.nil_append] at e1 ⊢
      exact e1
    · simp only [List.append_nil, List.cons_append, List.nil_append] at l1 ⊢
      exact l1
    · exact Lex.at (lex_sign (by decide)) (by subst hP; simp only [List.length_cons, List.length_nil])
    · exact Lex.at (lex_great (by decide) (by decide) (by decide) (NoHd.cons (by decide))) (by subst hP; simp only [List.length_cons, List.length_nil])
    · refine Lex.at (lex_dec hI ?_) (by subst hP; simp only [List.length_cons, List.length_nil])
      rw [List.append_nil]; exact hdn
    · rw [List.append_nil]
      exact Lex.at b1 (by subst hP; simp only [List.length_cons, List.length_nil])
    · exact Lex.at a1 (by subst hP; simp only [List.length_cons, List.length_nil])
  obtain ⟨W, hW⟩ : ∃ W, W = [⟨4, seq3, 0, 0⟩] ++ ([⟨5, [40], 0, 3⟩] ++ (we ++ (ws ++ ([⟨5, [41], 0, P⟩] ++ ([⟨4, within6, 0, P + 2⟩] ++ ([⟨2, [], wi, P + 9⟩] ++ (wb ++ wa))))))) := ⟨_, rfl⟩
  have hcut : cutW s = .ok W := by
    rw [cutW_items]
    have h1 : items 0 s = W.map fun w => (w, none) := by
      have := hlex
      rw [Lex, List.append_nil, items_nil, List.append_nil] at this
      rw [this, hW]
    rw [h1, collect_all W [] ?_, List.nil_append]
    rw [hW]
    simp only [List.length_append, List.length_cons, List.length_nil] at k5 ⊢
    omega
  obtain ⟨T, hT⟩ : ∃ T : List Wd, T = ⟨5, [41], 0, P⟩ :: ⟨4, within6, 0, P + 2⟩ :: ⟨2, [], wi, P + 9⟩ :: (wb ++ wa) := ⟨_, rfl⟩
  have hT1 : hdT 5 [41] T = true := by rw [hT]; rfl
  have hWT : W = ⟨4, seq3, 0, 0⟩ :: ⟨5, [40], 0, 3⟩ :: (we ++ (ws ++ T)) := by rw [hW, hT]; rfl
  obtain ⟨n1, g1⟩ := e3 (ws ++ T) 0 (l3 T hT1)
  obtain ⟨n2, g2⟩ := l4 (ws ++ T).length [e] n1 T (by rw [List.length_append]; omega) hT1
  have hpat : patE s W 0 = .ok (⟨e :: l, wi, bb, an⟩, [], n2) := by
    rw [hWT, patE, mustE_t rfl, thenE_o]
    show thenE (mustE 5 [40] () (⟨5, [40], 0, 3⟩ :: (we ++ (ws ++ T))) 0) _ = _
    rw [mustE_t rfl, thenE_o]
    show thenE (elemE s (we ++ (ws ++ T)) 0) _ = _
    rw [g1, thenE_o, g2, thenE_o, mustE_t hT1, thenE_o, hT]
    show thenE (mustE 4 within6 () (⟨4, within6, 0, P + 2⟩ :: ⟨2, [], wi, P + 9⟩ :: (wb ++ wa)) n2) _ = _
    rw [mustE_t rfl, thenE_o]
    show thenE (withinE s (⟨2, [], wi, P + 9⟩ :: (wb ++ wa)) n2) _ = _
    rw [withinE, show hdK 2 (⟨2, [], wi, P + 9⟩ :: (wb ++ wa)) = true from rfl, show (⟨2, [], wi, P + 9⟩ :: (wb ++ wa) : List Wd).headD wd0 = ⟨2, [], wi, P + 9⟩ from rfl, hpl, decide_eq_true (show 0 ≤ (⟨2, [], wi, P + 9⟩ : Wd).n from w0), decide_eq_true (show (⟨2, [], wi, P + 9⟩ : Wd).n ≤ 1000 from w1), if_pos (by rfl), thenE_o]
    show thenE (byE (wb ++ wa) n2) _ = _
    rw [b3 wa n2 a5, thenE_o, a3, a4]
    rfl
  rw [parsePaE, ← hsd, hcut]
  simp only
  rw [hpat, endE, if_pos rfl]
  simp only
  rw [if_pos h]
end Go.Sv
/- The text of a pattern. -/
namespace Go.Sv
open Go Go.Proofs


end Go.Sv
/- The text of a pattern: the program's. -/
namespace Go.Sv
open Go Go.Proofs

def paT' (p : Pa) : List UInt8 := if isPaB p then paT p else []
theorem paT_no {p : Pa} (h : isPaB p = false) : paT' p = [] := by rw [paT', h]; rfl
theorem paT_yes {p : Pa} (h : isPaB p = true) : paT' p = paT p := by rw [paT', if_pos h]
theorem cat4 (a b c d : List UInt8) : V.c (.string (S a ++ S b ++ S c ++ S d)) = str (a ++ b ++ c ++ d) := by simp only [S_append]; rfl
theorem cat12 (a b c : List UInt8) : V.c (.string (S a ++ (S b ++ S c))) = str (a ++ (b ++ c)) := by simp only [S_append]; rfl
theorem needQ {a b c : List UInt8} (h : a.length + (b.length + c.length) ≤ 4611686018427387904) : (S a).size + (S b ++ S c).size ≤ 4611686018427387904 := by simp only [S_append, S_size, List.length_append]; exact h

def txs (l : List El) : List V := (l.map elT).map str
theorem txs_next {l : List El} {n : Nat} {e : El} (h : l[n]? = some e) : txs (l.take n) ++ [str (elT e)] = txs (l.take (n + 1)) := by
  rw [List.take_add_one, h]; simp [txs]


end Go.Sv
/- The text of a pattern: the reference's. -/
namespace Go.Sv
open Go Go.Proofs

theorem Vle.via {v a b : V} (h : a = b) (hv : v = a) : Vle v b := Vle.eq (hv.trans h)
def sepT (sep : List UInt8) (n : Nat) : List UInt8 := if 0 < n then sep else []
theorem joinTail_app (sep : List UInt8) (l m : List (List UInt8)) : Lib.joinTail sep (l ++ m) = Lib.joinTail sep l ++ Lib.joinTail sep m := by simp [Lib.joinTail]
theorem join_next {sep : List UInt8} {l : List (List UInt8)} {n : Nat} {x : List UInt8} (h : l[n]? = some x) : Lib.join (l.take (n + 1)) sep = Lib.join (l.take n) sep ++ sepT sep n ++ x := by
  rw [List.take_add_one, h]
  cases n with
  | zero => simp [sepT, Lib.join_nil, Lib.join_one]
  | succ n =>
    cases l with
    | nil => cases h
    | cons y l =>
      rw [List.take_succ_cons, List.cons_append, Lib.join_cons, Lib.join_cons, joinTail_app, sepT, if_pos (by omega)]
      simp only [Option.toList_some, joinTail_cons, List.append_assoc]
      simp [Lib.joinTail]

set_option maxRecDepth 100000 in
set_option maxHeartbeats 1000000 in
theorem refshowpattern_call (p : Pa) (h : PaBd p) : PCall Tryz.prog 10 [.agg (paC p)] (str (paT' p)) := by
  have fp := refpattern_call p h
  obtain ⟨hl, he, hb, hw1, hw2⟩ := h
  refine scall_of (live := []) (ords := [(10, []), (12, []), (18, []), (21, []), (24, []), (26, [])]) Tryz.func10 rfl (by kernel_rfl) (by kernel_rfl) (Nat.le_of_ble_eq_true rfl) ?_
  (conv => arg 2; whnf); refine wp_pcall fp ?_
  (conv => arg 2; whnf); refine wp_ite (fun h1 => ?_) (fun h1 => ?_)
  · have h1 : isPaB p = false := by simpa using h1
    (conv => arg 2; whnf); refine w_retp rfl (Vle.eq (congrArg str (paT_no h1).symm))
  have h1 : isPaB p = true := by simpa using h1
  obtain ⟨hg, n1, n5, _, _, hby⟩ := pa_good h1
  have lj : ∀ i, (Lib.join ((p.els.map elT).take i) [44, 32]).length ≤ 2 ^ 20 := fun i => by
    have k1 := join_len [44, 32] ((p.els.map elT).take i) (B := 2 ^ 17) fun x hx => by
      obtain ⟨e, hem, rfl⟩ := List.mem_map.1 (List.mem_of_mem_take hx)
      exact elT_len (hg e hem) (he e hem).2.2.2
    have k2 : ((p.els.map elT).take i).length * (2 + 2 ^ 17) ≤ 5 * (2 + 2 ^ 17) := Nat.mul_le_mul_right _ (by rw [List.length_take, List.length_map]; omega)
    exact Nat.le_trans k1 (Nat.le_trans k2 (by decide))
  (conv => arg 2; whnf); refine wp_loop (fun m fr R => ∃ n : Nat, m = p.els.length - n ∧ n ≤ p.els.length ∧ R = [] ∧ fr = frL [(1, .pt (some 4) (.agg (paC p)) 0), (3, str (seqL ++ Lib.join ((p.els.map elT).take n) [44, 32])), (4, i64V n)])
    p.els.length _ _ (.cons (.refl _) (.cons (.refl _) (.cons (.refl _) (.nil _)))) (List.Sublist.refl _) ⟨0, rfl, Nat.zero_le _, rfl, rfl⟩ ?_
  rintro m fr R ⟨n, rfl, hn, rfl, rfl⟩
  have ljn := lj n
  (conv => arg 2; whnf); refine wp_ite (fun h2 => ?_) (fun h2 => ?_)
  · have h2 : n < p.els.length := by have := of_decide_eq_true h2; rw [List.length_map] at this; omega
    obtain ⟨e, hen⟩ : ∃ e, p.els[n]? = some e := ⟨_, List.getElem?_eq_getElem h2⟩
    have hm := List.mem_of_getElem? hen
    have g := hg e hm
    have ebd := he e hm
    have la := (isNm_all g.al).2.2
    have lty := ty_len g
    have gn3 := g.n3
    have lcd := condT_len g ebd.2.2.2
    have ltk : ∀ k, (Lib.join (e.ty.take k) [124]).length ≤ 27 := fun k => by
      have k1 := join_len [124] (e.ty.take k) (B := 8) fun x hx => (isNm_all (g.ty x (List.mem_of_mem_take hx))).2.2
      have k2 : (e.ty.take k).length * 9 ≤ 3 * 9 := Nat.mul_le_mul_right 9 (by have := g.n3; rw [List.length_take]; omega)
      simp only [List.length_cons, List.length_nil] at k1
      omega
    have hnext := join_next (sep := [44, 32]) (l := p.els.map elT) (n := n) (x := elT e) (by rw [List.getElem?_map, hen]; rfl)
    obtain ⟨t0, ht0⟩ : ∃ t, t = seqL ++ Lib.join ((p.els.map elT).take n) [44, 32] := ⟨_, rfl⟩
    obtain ⟨t1, ht1⟩ : ∃ t, t = t0 ++ sepT [44, 32] n := ⟨_, rfl⟩
    obtain ⟨t2, ht2⟩ : ∃ t, t = t1 ++ ntT e.nt := ⟨_, rfl⟩
    obtain ⟨t3, ht3⟩ : ∃ t, t = t2 ++ e.al ++ [58] := ⟨_, rfl⟩
    obtain ⟨t4, ht4⟩ : ∃ t, t = t3 ++ Lib.join e.ty [124] := ⟨_, rfl⟩
    obtain ⟨t5, ht5⟩ : ∃ t, t = t4 ++ plusT e.plus := ⟨_, rfl⟩
    have hfin : t5 ++ condT e.cond = seqL ++ Lib.join ((p.els.map elT).take (n + 1)) [44, 32] := by
      rw [hnext, ht5, ht4, ht3, ht2, ht1, ht0, elT_eq]; simp only [List.append_assoc]
    have l0 : t0.length ≤ 2 ^ 20 + 4 := by rw [ht0]; simp only [List.length_append, seqL, List.length_cons, List.length_nil]; omega
    have l1 : t1.length ≤ 2 ^ 20 + 6 := by
      rw [ht1, List.length_append]
      have : (sepT [44, 32] n).length ≤ 2 := by unfold sepT; split <;> simp
      omega
    have l2 : t2.length ≤ 2 ^ 20 + 7 := by
      rw [ht2, List.length_append]
      have : (ntT e.nt).length ≤ 1 := by cases e.nt <;> decide
      omega
    have l3 : t3.length ≤ 2 ^ 20 + 16 := by rw [ht3]; simp only [List.length_append, List.length_cons, List.length_nil]; omega
    have l4 : t4.length ≤ 2 ^ 20 + 50 := by rw [ht4, List.length_append]; omega
    have l5 : t5.length ≤ 2 ^ 20 + 51 := by
      rw [ht5, List.length_append]
      have : (plusT e.plus).length ≤ 1 := by cases e.plus <;> decide
      omega
    have q1 : 0 < n → V.c (.string (S t0 ++ S [44, 32])) = str t1 := fun h => by rw [S_append, ht1, sepT, if_pos h]; rfl
    have q1' : ¬ 0 < n → str t0 = str t1 := fun h => by rw [ht1, sepT, if_neg h, List.append_nil]
    have q2 : e.nt = true → V.c (.string (S t1 ++ S [33])) = str t2 := fun h => by rw [S_append, ht2, h]; rfl
    have q2' : e.nt = false → str t1 = str t2 := fun h => by rw [ht2, h]; exact congrArg str (List.append_nil _).symm
    have q3 : V.c (.string (S t2 ++ S e.al ++ S [58])) = str t3 := (cat3 _ _ _).trans (congrArg str ht3.symm)
    have q3' : V.c (.string (S t2 ++ S e.al ++ S [58])) = str (t3 ++ Lib.join (e.ty.take 0) [124]) := q3.trans (congrArg str (List.append_nil t3).symm)
    have q5 : e.plus = true → V.c (.string (S t4 ++ S [43])) = str t5 := fun h => by rw [S_append, ht5, h]; rfl
    have q5' : e.plus = false → str t4 = str t5 := fun h => by rw [ht5, h]; exact congrArg str (List.append_nil _).symm
    have q6 : e.cond.op ≠ 0 → V.c (.string (S t5 ++ S [91] ++ S (toldN showV 5 e.cond) ++ S [93])) = str (seqL ++ Lib.join ((p.els.map elT).take (n + 1)) [44, 32]) := fun h => by
      rw [← hfin, cat4, condT, if_neg h]; simp only [List.append_assoc]
    have q6' : e.cond.op = 0 → str t5 = str (seqL ++ Lib.join ((p.els.map elT).take (n + 1)) [44, 32]) := fun h => by rw [← hfin, condT, if_pos h, List.append_nil]
    have q8 : e.cond.op ≠ 0 → shapedN 5 e.cond = true := fun h => by
      rcases g.cond with hc | ⟨_, hs⟩
      · exact (h (by rw [hc]; rfl)).elim
      · exact hs
    have m1 := need2 (a := t0) (b := [44, 32]) (by simp only [List.length_cons, List.length_nil]; omega)
    have m2 := need2 (a := t1) (b := [33]) (by simp only [List.length_cons, List.length_nil]; omega)
    have m3 := need2 (a := t2) (b := e.al) (by omega)
    have m4 := need3 (a := t2) (b := e.al) (c := [58]) (by simp only [List.length_cons, List.length_nil]; omega)
    have m5 := need2 (a := t4) (b := [43]) (by simp only [List.length_cons, List.length_nil]; omega)
    have m6 := need2 (a := t5) (b := [91]) (by simp only [List.length_cons, List.length_nil]; omega)
    have gt1 : decide ((n : Int) > 0) = true → 0 < n := fun h => by have := of_decide_eq_true h; omega
    have gt0 : decide ((n : Int) > 0) = false → ¬ 0 < n := fun h => by have := of_decide_eq_false h; omega
    rw [← ht0]
    (conv => arg 2; whnf); refine wp_elem n (.agg (elC e)) rfl (els_at hen) (Vle.refl _) ?_
    (conv => arg 2; whnf); refine wp_allocE elZ rfl fun b => ?_
    (conv => arg 2; whnf); refine wp_storeE (cs := elZ) 0 0 (elC e) rfl rfl (VleL.refl _) (Nat.le_refl _) rfl (R' := [.obj b (elC e)]) rfl ?_
    apply wp_joinT
    case h1 =>
      intro rest
      (conv => arg 2; whnf); refine wp_ite (fun hq => ?_) (fun hq => ?_)
      · (conv => arg 2; whnf); refine wp_need m1 ?_
        (conv => arg 2; whnf)
        exact wp_cutR (frL [(1, .pt (some 4) (.agg (paC p)) 0), (3, str t1), (4, i64V n), (5, .loc b 0)]) [.obj b (elC e)] (.cons (.refl _) (.cons (Vle.eq (q1 (gt1 hq))) (.cons (.refl _) (.cons (.refl _) (.nil _))))) (List.Sublist.refl _) rest
      · (conv => arg 2; whnf)
        exact wp_cutR (frL [(1, .pt (some 4) (.agg (paC p)) 0), (3, str t1), (4, i64V n), (5, .loc b 0)]) [.obj b (elC e)] (.cons (.refl _) (.cons (Vle.eq (q1' (gt0 hq))) (.cons (.refl _) (.cons (.refl _) (.nil _))))) (List.Sublist.refl _) rest
    case rest =>
    (conv => arg 2; whnf); refine wp_load (cs := elC e) 0 rfl rfl ?_
    apply wp_joinT
    case h1 =>
      intro rest
      (conv => arg 2; whnf); refine wp_ite (fun hq => ?_) (fun hq => ?_)
      · (conv => arg 2; whnf); refine wp_need m2 ?_
        (conv => arg 2; whnf)
        exact wp_cutR (frL [(1, .pt (some 4) (.agg (paC p)) 0), (3, str t2), (4, i64V n), (5, .loc b 0)]) [.obj b (elC e)] (.cons (.refl _) (.cons (Vle.eq (q2 hq)) (.cons (.refl _) (.cons (.refl _) (.nil _))))) (List.Sublist.refl _) rest
      · (conv => arg 2; whnf)
        exact wp_cutR (frL [(1, .pt (some 4) (.agg (paC p)) 0), (3, str t2), (4, i64V n), (5, .loc b 0)]) [.obj b (elC e)] (.cons (.refl _) (.cons (Vle.eq (q2' hq)) (.cons (.refl _) (.cons (.refl _) (.nil _))))) (List.Sublist.refl _) rest
    case rest =>
    (conv => arg 2; whnf); refine wp_load (cs := elC e) 0 rfl rfl ?_
    (conv => arg 2; whnf); refine wp_need m3 ?_
    (conv => arg 2; whnf); refine wp_need m4 ?_
    (conv => arg 2; whnf); refine wp_loop (fun m fr R => ∃ k : Nat, m = e.ty.length - k ∧ k ≤ e.ty.length ∧ R = [.obj b (elC e)] ∧ fr = frL [(1, .pt (some 4) (.agg (paC p)) 0), (3, str (t3 ++ Lib.join (e.ty.take k) [124])), (4, i64V n), (5, .loc b 0), (6, i64V k)])
      e.ty.length _ _ (.cons (.refl _) (.cons (Vle.via q3' rfl) (.cons (.refl _) (.cons (.refl _) (.cons (.refl _) (.nil _)))))) (List.Sublist.refl _) ⟨0, rfl, Nat.zero_le _, rfl, rfl⟩ ?_
    rintro m fr R ⟨k, rfl, hk, rfl, rfl⟩
    (conv => arg 2; whnf); refine wp_load (cs := elC e) 0 rfl rfl ?_
    (conv => arg 2; whnf); refine wp_ite (fun h3 => ?_) (fun h3 => ?_)
    · have h3 : k < e.ty.length := by have := of_decide_eq_true h3; rw [List.length_map] at this; omega
      obtain ⟨t, htk⟩ : ∃ t, e.ty[k]? = some t := ⟨_, List.getElem?_eq_getElem h3⟩
      have lt := (isNm_all (g.ty t (List.mem_of_getElem? htk))).2.2
      have lk := ltk k
      have hk1 := join_next (sep := [124]) htk
      obtain ⟨u0, hu0⟩ : ∃ u, u = t3 ++ Lib.join (e.ty.take k) [124] := ⟨_, rfl⟩
      obtain ⟨u1, hu1⟩ : ∃ u, u = u0 ++ sepT [124] k := ⟨_, rfl⟩
      have lu0 : u0.length ≤ 2 ^ 20 + 50 := by rw [hu0, List.length_append]; omega
      have lu1 : u1.length ≤ 2 ^ 20 + 51 := by
        rw [hu1, List.length_append]
        have : (sepT [124] k).length ≤ 1 := by unfold sepT; split <;> simp
        omega
      have r1 : 0 < k → V.c (.string (S u0 ++ S [124])) = str u1 := fun h => by rw [S_append, hu1, sepT, if_pos h]; rfl
      have r1' : ¬ 0 < k → str u0 = str u1 := fun h => by rw [hu1, sepT, if_neg h, List.append_nil]
      have r2 : V.c (.string (S u1 ++ S t)) = str (t3 ++ Lib.join (e.ty.take (k + 1)) [124]) := by rw [S_append, hk1, hu1, hu0]; simp only [List.append_assoc]; rfl
      have m7 := need2 (a := u0) (b := [124]) (by simp only [List.length_cons, List.length_nil]; omega)
      have m8 := need2 (a := u1) (b := t) (by omega)
      have kt1 : decide ((k : Int) > 0) = true → 0 < k := fun h => by have := of_decide_eq_true h; omega
      have kt0 : decide ((k : Int) > 0) = false → ¬ 0 < k := fun h => by have := of_decide_eq_false h; omega
      rw [← hu0]
      apply wp_joinT
      case h1 =>
        intro rest
        (conv => arg 2; whnf); refine wp_ite (fun hq => ?_) (fun hq => ?_)
        · (conv => arg 2; whnf); refine wp_need m7 ?_
          (conv => arg 2; whnf)
          exact wp_cutR (frL [(1, .pt (some 4) (.agg (paC p)) 0), (3, str u1), (4, i64V n), (5, .loc b 0), (6, i64V k)]) [.obj b (elC e)] (.cons (.refl _) (.cons (Vle.eq (r1 (kt1 hq))) (.cons (.refl _) (.cons (.refl _) (.cons (.refl _) (.nil _)))))) (List.Sublist.refl _) rest
        · (conv => arg 2; whnf)
          exact wp_cutR (frL [(1, .pt (some 4) (.agg (paC p)) 0), (3, str u1), (4, i64V n), (5, .loc b 0), (6, i64V k)]) [.obj b (elC e)] (.cons (.refl _) (.cons (Vle.eq (r1' (kt0 hq))) (.cons (.refl _) (.cons (.refl _) (.cons (.refl _) (.nil _)))))) (List.Sublist.refl _) rest
      case rest =>
      (conv => arg 2; whnf); refine wp_load (cs := elC e) 0 rfl rfl ?_
      (conv => arg 2; whnf); refine wp_elem k (str t) rfl (by rw [List.getElem?_map, htk]; rfl) (Vle.refl _) ?_
      (conv => arg 2; whnf); refine wp_need m8 ?_
      (conv => arg 2; whnf)
      refine wp_leaf (loop_next (e.ty.length - (k + 1)) _ _ (by omega) (.cons (.refl _) (.cons (Vle.via r2 rfl) (.cons (.refl _) (.cons (.refl _) (.cons (Vle.inc k rfl (by omega)) (.nil _)))))) (List.Sublist.refl _) ⟨k + 1, rfl, h3, rfl, rfl⟩)
    · have h3 : k = e.ty.length := by have := of_decide_eq_false h3; rw [List.length_map] at this; omega
      subst h3
      rw [List.take_length, ← ht4]
      (conv => arg 2; whnf)
      refine wp_leaf (loop_exit ?_)
      (conv => arg 2; whnf); refine wp_load (cs := elC e) 0 rfl rfl ?_
      apply wp_joinT
      case h1 =>
        intro rest
        (conv => arg 2; whnf); refine wp_ite (fun hq => ?_) (fun hq => ?_)
        · (conv => arg 2; whnf); refine wp_need m5 ?_
          (conv => arg 2; whnf)
          exact wp_cutR (frL [(1, .pt (some 4) (.agg (paC p)) 0), (3, str t5), (4, i64V n), (5, .loc b 0)]) [.obj b (elC e)] (.cons (.refl _) (.cons (Vle.eq (q5 hq)) (.cons (.refl _) (.cons (.refl _) (.nil _))))) (List.Sublist.refl _) rest
        · (conv => arg 2; whnf)
          exact wp_cutR (frL [(1, .pt (some 4) (.agg (paC p)) 0), (3, str t5), (4, i64V n), (5, .loc b 0)]) [.obj b (elC e)] (.cons (.refl _) (.cons (Vle.eq (q5' hq)) (.cons (.refl _) (.cons (.refl _) (.nil _))))) (List.Sublist.refl _) rest
      case rest =>
      (conv => arg 2; whnf); refine wp_load (cs := elC e) 0 rfl rfl ?_
      (conv => arg 2; whnf); refine wp_ite (fun hq => ?_) (fun hq => ?_)
      · have hq : e.cond.op ≠ 0 := by simpa using hq
        have ft := reftold5_call e.cond ebd.2.2.2 (q8 hq)
        have lt := told_sm5 ebd.2.2.2.2.2.1 (q8 hq)
        (conv => arg 2; whnf); refine wp_need m6 ?_
        (conv => arg 2; whnf); refine wp_load (cs := elC e) 0 rfl rfl ?_
        (conv => arg 2; whnf); refine wp_pcall ft ?_
        (conv => arg 2; whnf); refine wp_need (need3 (a := t5) (b := [91]) (c := toldN showV 5 e.cond) (by simp only [List.length_cons, List.length_nil]; omega)) ?_
        (conv => arg 2; whnf); refine wp_need (need4 (a := t5) (b := [91]) (c := toldN showV 5 e.cond) (d := [93]) (by simp only [List.length_cons, List.length_nil]; omega)) ?_
        (conv => arg 2; whnf)
        refine wp_leaf (loop_next (p.els.length - (n + 1)) _ _ (by omega) (.cons (.refl _) (.cons (Vle.via (q6 hq) rfl) (.cons (Vle.inc n rfl (by omega)) (.nil _)))) (List.nil_sublist _) ⟨n + 1, rfl, h2, rfl, rfl⟩)
      · have hq : e.cond.op = 0 := by simpa using hq
        (conv => arg 2; whnf)
        refine wp_leaf (loop_next (p.els.length - (n + 1)) _ _ (by omega) (.cons (.refl _) (.cons (Vle.via (q6' hq) rfl) (.cons (Vle.inc n rfl (by omega)) (.nil _)))) (List.nil_sublist _) ⟨n + 1, rfl, h2, rfl, rfl⟩)
  · have h2 : n = p.els.length := by have := of_decide_eq_false h2; rw [List.length_map] at this; omega
    subst h2
    have etake : (p.els.map elT).take p.els.length = p.els.map elT := by rw [List.take_of_length_le (by rw [List.length_map]; omega)]
    rw [etake] at ljn ⊢
    have fi := dec_call p.within hw1 hw2
    have ld := decD_len21 p.within hw1 hw2
    have lby : p.by_.length ≤ 8 := by
      rcases hby with hby | hby
      · rw [hby]; simp
      · exact (isNm_all hby).2.2
    obtain ⟨a0, ha0⟩ : ∃ b, b = seqL ++ Lib.join (p.els.map elT) [44, 32] := ⟨_, rfl⟩
    obtain ⟨b0, hb0⟩ : ∃ b, b = a0 ++ withinL ++ decD p.within := ⟨_, rfl⟩
    obtain ⟨b1, hb1⟩ : ∃ b, b = b0 ++ byT p.by_ := ⟨_, rfl⟩
    have he : paT p = b1 ++ anyT p.any := by rw [hb1, hb0, ha0]; rfl
    have la0 : a0.length ≤ 2 ^ 20 + 4 := by rw [ha0]; simp only [List.length_append, seqL, List.length_cons, List.length_nil]; omega
    have lb0 : b0.length ≤ 2 ^ 21 := by rw [hb0]; simp only [List.length_append, withinL, List.length_cons, List.length_nil]; omega
    have lb1 : b1.length ≤ 2 ^ 22 := by
      have : (byT p.by_).length ≤ 12 := by
        unfold byT
        split
        · simp
        · simp only [List.length_append, byL, List.length_cons, List.length_nil]; omega
      rw [hb1, List.length_append]; omega
    have q1 : V.c (.string (S a0 ++ S withinL ++ S (decD p.within))) = str b0 := (cat3 _ _ _).trans (congrArg str hb0.symm)
    have q2 : p.by_ ≠ [] → V.c (.string (S b0 ++ S byL ++ S p.by_)) = str b1 := fun h => by rw [cat3, hb1, byT, if_neg h, List.append_assoc]
    have q3 : p.by_ = [] → str b0 = str b1 := fun h => by rw [hb1, byT, if_pos h, List.append_nil]
    have q4 : p.any = true → V.c (.string (S b1 ++ S anyL)) = str (paT' p) := fun h => by rw [S_append, paT_yes h1, he, h]; rfl
    have q5 : p.any = false → str b1 = str (paT' p) := fun h => by rw [paT_yes h1, he, h]; exact congrArg str (List.append_nil _).symm
    have m1 := need2 (a := a0) (b := withinL) (by simp only [withinL, List.length_cons, List.length_nil]; omega)
    have m2 := need3 (a := a0) (b := withinL) (c := decD p.within) (by simp only [withinL, List.length_cons, List.length_nil]; omega)
    have m4 := need2 (a := b0) (b := byL) (by simp only [byL, List.length_cons, List.length_nil]; omega)
    have m5 := need3 (a := b0) (b := byL) (c := p.by_) (by simp only [byL, List.length_cons, List.length_nil]; omega)
    have m6 := need2 (a := b1) (b := anyL) (by simp only [anyL, List.length_cons, List.length_nil]; omega)
    have byne : (!((S p.by_).toList == (⟨#[]⟩ : ByteArray).toList)) = true → p.by_ ≠ [] := fun hq e => by
      have := (nilS_ne (l := p.by_)).symm.trans hq
      rw [e] at this; cases this
    have byeq : (!((S p.by_).toList == (⟨#[]⟩ : ByteArray).toList)) = false → p.by_ = [] := fun hq => Classical.byContradiction fun e => by
      have := (nilS_ne (l := p.by_)).symm.trans hq
      rw [decide_eq_false e] at this; cases this
    rw [← ha0]
    (conv => arg 2; whnf)
    refine wp_leaf (loop_exit ?_)
    (conv => arg 2; whnf); refine wp_need m1 ?_
    (conv => arg 2; whnf); refine wp_pcall fi ?_
    (conv => arg 2; whnf); refine wp_need m2 ?_
    (conv => arg 2; whnf); refine wp_cutR (frL [(1, .pt (some 4) (.agg (paC p)) 0), (3, str b0)]) [] (.cons (.refl _) (.cons (Vle.eq q1) (.nil _))) (List.Sublist.refl _) ?_
    apply wp_joinT
    case h1 =>
      intro rest
      (conv => arg 2; whnf); refine wp_ite (fun hq => ?_) (fun hq => ?_)
      · (conv => arg 2; whnf); refine wp_need m4 ?_
        (conv => arg 2; whnf); refine wp_need m5 ?_
        (conv => arg 2; whnf)
        exact wp_cutR (frL [(1, .pt (some 4) (.agg (paC p)) 0), (3, str b1)]) [] (.cons (.refl _) (.cons (Vle.eq (q2 (byne hq))) (.nil _))) (List.Sublist.refl _) rest
      · (conv => arg 2; whnf)
        exact wp_cutR (frL [(1, .pt (some 4) (.agg (paC p)) 0), (3, str b1)]) [] (.cons (.refl _) (.cons (Vle.eq (q3 (byeq hq))) (.nil _))) (List.Sublist.refl _) rest
    case rest =>
      (conv => arg 2; whnf); refine wp_ite (fun ha => ?_) (fun ha => ?_)
      · (conv => arg 2; whnf); refine wp_need m6 ?_
        (conv => arg 2; whnf); refine w_retp rfl (Vle.eq (q4 ha))
      · (conv => arg 2; whnf); refine w_retp rfl (Vle.eq (q5 ha))
end Go.Sv
/- pasternlaw9: what is parsed, shown, is parsed as the same. -/
namespace Go.Sv
open Go Go.Proofs

theorem parsed {s : List UInt8} {p : Pa} (h : parsePaE s = .ok p) : isPaB p = true ∧ PaBd p ∧ ∀ e ∈ p.els, exRg e.cond := by
  rw [parsePaE] at h
  cases hc : cutW s with
  | error k => rw [hc] at h; cases h
  | ok l =>
    rw [hc] at h
    simp only at h
    obtain ⟨hl, hlen⟩ := cutW_ok hc
    cases hp : patE s l 0 with
    | error k => rw [hp] at h; cases h
    | ok r =>
      obtain ⟨q, l', n'⟩ := r
      rw [hp, endE] at h
      by_cases h0 : l' = []
      · rw [if_pos h0] at h
        simp only at h
        by_cases hi : isPaB q = true
        · rw [if_pos hi] at h
          cases h
          obtain ⟨a1, a2, _⟩ := patE_ok hl hlen hp
          exact ⟨hi, a1, fun e he => (a2 e he).rg⟩
        · rw [if_neg hi] at h; cases h
      · rw [if_neg h0] at h; cases h
theorem paT_len {p : Pa} (h : isPaB p = true) (hb : PaBd p) : (paT p).length < 2 ^ 40 := by
  obtain ⟨hg, _, n5, w0, w1, hby⟩ := pa_good h
  have lj : (Lib.join (p.els.map elT) [44, 32]).length ≤ 2 ^ 20 := by
    have k1 := join_len [44, 32] (p.els.map elT) (B := 2 ^ 17) fun x hx => by
      obtain ⟨e, hem, rfl⟩ := List.mem_map.1 hx
      exact elT_len (hg e hem) (hb.2.1 e hem).2.2.2
    rw [List.length_map] at k1
    have k2 : p.els.length * (2 + 2 ^ 17) ≤ 5 * (2 + 2 ^ 17) := Nat.mul_le_mul_right _ n5
    exact Nat.le_trans k1 (Nat.le_trans k2 (by decide))
  have ld := decD_len21 p.within hb.2.2.2.1 hb.2.2.2.2
  have lby : p.by_.length ≤ 8 := by
    rcases hby with hby | hby
    · rw [hby]; simp
    · exact (isNm_all hby).2.2
  have l1 : (if p.by_ = [] then [] else byL ++ p.by_).length ≤ 12 := by
    split
    · simp
    · simp only [List.length_append, byL, List.length_cons, List.length_nil]; omega
  have l2 : (if p.any then anyL else []).length ≤ 4 := by
    split <;> simp [anyL]
  unfold paT
  simp only [List.length_append, seqL, withinL, List.length_cons, List.length_nil]
  omega

set_option maxRecDepth 100000 in
theorem parseonly_call (s : List UInt8) : PCall Tryz.prog 3 [str s] (bV true) := by
  refine scall_of (live := []) (ords := []) Tryz.func3 rfl (by kernel_rfl) (by kernel_rfl) (Nat.le_of_ble_eq_true rfl) ?_
  (conv => arg 2; whnf); refine wp_pcall known9_call ?_
  (repeat ((conv => arg 2; whnf); first | refine wp_ite (fun _ => ?_) (fun h => Bool.noConfusion h) | refine wp_ite (fun h => Bool.noConfusion h) (fun _ => ?_)))
  (conv => arg 2; whnf); refine wp_ite (fun h6 => ?_) (fun h6 => ?_)
  · (conv => arg 2; whnf); refine w_ret1 rfl (Vle.refl _) (List.nil_sublist _) rfl
  have h6 : s.length ≤ 600 := by have := of_decide_eq_false h6; rw [S_size] at this; omega
  have f1 := parsepattern_call s (by omega)
  cases hp : parsePaE s with
  | error k =>
    rw [hp] at f1
    have g0 : ∀ e ∈ pa0.els, ElGood e := fun e he => by cases he
    have b0 : PaBd pa0 := paBd_of (by decide) (fun e he => by cases he) (by unfold I64; decide)
    have f2 := samepattern_call pa0 pa0 b0 g0
    rw [show samePaB pa0 pa0 = true from (samePa_iff g0).2 rfl] at f2
    (conv => arg 2; whnf); refine wp_pcall f1 ?_
    (conv => arg 2; whnf); refine wp_allocE pZ rfl fun a => ?_
    (conv => arg 2; whnf); refine wp_storeE (cs := pZ) 0 0 (paC pa0) rfl rfl (VleL.refl _) (Nat.le_refl _) rfl (R' := [.obj a (paC pa0)]) rfl ?_
    (repeat ((conv => arg 2; whnf); first | refine wp_ite (fun _ => ?_) (fun h => Bool.noConfusion h) | refine wp_ite (fun h => Bool.noConfusion h) (fun _ => ?_)))
    (conv => arg 2; whnf); refine wp_load (cs := paC pa0) 0 rfl rfl ?_
    (conv => arg 2; whnf); refine wp_pcallV (.cons (Vle.refl _) (.cons (Vle.agg pZ_vle) .nil)) f2 ?_
    (conv => arg 2; whnf); refine w_ret1 rfl (Vle.refl _) (List.nil_sublist _) rfl
  | ok p =>
    rw [hp] at f1
    obtain ⟨hi, hb, hg⟩ := parsed hp
    have gd := (pa_good hi).1
    have f2 := refshowpattern_call p hb
    rw [paT_yes hi] at f2
    have f3 := parsepattern_call (paT p) (paT_len hi hb)
    rw [read_back hi hg] at f3
    have f4 := refpattern_call p hb
    rw [hi] at f4
    have f5 := samepattern_call p p hb gd
    rw [show samePaB p p = true from (samePa_iff gd).2 rfl] at f5
    (conv => arg 2; whnf); refine wp_pcall f1 ?_
    (conv => arg 2; whnf); refine wp_allocE pZ rfl fun a => ?_
    (conv => arg 2; whnf); refine wp_storeE (cs := pZ) 0 0 (paC p) rfl rfl (VleL.refl _) (Nat.le_refl _) rfl (R' := [.obj a (paC p)]) rfl ?_
    (repeat ((conv => arg 2; whnf); first | refine wp_ite (fun _ => ?_) (fun h => Bool.noConfusion h) | refine wp_ite (fun h => Bool.noConfusion h) (fun _ => ?_)))
    (conv => arg 2; whnf); refine wp_load (cs := paC p) 0 rfl rfl ?_
    (conv => arg 2; whnf); refine wp_pcall f2 ?_
    (conv => arg 2; whnf); refine wp_pcall f3 ?_
    (conv => arg 2; whnf); refine wp_allocE pZ rfl fun b => ?_
    (conv => arg 2; whnf); refine wp_storeE (cs := pZ) 1 0 (paC p) rfl rfl (VleL.refl _) (Nat.le_refl _) rfl (R' := [.obj a (paC p), .obj b (paC p)]) rfl ?_
    (conv => arg 2; whnf); refine wp_load (cs := paC p) 0 rfl rfl ?_
    (conv => arg 2; whnf); refine wp_pcall f4 ?_
    (repeat ((conv => arg 2; whnf); first | refine wp_ite (fun _ => ?_) (fun h => Bool.noConfusion h) | refine wp_ite (fun h => Bool.noConfusion h) (fun _ => ?_)))
    (conv => arg 2; whnf); refine wp_load (cs := paC p) 0 rfl rfl ?_
    (conv => arg 2; whnf); refine wp_load (cs := paC p) 1 rfl rfl ?_
    (conv => arg 2; whnf); refine wp_pcall f5 ?_
    (conv => arg 2; whnf); refine w_ret1 rfl (Vle.refl _) (List.nil_sublist _) rfl
end Go.Sv
