/- Parts of the proof, one behind the other. -/
import Derived.Test.YtjmkgippihpkoaaGreatDoorMgRowPTells13
import Derived.Test.YtjmkgippihpkoaaGreatDoorProg
import Derived.WalkKit
import Derived.LaidEql
import Derived.Stop.Asserts
import Derived.RowKitTokens
import Derived.Test.YtjmkgippihpkoaaGreatDoorMgRowPTells6
import Derived.Test.YtjmkgippihpkoaaGreatDoorMgRowPTells11
import Derived.Test.YtjmkgippihpkoaaGreatDoorMgRowPTells9
/- The reference's parser: of a pattern's text. -/
namespace Go.Sv
open Go Go.Proofs

/-- Where the reference's parser is. -/
def rfA (s : List UInt8) (L l : List Wd) (e : Option Nat) (n : Nat) : List V := rfL s L (L.length - l.length) e n
theorem RSt.eq {b : Nat} {s : List UInt8} {L l : List Wd} {e : Option Nat} {n : Nat} {R : List Res} (h : RSt b s L l e n R) : R = [.obj b (rfA s L l e n)] := by
  obtain ⟨a, ha, hd, rfl⟩ := h
  rw [rfA, ← at_of ha hd]
theorem RSt.suf {b : Nat} {s : List UInt8} {L l : List Wd} {e : Option Nat} {n : Nat} {R : List Res} (h : RSt b s L l e n R) : l <:+ L := by
  obtain ⟨a, ha, hd, rfl⟩ := h
  rw [← hd]; exact List.drop_suffix _ _
theorem suf_at {l L : List Wd} (h : l <:+ L) : L.drop (L.length - l.length) = l := (List.suffix_iff_eq_drop.1 h).symm
theorem sufnil {l L : List Wd} (h : l <:+ L) : ((((L.length - l.length : Nat) : Int)) == (((L.map wdV).length : Nat) : Int)) = decide (l = []) := by rw [List.length_map]; exact at_nil (Nat.sub_le _ _) (suf_at h)

def rplE (s : List UInt8) (w : Wd) : Option Nat → Option Nat
  | none => if plainW s w then none else some 10
  | some m => some m
def byMay (l : List Wd) (e : Option Nat) : List Wd := if isP l e 4 by2 then mayL l.tail e 1 [] else l
def byMust (l : List Wd) (e : Option Nat) : Option Nat := if isP l e 4 by2 then mustX l.tail e 1 [] else e
def byTxt (l : List Wd) (e : Option Nat) : List UInt8 := if isP l e 4 by2 then (takeW l.tail e 1).text else []
def finE (l : List Wd) (n : Int) : Option Nat → Option Nat
  | none => if l = [] ∧ 0 ≤ n ∧ n ≤ 1000 then none else some 10
  | some m => some m
def okE2 (p : Pa) : Option Nat → Option Nat
  | none => if isPaB p then none else some 10
  | some m => some m
theorem rplE_ne {s : List UInt8} {w : Wd} {e : Option Nat} (h : e ≠ some 0) : rplE s w e ≠ some 0 := by
  cases e with
  | none => rw [rplE]; split <;> simp
  | some m => exact h
theorem byMust_ne {l : List Wd} {e : Option Nat} (h : e ≠ some 0) : byMust l e ≠ some 0 := by
  rw [byMust]
  split
  · exact mustX_ne h
  · exact h
theorem finE_ne {l : List Wd} {n : Int} {e : Option Nat} (h : e ≠ some 0) : finE l n e ≠ some 0 := by
  cases e with
  | none => rw [finE]; split <;> simp
  | some m => exact h
theorem byMay_suf (l : List Wd) (e : Option Nat) : byMay l e <:+ l := by
  rw [byMay]
  split
  · exact (mayL_suf _ _ _ _).trans (tail_suf l)
  · exact List.suffix_refl l
theorem by_sim {l : List Wd} {e : Option Nat} {n : Nat} : e = none → Sim (byE l n) (byTxt l e) (byMay l e) (byMust l e) n := by
  intro he
  cases hk : isP l e 4 by2 with
  | true => rw [byTxt, byMay, byMust, hk]; exact by_yes hk he
  | false => rw [byTxt, byMay, byMust, hk]; exact by_no hk he
theorem byMust_pass {l : List Wd} {e : Option Nat} : ∀ m, e = some m → byMust l e = some m := fun m hm => by
  rw [byMust, hm, isP_some]; rfl
theorem byMust_10 {l : List Wd} {k : Nat} (h : byMust l none = some k) : k = 10 := by
  rw [byMust, mustX] at h
  split at h
  · split at h
    · cases h
    · cases h; rfl
  · cases h
theorem rpl_cases {s : List UInt8} {l : List Wd} {e : Option Nat} {n : Nat} (he : e = none) :
    (rplE s (takeW l e 2) (mustX l e 2 []) = none ∧ hdK 2 l = true ∧ plainW s (takeW l e 2) = true ∧ takeW l e 2 = l.headD wd0 ∧ mayL l e 2 [] = l.tail) ∨
    (rplE s (takeW l e 2) (mustX l e 2 []) = some 10 ∧ withinE s l n = .error 10) := by
  subst he
  cases hk : isP l none 2 [] with
  | true =>
    have hk2 := hk
    rw [isP_hdK] at hk2
    have ht : takeW l none 2 = l.headD wd0 := by rw [takeW, hk]; rfl
    cases hp : plainW s (l.headD wd0) with
    | true =>
      refine .inl ⟨?_, hk2, ?_, ht, ?_⟩
      · rw [ht, mustX, hk, if_pos rfl, rplE, hp]; rfl
      · rw [ht]; exact hp
      · rw [mayL, hk, if_pos rfl]
    | false =>
      refine .inr ⟨?_, ?_⟩
      · rw [ht, mustX, hk, if_pos rfl, rplE, hp]; rfl
      · rw [withinE, hk2, hp]; rfl
  | false =>
    have hk2 := hk
    rw [isP_hdK] at hk2
    refine .inr ⟨?_, ?_⟩
    · rw [mustX, hk]; rfl
    · rw [withinE, hk2]; rfl

theorem refpat {s : List UInt8} {l l1 l2 l3 l4 l5 l6 l8 l9 l10 : List Wd} {e1 e2 e3 e4 e5 e6 e8 e9 : Option Nat} {n3 n4 : Nat} {x0 : El} {els : List El} {wn : Int} {bt : List UInt8} {a10 : Bool} (hcut : cutW s = .ok l)
    (hl1 : l1 = mayL l none 4 seq3) (he1 : e1 = mustX l none 4 seq3) (hl2 : l2 = mayL l1 e1 5 [40]) (he2 : e2 = mustX l1 e1 5 [40]) (hE : Sim (startE e2 (elemE s l2 0)) x0 l3 e3 n3)
    (hEs : Sim (startE e3 (elemsE s l3.length [x0] l3 n3)) els l4 e4 n4) (hl5 : l5 = mayL l4 e4 5 [41]) (he5 : e5 = mustX l4 e4 5 [41]) (hl6 : l6 = mayL l5 e5 4 within6) (he6 : e6 = mustX l5 e5 4 within6)
    (hw : wn = (takeW l6 e6 2).n) (hl8 : l8 = mayL l6 e6 2 []) (he8 : e8 = rplE s (takeW l6 e6 2) (mustX l6 e6 2 [])) (hl9 : l9 = byMay l8 e8) (he9 : e9 = byMust l8 e8) (hbt : bt = byTxt l8 e8)
    (ha : a10 = isP l9 e9 4 any3) (hl10 : l10 = mayL l9 e9 4 any3) :
    parsePaE s = (match okE2 ⟨els, wn, bt, a10⟩ (finE l10 wn e9) with | none => .ok ⟨els, wn, bt, a10⟩ | some k => .error k) ∧ (finE l10 wn e9 = none → PaBd ⟨els, wn, bt, a10⟩) := by
  have hok := cutW_ok hcut
  have x9 : ∀ m, e8 = some m → e9 = some m := fun m hm => by rw [he9]; exact byMust_pass m hm
  have x8 : ∀ m, e6 = some m → e8 = some m := fun m hm => by rw [he8, hm, mustX_some]; rfl
  have hB : e8 = none → Sim (byE l8 n4) bt l9 e9 n4 := by rw [hbt, hl9, he9]; exact by_sim
  by_cases hin : e8 = none ∧ ¬ (0 ≤ wn ∧ wn ≤ 1000)
  · -- a number that may not be
    obtain ⟨h8, hno⟩ := hin
    have h6 : e6 = none := by
      cases h : e6 with
      | none => rfl
      | some m => have := x8 m h; rw [h8] at this; cases this
    have hwi : withinE s l6 n4 = .error 10 := by
      rcases rpl_cases (s := s) (l := l6) (n := n4) h6 with ⟨_, hk, hp, ht, _⟩ | ⟨h, _⟩
      · rw [withinE, if_neg]
        rw [ht] at hw
        rw [Bool.and_eq_true, Bool.and_eq_true, Bool.and_eq_true, decide_eq_true_eq, decide_eq_true_eq, ← hw]
        exact fun h => hno h.2.2
      · rw [← he8, h8] at h; cases h
    have hS := pat_bad (l8 := l8) (p := pa0) (n' := 0) hl1 he1 hl2 he2 hE hEs hl5 he5 hl6 he6 h6 h8 hwi
    rw [h8] at hS
    have hr : patE s l 0 = .error 10 := hS.2 10 rfl
    have hf : finE l10 wn e9 = some 10 := by
      cases h9 : e9 with
      | none => rw [finE, if_neg (fun h => hno h.2)]
      | some k =>
        rw [he9, h8] at h9
        rw [byMust_10 h9]; rfl
    rw [hf]
    refine ⟨?_, fun h => by cases h⟩
    rw [parsePaE, hcut]
    simp only
    rw [hr]
    rfl
  · have hin : e8 = none → 0 ≤ wn ∧ wn ≤ 1000 := fun h => Classical.byContradiction fun h2 => hin ⟨h, h2⟩
    have hW : e6 = none → Sim (withinE s l6 n4) wn l8 e8 n4 := by
      intro h6
      rcases rpl_cases (s := s) (l := l6) (n := n4) h6 with ⟨h, hk, hp, ht, hm⟩ | ⟨h, hwi⟩
      · rw [← he8] at h
        obtain ⟨i1, i2⟩ := hin h
        rw [ht] at hw hp
        rw [h, hl8, hm, withinE, hk, hp, ← hw, decide_eq_true i1, decide_eq_true i2]
        exact Sim.ok
      · rw [← he8] at h
        rw [h, hwi]
        exact Sim.err
    have hS := pat_sim hl1 he1 hl2 he2 hE hEs hl5 he5 hl6 he6 x8 hW x9 hB ha hl10
    have h8n : e9 = none → e8 = none := fun h => by
      cases h8 : e8 with
      | none => rfl
      | some m => have := x9 m h8; rw [h] at this; cases this
    rw [parsePaE, hcut]
    simp only
    cases h9 : e9 with
    | some m =>
      rw [hS.2 m h9]
      exact ⟨rfl, fun h => by cases h⟩
    | none =>
      have hr := hS.1 h9
      rw [hr, endE, finE]
      by_cases h10 : l10 = []
      · rw [if_pos h10, if_pos ⟨h10, hin (h8n h9)⟩]
        refine ⟨?_, fun _ => (patE_ok hok.1 hok.2 hr).1⟩
        simp only [okE2]
        cases isPaB ⟨els, wn, bt, a10⟩ <;> rfl
      · rw [if_neg h10, if_neg (fun h => h10 h.1)]
        exact ⟨rfl, fun h => by cases h⟩
end Go.Sv
/- The reference's parser: of a pattern's text, the walk. -/
namespace Go.Sv
open Go Go.Proofs

set_option maxRecDepth 100000 in
theorem refparsepattern_call (s : List UInt8) (hs : s.length < 2 ^ 40) : PCall Tryz.prog 15 [str s] (rpaV (parsePaE s)) := by
  have f1 := rcut_call s hs
  refine scall_of (live := [22, 29, 34, 36, 3500006, 10003600006, 120, 12100002]) (ords := [(7, []), (9, [2, 0, 1, 3, 4, 5, 6, 7]), (10, []), (13, []), (15, []), (16, []), (18, []), (19, []), (21, []), (22, [])]) Tryz.func15 rfl (by kernel_rfl) (by kernel_rfl) (Nat.le_of_ble_eq_true rfl) ?_
  cases hc : cutW s with
  | error k =>
    rw [hc] at f1
    have hk : (!((k : Int) == 0)) = true := by have := cutW_err0 hc; simpa using this
    have hr : parsePaE s = .error k := by rw [parsePaE, hc]
    (conv => arg 2; whnf); refine wp_allocE pZ rfl fun c => ?_
    (conv => arg 2; whnf); refine wp_pcall f1 ?_
    (conv => arg 2; whnf); refine wp_ite (fun _ => ?_) (fun h => Bool.noConfusion (hk.symm.trans h))
    (conv => arg 2; whnf); refine wp_storeE (cs := pZ) 0 0 (paC pa0) rfl rfl pZ_vle (Nat.le_refl _) rfl (R' := [.obj c (paC pa0)]) rfl ?_
    (conv => arg 2; whnf); refine w_ret2ck (R' := []) (a := .agg (paC pa0)) (u := i64V k) c 0 0 rfl rfl rfl rfl rfl (Vle.refl _) (Vle.refl _) (List.nil_sublist _) (by rw [hr]; rfl)
  | ok l =>
  rw [hc] at f1
  obtain ⟨hl, hlen⟩ := cutW_ok hc
  have hl : AllOk s.length l := hl
  have hL : l.length < 2 ^ 40 := by omega
  obtain ⟨l1, hl1⟩ : ∃ x, x = mayL l none 4 seq3 := ⟨_, rfl⟩
  obtain ⟨e1, he1⟩ : ∃ x, x = mustX l none 4 seq3 := ⟨_, rfl⟩
  have n1 : e1 ≠ some 0 := by rw [he1]; exact mustX_ne (by decide)
  have c1 := fun b => want_call b s l l 0 none 0 4 seq3 (by decide) (by decide) (by decide) (Nat.zero_le _) rfl hL
  rw [← hl1, ← he1] at c1
  obtain ⟨l2, hl2⟩ : ∃ x, x = mayL l1 e1 5 [40] := ⟨_, rfl⟩
  obtain ⟨e2, he2⟩ : ∃ x, x = mustX l1 e1 5 [40] := ⟨_, rfl⟩
  have n2 : e2 ≠ some 0 := by rw [he2]; exact mustX_ne n1
  have s2 : l2 <:+ l := by
    rw [hl2, hl1]
    exact (mayL_suf _ _ _ _).trans (mayL_suf _ _ _ _)
  have inv0 : ∀ x0 l3 e3 n3, Sim (startE e2 (elemE s l2 0)) x0 l3 e3 n3 → ElInv s (startE e3 (elemsE s l3.length [x0] l3 n3)) l3.length [x0] l3 e3 n3 l2 := by
    intro x0 l3 e3 n3 h
    refine ⟨fun he => ?_, fun k hk => by rw [hk]; rfl⟩
    subst he
    have h0 : e2 = none := by
      cases e2 with
      | none => rfl
      | some m => have := h.pass m rfl; cases this
    subst h0
    obtain ⟨_, a2, _⟩ := elemE_ok (hl.suf s2) (h.1 rfl)
    have a3 := suf_len a2
    have a4 := suf_len s2
    refine ⟨rfl, Nat.le_refl _, a2, ?_⟩
    rw [List.length_singleton]; omega
  (conv => arg 2; whnf); refine wp_allocE pZ rfl fun c => ?_
  (conv => arg 2; whnf); refine wp_pcall f1 ?_
  (repeat ((conv => arg 2; whnf); first | refine wp_ite (fun _ => ?_) (fun h => Bool.noConfusion h) | refine wp_ite (fun h => Bool.noConfusion h) (fun _ => ?_)))
  (conv => arg 2; whnf); refine wp_allocD (rfL s l 0 none 0) rfl fun b hfb => ?_
  have hbc : b ≠ c := fun e => hfb 0 c _ rfl (List.cons_ne_nil _ _) e.symm
  clear hfb
  (conv => arg 2; whnf); refine wp_callF [.obj c pZ] [.obj b (rfL s l 0 none 0)] [] rfl (c1 b) ?_
  rintro v R1 ⟨rfl, a1, ha1, hd1, rfl⟩
  have c2 := want_call b s l l1 a1 e1 0 5 [40] (by decide) (by decide) n1 ha1 hd1 hL
  rw [← hl2, ← he2] at c2
  (conv => arg 2; whnf); refine wp_callF [.obj c pZ] [.obj b (rfL s l a1 e1 0)] [] rfl c2 ?_
  rintro v R1 ⟨rfl, a2, ha2, hd2, rfl⟩
  have c3 := relem_call b s hs l hL a2 l2 e2 0 n2 ha2 hd2 (hl.suf s2) (by have := suf_len s2; omega)
  refine wp_cutR (frL [(2, .loc c 0), (4, wslV l), (6, .loc b 0)]) [.obj c pZ, .obj b (rfL s l a2 e2 0)] (.cons (.refl _) (.cons (.refl _) (.cons (.refl _) (.nil _)))) (List.Sublist.refl _) ?_
  (conv => arg 2; whnf); refine wp_callF [.obj c pZ] [.obj b (rfL s l a2 e2 0)] [] rfl c3 ?_
  rintro v R1 ⟨x0, l3, e3, n3, rfl, ⟨a3, ha3, hd3, rfl⟩, hE, m3⟩
  (conv => arg 2; whnf)
  intro t0
  (conv => arg 2; whnf); refine wp_allocD pZ rfl fun d hfr => ?_
  have hne : d ≠ b := fun e => hfr 1 b _ rfl (List.cons_ne_nil _ _) e.symm
  clear hfr
  (conv => arg 2; whnf); refine wp_storeE (cs := pZ) 3 0 (psK t0 [x0] 0 [] false) rfl rfl (VleL.refl _) (Nat.le_refl _) rfl (R' := [.obj c pZ, .obj b (rfL s l a3 e3 n3), .tok t0 (some 11), .obj d (psK t0 [x0] 0 [] false)]) rfl ?_
  (conv => arg 2; whnf); refine wp_loop (fun m fr R => ∃ acc l5 e5 n5 t a5, a5 ≤ l.length ∧ l.drop a5 = l5 ∧ e5 ≠ some 0 ∧ ElInv s (startE e3 (elemsE s l3.length [x0] l3 n3)) m acc l5 e5 n5 l2 ∧ (R = [.obj c pZ, .obj b (rfL s l a5 e5 n5), .tok t (some 11), .obj d (psK t acc 0 [] false)]) ∧ fr = frL [(2, .loc c 0), (4, wslV l), (6, .loc b 0), (7, .loc d 0)])
    l3.length _ _ (.cons (.refl _) (.cons (.refl _) (.cons (.refl _) (.cons (.refl _) (.nil _))))) (List.Sublist.refl _) ⟨_, _, _, _, _, a3, ha3, hd3, m3, inv0 _ _ _ _ hE, rfl, rfl⟩ ?_
  rintro m fr R ⟨acc, l5, e5, n5, t, a5, ha5, hd5, m5, hI, rfl, rfl⟩
  (conv => arg 2; whnf); refine wp_callF [.obj c pZ] [.obj b (rfL s l a5 e5 n5)] [.tok t (some 11), .obj d (psK t acc 0 [] false)] rfl (ris_call b s l l5 a5 e5 n5 5 [44] (by decide) (by decide) m5 ha5 hd5 hL) ?_
  rintro v R1 ⟨rfl, a6, ha6, hd6, rfl⟩
  (conv => arg 2; whnf); refine wp_ite (fun hb => ?_) (fun hb => ?_)
  · have hb : isP l5 e5 5 [44] = true := hb
    rw [mayL, hb, if_pos rfl] at hd6
    obtain rfl := isP_none hb
    obtain ⟨hA, hln, hm, hlt, hstep⟩ := hI.step (hl.suf s2) hb
    have hlen2 : (acc.map elV).length + 1 ≤ 502 := by rw [List.length_map]; exact hlt
    have ce := relem_call b s hs l hL a6 l5.tail none n5 (by decide) ha6 hd6 hA hln
    (conv => arg 2; whnf)
    refine wp_cutR (frL [(2, .loc c 0), (4, wslV l), (6, .loc b 0), (7, .loc d 0)]) [.obj c pZ, .obj b (rfL s l a6 none n5), .tok t (some 11), .obj d (psK t acc 0 [] false)] (.cons (.refl _) (.cons (.refl _) (.cons (.refl _) (.cons (.refl _) (.nil _))))) (List.Sublist.refl _) ?_
    (conv => arg 2; whnf); refine wp_need (lates1 d 0 b 0 rfl rfl rfl hne) ?_
    (conv => arg 2; whnf); refine wp_load (cs := psK t acc 0 [] false) 3 rfl rfl ?_
    (conv => arg 2; whnf); refine wp_dcall [.obj c pZ] [.obj b (rfL s l a6 none n5)] [.tok t (some 11), .obj d (psK t acc 0 [] false)] rfl (okq1 6 (by decide) rfl) ce ?_
    rintro v R1 ⟨x, l7, e7, n7, rfl, ⟨a7, ha7, hd7, rfl⟩, hE2, m7⟩
    (conv => arg 2; whnf); refine wp_append_tok 2 rfl (one_el x) (Nat.le_trans (Nat.mul_le_mul_right _ hlen2) (Nat.le_of_ble_eq_true rfl)) fun t' => ?_
    (conv => arg 2; whnf); refine wp_storeE (cs := psK t acc 0 [] false) 3 0 [.sl (some 11) ((acc ++ [x]).map elV) (.t t')] rfl rfl (.cons (Vle.eq (el_app _ _ _)) .nil) (Nat.le_of_ble_eq_true rfl) rfl (R' := [.obj c pZ, .obj b (rfL s l a7 e7 n7), .tok t' (some 11), .obj d (psK t' (acc ++ [x]) 0 [] false)]) rfl ?_
    (conv => arg 2; whnf)
    exact wp_leaf (loop_next (m - 1) _ _ (by omega) (.cons (.refl _) (.cons (.refl _) (.cons (.refl _) (.cons (.refl _) (.nil _))))) (List.Sublist.refl _) ⟨_, _, _, _, _, a7, ha7, hd7, m7, hstep _ _ _ _ hE2, rfl, rfl⟩)
  have hb : isP l5 e5 5 [44] = false := hb
  rw [mayL, hb, if_neg (by decide)] at hd6
  have hEs := hI.fin hb
  clear hI
  (conv => arg 2; whnf)
  refine wp_leaf (loop_exit ?_)
  obtain ⟨l6, hl6⟩ : ∃ x, x = mayL l5 e5 5 [41] := ⟨_, rfl⟩
  obtain ⟨e6, he6⟩ : ∃ x, x = mustX l5 e5 5 [41] := ⟨_, rfl⟩
  have m6 : e6 ≠ some 0 := by rw [he6]; exact mustX_ne m5
  have c4 := want_call b s l l5 a6 e5 n5 5 [41] (by decide) (by decide) m5 ha6 hd6 hL
  rw [← hl6, ← he6] at c4
  obtain ⟨l7, hl7⟩ : ∃ x, x = mayL l6 e6 4 within6 := ⟨_, rfl⟩
  obtain ⟨e7, he7⟩ : ∃ x, x = mustX l6 e6 4 within6 := ⟨_, rfl⟩
  have m7 : e7 ≠ some 0 := by rw [he7]; exact mustX_ne m6
  obtain ⟨w, hw⟩ : ∃ x, x = takeW l7 e7 2 := ⟨_, rfl⟩
  obtain ⟨l8, hl8⟩ : ∃ x, x = mayL l7 e7 2 [] := ⟨_, rfl⟩
  obtain ⟨e8, he8⟩ : ∃ x, x = mustX l7 e7 2 [] := ⟨_, rfl⟩
  have m8 : e8 ≠ some 0 := by rw [he8]; exact mustX_ne m7
  have s8 : l8 <:+ l := by
    rw [hl8, hl7, hl6]
    refine (mayL_suf _ _ _ _).trans ((mayL_suf _ _ _ _).trans ((mayL_suf _ _ _ _).trans ?_))
    rw [← hd6]; exact List.drop_suffix _ _
  have s7 : l7 <:+ l := by
    rw [hl7, hl6]
    refine (mayL_suf _ _ _ _).trans ((mayL_suf _ _ _ _).trans ?_)
    rw [← hd6]; exact List.drop_suffix _ _
  have hwok : e8 = none → WdOk s.length w := by
    intro h
    have hk : isP l7 e7 2 [] = true := by
      cases hk : isP l7 e7 2 [] with
      | true => rfl
      | false =>
        rw [he8, mustX, hk, if_neg (by decide)] at h
        cases e7 with
        | none => cases h
        | some m => cases h
    rw [hw, takeW, hk, if_pos rfl]
    obtain ⟨u, r, hur⟩ := isP_cons hk
    rw [hur] at s7 ⊢
    exact hl u (s7.subset (by simp))
  obtain ⟨e9, he9⟩ : ∃ x, x = rplE s w e8 := ⟨_, rfl⟩
  have m9 : e9 ≠ some 0 := by rw [he9]; exact rplE_ne m8
  obtain ⟨l10, hl10⟩ : ∃ x, x = byMay l8 e9 := ⟨_, rfl⟩
  obtain ⟨e10, he10⟩ : ∃ x, x = byMust l8 e9 := ⟨_, rfl⟩
  obtain ⟨bt, hbt⟩ : ∃ x, x = byTxt l8 e9 := ⟨_, rfl⟩
  have m10 : e10 ≠ some 0 := by rw [he10]; exact byMust_ne m9
  have s10 : l10 <:+ l := by rw [hl10]; exact (byMay_suf _ _).trans s8
  obtain ⟨an, han⟩ : ∃ x, x = isP l10 e10 4 any3 := ⟨_, rfl⟩
  obtain ⟨l11, hl11⟩ : ∃ x, x = mayL l10 e10 4 any3 := ⟨_, rfl⟩
  have s11 : l11 <:+ l := by rw [hl11]; exact (mayL_suf _ _ _ _).trans s10
  have c8 := ris_call b s l l8 (l.length - l8.length) e9 n5 4 by2 (by decide) (by decide) m9 (Nat.sub_le _ _) (suf_at s8) hL
  have c9 := ris_call b s l l10 (l.length - l10.length) e10 n5 4 any3 (by decide) (by decide) m10 (Nat.sub_le _ _) (suf_at s10) hL
  rw [← han, ← hl11] at c9
  obtain ⟨hfin, hbd⟩ := refpat (wn := w.n) (l9 := l10) (e9 := e10) (bt := bt) (a10 := an) (l10 := l11) hc hl1 he1 hl2 he2 hE hEs hl6 he6 hl7 he7 (by rw [hw]) hl8 (by rw [he9, hw, he8]) hl10 he10 hbt han hl11
  refine wp_cutR (frL [(2, .loc c 0), (4, wslV l), (6, .loc b 0), (7, .loc d 0)]) [.obj c pZ, .obj b (rfL s l a6 e5 n5), .obj d (psK t acc 0 [] false)] (.cons (.refl _) (.cons (.refl _) (.cons (.refl _) (.cons (.refl _) (.nil _))))) (by simp) ?_
  (conv => arg 2; whnf); refine wp_callF [.obj c pZ] [.obj b (rfL s l a6 e5 n5)] [.obj d (psK t acc 0 [] false)] rfl c4 ?_
  rintro v R1 ⟨rfl, a7, ha7, hd7, rfl⟩
  have c5 := want_call b s l l6 a7 e6 n5 4 within6 (by decide) (by decide) m6 ha7 hd7 hL
  rw [← hl7, ← he7] at c5
  (conv => arg 2; whnf); refine wp_callF [.obj c pZ] [.obj b (rfL s l a7 e6 n5)] [.obj d (psK t acc 0 [] false)] rfl c5 ?_
  rintro v R1 ⟨rfl, a8, ha8, hd8, rfl⟩
  have c6 := some_call b s l l7 a8 e7 n5 2 (by decide) m7 ha8 hd8 hL
  rw [← hw, ← hl8, ← he8] at c6
  (conv => arg 2; whnf); refine wp_callF [.obj c pZ] [.obj b (rfL s l a8 e7 n5)] [.obj d (psK t acc 0 [] false)] rfl c6 ?_
  rintro v R1 ⟨rfl, hR8⟩
  obtain rfl := hR8.eq
  clear hR8
  (conv => arg 2; whnf); refine wp_allocE (wdL wd0) rfl fun q => ?_
  (conv => arg 2; whnf); refine wp_storeE (cs := wdL wd0) 3 0 (wdL w) rfl rfl (VleL.refl _) (Nat.le_refl _) rfl (R' := [.obj c pZ, .obj b (rfA s l l8 e8 n5), .obj d (psK t acc 0 [] false), .obj q (wdL w)]) rfl ?_
  (conv => arg 2; whnf)
  refine wp_cutR (frL [(2, .loc c 0), (4, wslV l), (6, .loc b 0), (7, .loc d 0), (8, .loc q 0)]) [.obj c pZ, .obj b (rfA s l l8 e8 n5), .obj d (psK t acc 0 [] false), .obj q (wdL w)] (.cons (.refl _) (.cons (.refl _) (.cons (.refl _) (.cons (.refl _) (.cons (.refl _) (.nil _)))))) (List.Sublist.refl _) ?_
  have hR9 : e9 = e8 → [Res.obj c pZ, .obj b (rfA s l l8 e9 n5), .obj d (psK t acc 0 [] false), .obj q (wdL w)] = [Res.obj c pZ, .obj b (rfA s l l8 e8 n5), .obj d (psK t acc 0 [] false), .obj q (wdL w)] := fun h => by rw [h]
  (conv => arg 2; whnf)
  apply wp_joinT
  case h1 =>
    intro rest
    (conv => arg 2; whnf); refine wp_load (cs := rfA s l l8 e8 n5) 1 rfl rfl ?_
    by_cases hz : e8 = none
    · have hq : (eI e8 == 0) = true := by rw [hz]; rfl
      have hp0 := rplain_call b s l (l.length - l8.length) e8 n5 w hs (hwok hz)
      (conv => arg 2; whnf); refine wp_ite (fun _ => ?_) (fun h => Bool.noConfusion (hq.symm.trans h))
      (conv => arg 2; whnf); refine wp_load (cs := wdL w) 3 rfl rfl ?_
      (conv => arg 2; whnf); refine wp_callF [.obj c pZ] [.obj b (rfA s l l8 e8 n5)] [.obj d (psK t acc 0 [] false), .obj q (wdL w)] rfl hp0 ?_
      rintro v R1 ⟨rfl, rfl⟩
      cases hp : plainW s w with
      | true =>
        have h98 : e9 = e8 := by rw [he9, hz, rplE, hp]; rfl
        (repeat ((conv => arg 2; whnf); first | refine wp_ite (fun _ => ?_) (fun h => Bool.noConfusion h) | refine wp_ite (fun h => Bool.noConfusion h) (fun _ => ?_)))
        (conv => arg 2; whnf)
        exact wp_cutR (frL [(2, .loc c 0), (4, wslV l), (6, .loc b 0), (7, .loc d 0), (8, .loc q 0)]) [.obj c pZ, .obj b (rfA s l l8 e9 n5), .obj d (psK t acc 0 [] false), .obj q (wdL w)] (.cons (.refl _) (.cons (.refl _) (.cons (.refl _) (.cons (.refl _) (.cons (.refl _) (.nil _)))))) (hR9 h98 ▸ List.Sublist.refl _) rest
      | false =>
        have h9 : e9 = some 10 := by rw [he9, hz, rplE, hp]; rfl
        (repeat ((conv => arg 2; whnf); first | refine wp_ite (fun _ => ?_) (fun h => Bool.noConfusion h) | refine wp_ite (fun h => Bool.noConfusion h) (fun _ => ?_)))
        (conv => arg 2; whnf); refine wp_storeE (cs := rfA s l l8 e8 n5) 1 4 [i64V 10] rfl rfl (VleL.refl _) (Nat.le_of_ble_eq_true rfl) rfl (R' := [.obj c pZ, .obj b (rfA s l l8 e9 n5), .obj d (psK t acc 0 [] false), .obj q (wdL w)]) (by rw [h9]; rfl) ?_
        (conv => arg 2; whnf)
        exact wp_cutR (frL [(2, .loc c 0), (4, wslV l), (6, .loc b 0), (7, .loc d 0), (8, .loc q 0)]) [.obj c pZ, .obj b (rfA s l l8 e9 n5), .obj d (psK t acc 0 [] false), .obj q (wdL w)] (.cons (.refl _) (.cons (.refl _) (.cons (.refl _) (.cons (.refl _) (.cons (.refl _) (.nil _)))))) (List.Sublist.refl _) rest
    · have hq : (eI e8 == 0) = false := by rw [eI_ne m8]; exact decide_eq_false hz
      have h98 : e9 = e8 := by
        rw [he9]
        cases e8 with
        | none => exact absurd rfl hz
        | some m => rfl
      (conv => arg 2; whnf); refine wp_ite (fun h => Bool.noConfusion (hq.symm.trans h)) (fun _ => ?_)
      (repeat ((conv => arg 2; whnf); first | refine wp_ite (fun _ => ?_) (fun h => Bool.noConfusion h) | refine wp_ite (fun h => Bool.noConfusion h) (fun _ => ?_)))
      (conv => arg 2; whnf)
      exact wp_cutR (frL [(2, .loc c 0), (4, wslV l), (6, .loc b 0), (7, .loc d 0), (8, .loc q 0)]) [.obj c pZ, .obj b (rfA s l l8 e9 n5), .obj d (psK t acc 0 [] false), .obj q (wdL w)] (.cons (.refl _) (.cons (.refl _) (.cons (.refl _) (.cons (.refl _) (.cons (.refl _) (.nil _)))))) (hR9 h98 ▸ List.Sublist.refl _) rest
  case rest =>
  (conv => arg 2; whnf); refine wp_load (cs := wdL w) 3 rfl rfl ?_
  (conv => arg 2; whnf)
  refine wp_cutR (frL [(2, .loc c 0), (4, wslV l), (6, .loc b 0), (7, .loc d 0), (9, i64V w.n)]) [.obj c pZ, .obj b (rfA s l l8 e9 n5), .obj d (psK t acc 0 [] false)] (.cons (.refl _) (.cons (.refl _) (.cons (.refl _) (.cons (.refl _) (.cons (.refl _) (.nil _)))))) (by simp) ?_
  have hRy : isP l8 e9 4 by2 = true → (∀ b', RSt b s l (mayL l8.tail e9 1 []) (mustX l8.tail e9 1 []) n5 b' → b' = [.obj b (rfA s l l10 e10 n5)]) ∧ bt = (takeW l8.tail e9 1).text := fun h => by
    rw [hl10, he10, hbt, byMay, byMust, byTxt, h]
    exact ⟨fun b' hb' => hb'.eq, rfl⟩
  have hRn : isP l8 e9 4 by2 = false → l10 = l8 ∧ e10 = e9 ∧ bt = [] := fun h => by
    rw [hl10, he10, hbt, byMay, byMust, byTxt, h]
    exact ⟨rfl, rfl, rfl⟩
  (conv => arg 2; whnf)
  apply wp_joinT
  case h1 =>
    intro rest
    (conv => arg 2; whnf); refine wp_callF [.obj c pZ] [.obj b (rfA s l l8 e9 n5)] [.obj d (psK t acc 0 [] false)] rfl c8 ?_
    rintro v R1 ⟨rfl, a9, ha9, hd9, rfl⟩
    (conv => arg 2; whnf); refine wp_ite (fun hk => ?_) (fun hk => ?_)
    · have hk : isP l8 e9 4 by2 = true := hk
      obtain ⟨hRy1, hRy2⟩ := hRy hk
      rw [mayL, hk, if_pos rfl] at hd9
      (conv => arg 2; whnf); refine wp_callF [.obj c pZ] [.obj b (rfL s l a9 e9 n5)] [.obj d (psK t acc 0 [] false)] rfl (some_call b s l l8.tail a9 e9 n5 1 (by decide) m9 ha9 hd9 hL) ?_
      rintro v R1 ⟨rfl, hR⟩
      obtain rfl := hRy1 _ hR
      (conv => arg 2; whnf); refine wp_storeE (cs := psK t acc 0 [] false) 2 2 [str (takeW l8.tail e9 1).text] rfl rfl (VleL.refl _) (Nat.le_of_ble_eq_true rfl) rfl (R' := [.obj c pZ, .obj b (rfA s l l10 e10 n5), .obj d (psK t acc 0 bt false)]) (by rw [hRy2]; rfl) ?_
      (conv => arg 2; whnf)
      exact wp_cutR (frL [(2, .loc c 0), (4, wslV l), (6, .loc b 0), (7, .loc d 0), (9, i64V w.n)]) [.obj c pZ, .obj b (rfA s l l10 e10 n5), .obj d (psK t acc 0 bt false)] (.cons (.refl _) (.cons (.refl _) (.cons (.refl _) (.cons (.refl _) (.cons (.refl _) (.nil _)))))) (List.Sublist.refl _) rest
    · have hk : isP l8 e9 4 by2 = false := hk
      obtain ⟨q1, q2, q3⟩ := hRn hk
      rw [mayL, hk, if_neg (by decide)] at hd9
      have hR : [Res.obj c pZ, .obj b (rfA s l l10 e10 n5), .obj d (psK t acc 0 bt false)] = [Res.obj c pZ, .obj b (rfL s l a9 e9 n5), .obj d (psK t acc 0 [] false)] := by rw [q1, q2, q3, rfA, ← at_of ha9 hd9]
      (conv => arg 2; whnf)
      exact wp_cutR (frL [(2, .loc c 0), (4, wslV l), (6, .loc b 0), (7, .loc d 0), (9, i64V w.n)]) [.obj c pZ, .obj b (rfA s l l10 e10 n5), .obj d (psK t acc 0 bt false)] (.cons (.refl _) (.cons (.refl _) (.cons (.refl _) (.cons (.refl _) (.cons (.refl _) (.nil _)))))) (hR ▸ List.Sublist.refl _) rest
  case rest =>
  clear hRy hRn c8
  (conv => arg 2; whnf); refine wp_callF [.obj c pZ] [.obj b (rfA s l l10 e10 n5)] [.obj d (psK t acc 0 bt false)] rfl c9 ?_
  rintro v R1 ⟨rfl, hR⟩
  obtain rfl := hR.eq
  clear hR
  (conv => arg 2; whnf); refine wp_storeE (cs := psK t acc 0 bt false) 2 3 [bV an] rfl rfl (VleL.refl _) (Nat.le_of_ble_eq_true rfl) rfl (R' := [.obj c pZ, .obj b (rfA s l l11 e10 n5), .obj d (psK t acc 0 bt an)]) rfl ?_
  (conv => arg 2; whnf)
  refine wp_cutR (frL [(2, .loc c 0), (4, wslV l), (6, .loc b 0), (7, .loc d 0), (9, i64V w.n)]) [.obj c pZ, .obj b (rfA s l l11 e10 n5), .obj d (psK t acc 0 bt an)] (.cons (.refl _) (.cons (.refl _) (.cons (.refl _) (.cons (.refl _) (.cons (.refl _) (.nil _)))))) (List.Sublist.refl _) ?_
  obtain ⟨e12, he12⟩ : ∃ x, x = finE l11 w.n e10 := ⟨_, rfl⟩
  have m12 : e12 ≠ some 0 := by rw [he12]; exact finE_ne m10
  rw [← he12] at hfin hbd
  have hR12 : e12 = e10 → [Res.obj c pZ, .obj b (rfA s l l11 e12 n5), .obj d (psK t acc 0 bt an)] = [Res.obj c pZ, .obj b (rfA s l l11 e10 n5), .obj d (psK t acc 0 bt an)] := fun h => by rw [h]
  have hat := sufnil s11
  have g0 : w.n < 0 → e10 = none → e12 = some 10 := fun h hz => by rw [he12, hz, finE, if_neg (by omega)]
  have g1 : w.n > 1000 → e10 = none → e12 = some 10 := fun h hz => by rw [he12, hz, finE, if_neg (by omega)]
  have g2 : ¬ w.n < 0 → ¬ w.n > 1000 → l11 = [] → e10 = none → e12 = e10 := fun h h' h11 hz => by rw [he12, hz, finE, if_pos ⟨h11, by omega, by omega⟩]
  (conv => arg 2; whnf)
  apply wp_joinT
  case h1 =>
    intro rest
    have way : e12 = some 10 → [Res.obj c pZ, .obj b (splice (rfA s l l11 e10 n5) 4 [i64V 10]), .obj d (psK t acc 0 bt an)] = [Res.obj c pZ, .obj b (rfA s l l11 e12 n5), .obj d (psK t acc 0 bt an)] := fun h => by rw [h]; rfl
    (conv => arg 2; whnf); refine wp_load (cs := rfA s l l11 e10 n5) 1 rfl rfl ?_
    by_cases hz : e10 = none
    · have hq : (eI e10 == 0) = true := by rw [hz]; rfl
      (conv => arg 2; whnf); refine wp_ite (fun _ => ?_) (fun h => Bool.noConfusion (hq.symm.trans h))
      (conv => arg 2; whnf); refine wp_load (cs := rfA s l l11 e10 n5) 1 rfl rfl ?_
      by_cases h11 : l11 = []
      · have hat2 : (!((((l.length - l11.length : Nat) : Int)) == (((l.map wdV).length : Nat) : Int))) = false := by rw [hat, decide_eq_true h11]; rfl
        (conv => arg 2; whnf); refine wp_ite (fun h => Bool.noConfusion (hat2.symm.trans h)) (fun _ => ?_)
        (conv => arg 2; whnf); refine wp_ite (fun h0 => ?_) (fun h0 => ?_)
        · have h0 : w.n < 0 := of_decide_eq_true h0
          have h12 : e12 = some 10 := g0 h0 hz
          (repeat ((conv => arg 2; whnf); first | refine wp_ite (fun _ => ?_) (fun h => Bool.noConfusion h) | refine wp_ite (fun h => Bool.noConfusion h) (fun _ => ?_)))
          (conv => arg 2; whnf); refine wp_storeE (cs := rfA s l l11 e10 n5) 1 4 [i64V 10] rfl rfl (VleL.refl _) (Nat.le_of_ble_eq_true rfl) rfl (R' := [.obj c pZ, .obj b (rfA s l l11 e12 n5), .obj d (psK t acc 0 bt an)]) (way h12) ?_
          (conv => arg 2; whnf)
          exact wp_cutR (frL [(2, .loc c 0), (4, wslV l), (6, .loc b 0), (7, .loc d 0), (9, i64V w.n)]) [.obj c pZ, .obj b (rfA s l l11 e12 n5), .obj d (psK t acc 0 bt an)] (.cons (.refl _) (.cons (.refl _) (.cons (.refl _) (.cons (.refl _) (.cons (.refl _) (.nil _)))))) (List.Sublist.refl _) rest
        · have h0 : ¬ w.n < 0 := of_decide_eq_false h0
          (conv => arg 2; whnf); refine wp_ite (fun h1 => ?_) (fun h1 => ?_)
          · have h1 : w.n > 1000 := of_decide_eq_true h1
            have h12 : e12 = some 10 := g1 h1 hz
            (conv => arg 2; whnf); refine wp_storeE (cs := rfA s l l11 e10 n5) 1 4 [i64V 10] rfl rfl (VleL.refl _) (Nat.le_of_ble_eq_true rfl) rfl (R' := [.obj c pZ, .obj b (rfA s l l11 e12 n5), .obj d (psK t acc 0 bt an)]) (way h12) ?_
            (conv => arg 2; whnf)
            exact wp_cutR (frL [(2, .loc c 0), (4, wslV l), (6, .loc b 0), (7, .loc d 0), (9, i64V w.n)]) [.obj c pZ, .obj b (rfA s l l11 e12 n5), .obj d (psK t acc 0 bt an)] (.cons (.refl _) (.cons (.refl _) (.cons (.refl _) (.cons (.refl _) (.cons (.refl _) (.nil _)))))) (List.Sublist.refl _) rest
          · have h1 : ¬ w.n > 1000 := of_decide_eq_false h1
            have h12 : e12 = e10 := g2 h0 h1 h11 hz
            (conv => arg 2; whnf)
            exact wp_cutR (frL [(2, .loc c 0), (4, wslV l), (6, .loc b 0), (7, .loc d 0), (9, i64V w.n)]) [.obj c pZ, .obj b (rfA s l l11 e12 n5), .obj d (psK t acc 0 bt an)] (.cons (.refl _) (.cons (.refl _) (.cons (.refl _) (.cons (.refl _) (.cons (.refl _) (.nil _)))))) (hR12 h12 ▸ List.Sublist.refl _) rest
      · have hat2 : (!((((l.length - l11.length : Nat) : Int)) == (((l.map wdV).length : Nat) : Int))) = true := by rw [hat, decide_eq_false h11]; rfl
        have h12 : e12 = some 10 := by rw [he12, hz, finE, if_neg (fun h => h11 h.1)]
        (conv => arg 2; whnf); refine wp_ite (fun _ => ?_) (fun h => Bool.noConfusion (hat2.symm.trans h))
        (repeat ((conv => arg 2; whnf); first | refine wp_ite (fun _ => ?_) (fun h => Bool.noConfusion h) | refine wp_ite (fun h => Bool.noConfusion h) (fun _ => ?_)))
        (conv => arg 2; whnf); refine wp_storeE (cs := rfA s l l11 e10 n5) 1 4 [i64V 10] rfl rfl (VleL.refl _) (Nat.le_of_ble_eq_true rfl) rfl (R' := [.obj c pZ, .obj b (rfA s l l11 e12 n5), .obj d (psK t acc 0 bt an)]) (way h12) ?_
        (conv => arg 2; whnf)
        exact wp_cutR (frL [(2, .loc c 0), (4, wslV l), (6, .loc b 0), (7, .loc d 0), (9, i64V w.n)]) [.obj c pZ, .obj b (rfA s l l11 e12 n5), .obj d (psK t acc 0 bt an)] (.cons (.refl _) (.cons (.refl _) (.cons (.refl _) (.cons (.refl _) (.cons (.refl _) (.nil _)))))) (List.Sublist.refl _) rest
    · have hq : (eI e10 == 0) = false := by rw [eI_ne m10]; exact decide_eq_false hz
      have h12 : e12 = e10 := by
        rw [he12]
        cases e10 with
        | none => exact absurd rfl hz
        | some m => rfl
      (conv => arg 2; whnf); refine wp_ite (fun h => Bool.noConfusion (hq.symm.trans h)) (fun _ => ?_)
      (repeat ((conv => arg 2; whnf); first | refine wp_ite (fun _ => ?_) (fun h => Bool.noConfusion h) | refine wp_ite (fun h => Bool.noConfusion h) (fun _ => ?_)))
      (conv => arg 2; whnf)
      exact wp_cutR (frL [(2, .loc c 0), (4, wslV l), (6, .loc b 0), (7, .loc d 0), (9, i64V w.n)]) [.obj c pZ, .obj b (rfA s l l11 e12 n5), .obj d (psK t acc 0 bt an)] (.cons (.refl _) (.cons (.refl _) (.cons (.refl _) (.cons (.refl _) (.cons (.refl _) (.nil _)))))) (hR12 h12 ▸ List.Sublist.refl _) rest
  case rest =>
  clear hR12 hat c9 g0 g1 g2
  (conv => arg 2; whnf); refine wp_storeE (cs := psK t acc 0 bt an) 2 1 [i64V w.n] rfl rfl (VleL.refl _) (Nat.le_of_ble_eq_true rfl) rfl (R' := [.obj c pZ, .obj b (rfA s l l11 e12 n5), .obj d (psK t acc w.n bt an)]) rfl ?_
  (conv => arg 2; whnf)
  refine wp_cutR (frL [(2, .loc c 0), (6, .loc b 0), (7, .loc d 0)]) [.obj c pZ, .obj b (rfA s l l11 e12 n5), .obj d (psK t acc w.n bt an)] (.cons (.refl _) (.cons (.refl _) (.cons (.refl _) (.nil _)))) (List.Sublist.refl _) ?_
  (conv => arg 2; whnf); refine wp_load (cs := rfA s l l11 e12 n5) 1 rfl rfl ?_
  cases e12 with
  | some m =>
    have hm := eI_s m12
    have hm2 : (!(eI (some m) == 0)) = true := by rw [hm]; rfl
    have hr : parsePaE s = .error m := hfin
    (conv => arg 2; whnf); refine wp_ite (fun h => Bool.noConfusion (hm.symm.trans h)) (fun _ => ?_)
    (repeat ((conv => arg 2; whnf); first | refine wp_ite (fun _ => ?_) (fun h => Bool.noConfusion h) | refine wp_ite (fun h => Bool.noConfusion h) (fun _ => ?_)))
    (conv => arg 2; whnf); refine wp_load (cs := rfA s l l11 (some m) n5) 1 rfl rfl ?_
    (conv => arg 2; whnf); refine wp_ite (fun _ => ?_) (fun h => Bool.noConfusion (hm2.symm.trans h))
    (conv => arg 2; whnf); refine wp_need (lates1 b 4 c 0 rfl rfl rfl hbc) ?_
    (conv => arg 2; whnf); refine wp_load (cs := rfA s l l11 (some m) n5) 1 rfl rfl ?_
    (conv => arg 2; whnf); refine wp_storeE (cs := pZ) 0 0 (paC pa0) rfl rfl pZ_vle (Nat.le_refl _) rfl (R' := [.obj c (paC pa0), .obj b (rfA s l l11 (some m) n5), .obj d (psK t acc w.n bt an)]) rfl ?_
    (conv => arg 2; whnf); refine w_ret2ck (R' := []) (a := .agg (paC pa0)) (u := i64V m) c 0 0 rfl rfl rfl rfl rfl (Vle.refl _) (Vle.refl _) (List.nil_sublist _) (by rw [hr]; rfl)
  | none =>
    have hbd := hbd rfl
    have fi := refpattern_call ⟨acc, w.n, bt, an⟩ hbd
    (repeat ((conv => arg 2; whnf); first | refine wp_ite (fun _ => ?_) (fun h => Bool.noConfusion h) | refine wp_ite (fun h => Bool.noConfusion h) (fun _ => ?_)))
    (conv => arg 2; whnf); refine wp_load (cs := psK t acc w.n bt an) 2 rfl rfl ?_
    (conv => arg 2; whnf); refine wp_pcallV (.cons (Vle.agg (psK_vle t acc w.n bt an)) .nil) fi ?_
    cases hi : isPaB ⟨acc, w.n, bt, an⟩ with
    | true =>
      have hr : parsePaE s = .ok ⟨acc, w.n, bt, an⟩ := by rw [hfin, okE2, hi]; rfl
      (repeat ((conv => arg 2; whnf); first | refine wp_ite (fun _ => ?_) (fun h => Bool.noConfusion h) | refine wp_ite (fun h => Bool.noConfusion h) (fun _ => ?_)))
      (conv => arg 2; whnf); refine wp_load (cs := rfA s l l11 none n5) 1 rfl rfl ?_
      (repeat ((conv => arg 2; whnf); first | refine wp_ite (fun _ => ?_) (fun h => Bool.noConfusion h) | refine wp_ite (fun h => Bool.noConfusion h) (fun _ => ?_)))
      (conv => arg 2; whnf); refine wp_load (cs := psK t acc w.n bt an) 2 rfl rfl ?_
      (conv => arg 2; whnf); refine wp_storeE (cs := pZ) 0 0 (paC ⟨acc, w.n, bt, an⟩) rfl rfl (psK_vle _ _ _ _ _) (Nat.le_refl _) rfl (R' := [.obj c (paC ⟨acc, w.n, bt, an⟩), .obj b (rfA s l l11 none n5), .obj d (psK t acc w.n bt an)]) rfl ?_
      (conv => arg 2; whnf); refine w_ret2ck (R' := []) (a := .agg (paC ⟨acc, w.n, bt, an⟩)) (u := i64V 0) c 0 0 rfl rfl rfl rfl rfl (Vle.refl _) (Vle.refl _) (List.nil_sublist _) (by rw [hr]; rfl)
    | false =>
      have hr : parsePaE s = .error 10 := by rw [hfin, okE2, hi]; rfl
      (repeat ((conv => arg 2; whnf); first | refine wp_ite (fun _ => ?_) (fun h => Bool.noConfusion h) | refine wp_ite (fun h => Bool.noConfusion h) (fun _ => ?_)))
      (conv => arg 2; whnf); refine wp_storeE (cs := rfA s l l11 none n5) 1 4 [i64V 10] rfl rfl (VleL.refl _) (Nat.le_of_ble_eq_true rfl) rfl (R' := [.obj c pZ, .obj b (rfA s l l11 (some 10) n5), .obj d (psK t acc w.n bt an)]) rfl ?_
      (conv => arg 2; whnf); refine wp_load (cs := rfA s l l11 (some 10) n5) 1 rfl rfl ?_
      (repeat ((conv => arg 2; whnf); first | refine wp_ite (fun _ => ?_) (fun h => Bool.noConfusion h) | refine wp_ite (fun h => Bool.noConfusion h) (fun _ => ?_)))
      (conv => arg 2; whnf); refine wp_need (lates1 b 4 c 0 rfl rfl rfl hbc) ?_
      (conv => arg 2; whnf); refine wp_load (cs := rfA s l l11 (some 10) n5) 1 rfl rfl ?_
      (conv => arg 2; whnf); refine wp_storeE (cs := pZ) 0 0 (paC pa0) rfl rfl pZ_vle (Nat.le_refl _) rfl (R' := [.obj c (paC pa0), .obj b (rfA s l l11 (some 10) n5), .obj d (psK t acc w.n bt an)]) rfl ?_
      (conv => arg 2; whnf); refine w_ret2ck (R' := []) (a := .agg (paC pa0)) (u := i64V 10) c 0 0 rfl rfl rfl rfl rfl (Vle.refl _) (Vle.refl _) (List.nil_sublist _) (by rw [hr]; rfl)
end Go.Sv
/- errors.As at a target that is a number: after the guide's Derived/Test/ToyasAs.lean, turned to this program. -/
namespace Go.Proofs.TryzAs
open Go Go.RowKit Go.Extern.Stop Go.Stop Go.Extern Go.Proofs

theorem as_nil (t : Value) (w : World) :
    Calls Tryz.prog 39 #[.nilIface, t] w fun e w' => e = .returned (.bool false) ∧ w' = w := by
  go_enter Tryz.func39, Tryz.ntmps39
  go_wp2
  go_ret
  exact ⟨rfl, rfl⟩

theorem valueOfP (t : Addr) (w : World) : (ReflectliteValue.unpack (.iface 88 (.pointer (some t)))).run Tryz.prog w
    = .ok (.agg #[.pointer (some ⟨9, 88, none⟩), .pointer (some ⟨w.heap.size, 0, none⟩), .int .u64 150]) (w.alloc (.cells #[.pointer (some t)] 88)) := by kernel_rfl
theorem typeP (a : Addr) (w : World) : (ReflectliteValue.methodAny (ReflectliteValue.valueError "reflectlite.Value.Type" 0) (fun t _ _ _ => ReflectliteType.toType t) #[.agg #[.pointer (some ⟨9, 88, none⟩), .pointer (some a), .int .u64 150]]).run Tryz.prog w
    = .ok (.iface 106 (.agg #[.pointer (some ⟨9, 88, none⟩)])) w := by kernel_rfl
theorem methodKind (h : Value) (w : World) : (Go.method 344 106 (.agg #[h]) "Kind").run Tryz.prog w = .ok (176, h) w := by kernel_rfl
theorem kindP (w : World) : ((ReflectliteType.abiMethod fun t => (fun a : Nat => Value.int IntKind.u8 (a : Int)) <$> Rtype.kind t) #[.pointer (some ⟨9, 88, none⟩)]).run Tryz.prog w = .ok (.int .u8 22) w := by kernel_rfl
theorem kindE (w : World) : ((ReflectliteType.abiMethod fun t => (fun a : Nat => Value.int IntKind.u8 (a : Int)) <$> Rtype.kind t) #[.pointer (some ⟨9, 42, none⟩)]).run Tryz.prog w = .ok (.int .u8 2) w := by kernel_rfl
theorem rlm (z : Sem Value) (f : TypeId → Addr → Nat → Nat → Sem Value) (v : Value) :
    ReflectliteValue.method z f #[v] = (do match ← ReflectliteValue.parts v with | none => z | some (t, a, fl) => f t a fl (fl % 32)) := rfl
theorem partsP (a : Addr) (w : World) : (ReflectliteValue.parts (.agg #[.pointer (some ⟨9, 88, none⟩), .pointer (some a), .int .u64 150])).run Tryz.prog w = .ok (some (88, a, 150)) w := by kernel_rfl
theorem isNilP (a p : Addr) (W : World) (ha : W.cell? a = some (.pointer (some p))) :
    (ReflectliteValue.method (ReflectliteValue.valueError "reflectlite.Value.IsNil" 0) ReflectliteValue.isNil #[.agg #[.pointer (some ⟨9, 88, none⟩), .pointer (some a), .int .u64 150]]).run Tryz.prog W = .ok (.bool false) W := by
  rw [rlm]
  simp only [Sem.run_bind, partsP, Result.andThen]
  simp [ReflectliteValue.isNil, loadVar, isAgg, underlying, Tryz.underlying88, ha, Result.andThen]
theorem methodElem (h : Value) (w : World) : (Go.method 344 106 (.agg #[h]) "Elem").run Tryz.prog w = .ok (183, .agg #[h]) w := by kernel_rfl
theorem methodImplements (h : Value) (w : World) : (Go.method 344 106 (.agg #[h]) "Implements").run Tryz.prog w = .ok (184, .agg #[h]) w := by kernel_rfl
theorem methodAssignableTo (h : Value) (w : World) : (Go.method 344 106 (.agg #[h]) "AssignableTo").run Tryz.prog w = .ok (181, .agg #[h]) w := by kernel_rfl
theorem elemP (w : World) : (ReflectliteType.method ReflectliteType.elem #[.agg #[.pointer (some ⟨9, 88, none⟩)]]).run Tryz.prog w = .ok (.iface 106 (.agg #[.pointer (some ⟨9, 42, none⟩)])) w := by kernel_rfl
theorem implementsE (w : World) : (ReflectliteType.relation "Implements" ReflectliteType.implements_ #[.agg #[.pointer (some ⟨9, 42, none⟩)], .iface 106 (.agg #[.pointer (some ⟨9, 27, none⟩)])]).run Tryz.prog w = .ok (.bool true) w := by kernel_rfl
theorem typeOfE (v : Value) (w : World) : (ReflectliteType.typeOf #[.iface 42 v]).run Tryz.prog w = .ok (.iface 106 (.agg #[.pointer (some ⟨9, 42, none⟩)])) w := by kernel_rfl
theorem assignableE (w : World) : (ReflectliteType.relation "AssignableTo" ReflectliteType.assignableTo #[.agg #[.pointer (some ⟨9, 42, none⟩)], .iface 106 (.agg #[.pointer (some ⟨9, 42, none⟩)])]).run Tryz.prog w = .ok (.bool true) w := by kernel_rfl
theorem valueOfE (n : Int) (w : World) : (ReflectliteValue.unpack (.iface 42 (.int .i64 n))).run Tryz.prog w
    = .ok (.agg #[.pointer (some ⟨9, 42, none⟩), .pointer (some ⟨w.heap.size, 0, none⟩), .int .u64 130]) (w.alloc (.cells #[.int .i64 n] 42)) := by kernel_rfl
theorem elemOfP (w : World) : (Rtype.elem? 88).run Tryz.prog w = .ok (some 42) w := by kernel_rfl
theorem mkE (p : Addr) (w : World) : (ReflectliteValue.mk 42 p ReflectliteValue.flagAddr).run Tryz.prog w = .ok (.agg #[.pointer (some ⟨9, 42, none⟩), .pointer (some p), .int .u64 386]) w := by kernel_rfl
theorem elemVP (a p : Addr) (W : World) (ha : W.cell? a = some (.pointer (some p))) :
    (ReflectliteValue.method (ReflectliteValue.valueError "reflectlite.Value.Elem" 0) ReflectliteValue.elem #[.agg #[.pointer (some ⟨9, 88, none⟩), .pointer (some a), .int .u64 150]]).run Tryz.prog W
      = .ok (.agg #[.pointer (some ⟨9, 42, none⟩), .pointer (some p), .int .u64 386]) W := by
  rw [rlm]
  simp only [Sem.run_bind, partsP, Result.andThen]
  simp [ReflectliteValue.elem, loadVar, isAgg, underlying, Tryz.underlying88, ha, Result.andThen, elemOfP, mkE]
theorem rls (v x : Value) : ReflectliteValue.set #[v, x] = (do
    let (some (dst, a, fl), some (src, b, _)) := (← ReflectliteValue.parts v, ← ReflectliteValue.parts x)
      | unsupported (.noEntry "extern/(internal/reflectlite.Value).Set.zeroValue")
    if fl / ReflectliteValue.flagAddr % 2 == 0 then unsupported (.noEntry "extern/(internal/reflectlite.Value).Set.unaddressable")
    let val ← loadVar src b
    if ← Rtype.directlyAssignable dst src then storeVar dst a val
    else if ← Rtype.implements dst src then
      if (← Rtype.kind src) == 20 then
        match val with
        | .nilIface => unsupported (.noEntry "extern/reflectlite: a nil value of one interface type handed on as a value of another")
        | _ => storeVar dst a val
      else storeVar dst a (.iface src val)
    else panicString ("reflectlite.Set: value of type " ++ (← Rtype.spelt src) ++ " is not assignable to type " ++ (← Rtype.spelt dst))
    pure (.tuple #[])) := rfl
theorem partsEa (a : Addr) (w : World) : (ReflectliteValue.parts (.agg #[.pointer (some ⟨9, 42, none⟩), .pointer (some a), .int .u64 386])).run Tryz.prog w = .ok (some (42, a, 386)) w := by kernel_rfl
theorem partsE (a : Addr) (w : World) : (ReflectliteValue.parts (.agg #[.pointer (some ⟨9, 42, none⟩), .pointer (some a), .int .u64 130])).run Tryz.prog w = .ok (some (42, a, 130)) w := by kernel_rfl
theorem directE (w : World) : (Rtype.directlyAssignable 42 42).run Tryz.prog w = .ok true w := by kernel_rfl
theorem setE (ta b : Addr) (n : Int) (old : Value) (W : World) (hb : W.cell? b = some (.int .i64 n)) (ht : W.cell? ta = some old) (hf : W.frozen? ta = false) :
    (ReflectliteValue.set #[.agg #[.pointer (some ⟨9, 42, none⟩), .pointer (some ta), .int .u64 386], .agg #[.pointer (some ⟨9, 42, none⟩), .pointer (some b), .int .u64 130]]).run Tryz.prog W
      = .ok (.tuple #[]) (W.setCell ta (.int .i64 n)) := by
  rw [rls]
  simp only [Sem.run_bind, partsEa, partsE, Result.andThen]
  simp [ReflectliteValue.flagAddr, loadVar, isAgg, underlying, Tryz.underlying42, hb, Result.andThen, directE, storeVar, Value.cells, storeCells, Addr.add]
  rw [run_store Tryz.prog W ta _ _ (by rfl)]
  simp [ht, hf]

set_option maxHeartbeats 4000000 in
theorem as_hit (n : Int) (t : Addr) (old : Value) (w : World) (hg : w.cell? ⟨0, 0, none⟩ = some (.iface 106 (.agg #[.pointer (some ⟨9, 27, none⟩)]))) (ht0 : w.cell? t = some old) (hf0 : w.frozen? t = false) :
    Calls Tryz.prog 39 #[.iface 42 (.int .i64 n), .iface 88 (.pointer (some t))] w fun ev w' => ev = .returned (.bool true) ∧ w' = ((((w.alloc (.cells #[.pointer (some t)] 88)).alloc (.cells #[.pointer (some ⟨9, 88, none⟩), .pointer (some ⟨w.heap.size, 0, none⟩), .int .u64 150] 123)).alloc (.cells #[.pointer (some ⟨9, 88, none⟩), .pointer (some ⟨w.heap.size, 0, none⟩), .int .u64 150] 123)).alloc (.cells #[.int .i64 n] 42)).setCell t (.int .i64 n) := by
  have h6 := @run_callFunc_extern Tryz.prog 66 _ (fun args => ReflectliteValue.unpack (args.getD 0 (.tuple #[]))) Tryz.func66 (by kernel_rfl) (by kernel_rfl) (by kernel_rfl) (by kernel_rfl)
  have h7 := @run_callFunc_extern Tryz.prog 67 _ (ReflectliteValue.methodAny (ReflectliteValue.valueError "reflectlite.Value.Type" 0) (fun t _ _ _ => ReflectliteType.toType t)) Tryz.func67 (by kernel_rfl) (by kernel_rfl) (by kernel_rfl) (by kernel_rfl)
  have h8 := @run_callFunc_extern Tryz.prog 68 _ (ReflectliteValue.method (ReflectliteValue.valueError "reflectlite.Value.IsNil" 0) ReflectliteValue.isNil) Tryz.func68 (by kernel_rfl) (by kernel_rfl) (by kernel_rfl) (by kernel_rfl)
  have h27 := @run_callFunc_extern Tryz.prog 176 _ (ReflectliteType.abiMethod fun t => do pure (.int .u8 (← Rtype.kind t))) Tryz.func176 (by kernel_rfl) (by kernel_rfl) (by kernel_rfl) (by kernel_rfl)
  have h37 := @run_callFunc_extern Tryz.prog 183 _ (ReflectliteType.method ReflectliteType.elem) Tryz.func183 (by kernel_rfl) (by kernel_rfl) (by kernel_rfl) (by kernel_rfl)
  have h38 := @run_callFunc_extern Tryz.prog 184 _ (ReflectliteType.relation "Implements" ReflectliteType.implements_) Tryz.func184 (by kernel_rfl) (by kernel_rfl) (by kernel_rfl) (by kernel_rfl)
  have h10 := @run_callFunc_extern Tryz.prog 30 _ ReflectliteType.typeOf Tryz.func30 (by kernel_rfl) (by kernel_rfl) (by kernel_rfl) (by kernel_rfl)
  have h35 := @run_callFunc_extern Tryz.prog 181 _ (ReflectliteType.relation "AssignableTo" ReflectliteType.assignableTo) Tryz.func181 (by kernel_rfl) (by kernel_rfl) (by kernel_rfl) (by kernel_rfl)
  have h11 := @run_callFunc_extern Tryz.prog 85 _ (ReflectliteValue.method (ReflectliteValue.valueError "reflectlite.Value.Elem" 0) ReflectliteValue.elem) Tryz.func85 (by kernel_rfl) (by kernel_rfl) (by kernel_rfl) (by kernel_rfl)
  have h12 := @run_callFunc_extern Tryz.prog 86 _ ReflectliteValue.set Tryz.func86 (by kernel_rfl) (by kernel_rfl) (by kernel_rfl) (by kernel_rfl)
  have tO := typeOfE
  have mA := methodAssignableTo
  have a25 := assignableE
  have v25 := valueOfE
  have f6 := valueOfP
  have f7 := typeP
  have mK := methodKind
  have mE := methodElem
  have mI := methodImplements
  have k27 := kindP
  have k25 := kindE
  have e27 := elemP
  have i25 := implementsE
  have n8 := isNilP ⟨w.heap.size, 0, none⟩ t ((w.alloc (.cells #[.pointer (some t)] 88)).alloc (.cells #[.pointer (some ⟨9, 88, none⟩), .pointer (some ⟨w.heap.size, 0, none⟩), .int .u64 150] 123)) (by simp)
  have hlt : 0 < w.heap.size := by
    rcases Nat.lt_or_ge 0 w.heap.size with h | h
    · exact h
    · simp [World.cell?, Array.getElem?_eq_none h] at hg
  have hg2 : ((w.alloc (.cells #[.pointer (some t)] 88)).alloc (.cells #[.pointer (some ⟨9, 88, none⟩), .pointer (some ⟨w.heap.size, 0, none⟩), .int .u64 150] 123)).cell? ⟨0, 0, none⟩ = some (.iface 106 (.agg #[.pointer (some ⟨9, 27, none⟩)])) := by
    rw [World.cell?_alloc_lt _ _ ⟨0, 0, none⟩ (by first | (simp; done) | (simp; omega)), World.cell?_alloc_lt _ _ ⟨0, 0, none⟩ hlt]; exact hg
  have htl : t.block < w.heap.size := by
    rcases Nat.lt_or_ge t.block w.heap.size with h | h
    · exact h
    · simp [World.cell?, Array.getElem?_eq_none h] at ht0
  have el := elemVP ⟨w.heap.size, 0, none⟩ t (((w.alloc (.cells #[.pointer (some t)] 88)).alloc (.cells #[.pointer (some ⟨9, 88, none⟩), .pointer (some ⟨w.heap.size, 0, none⟩), .int .u64 150] 123)).alloc (.cells #[.pointer (some ⟨9, 88, none⟩), .pointer (some ⟨w.heap.size, 0, none⟩), .int .u64 150] 123)) (by rw [World.cell?_alloc_lt _ _ ⟨w.heap.size, 0, none⟩ (by simp; omega)]; simp)
  have st := setE t ⟨w.heap.size + 1 + 1 + 1, 0, none⟩ n old ((((w.alloc (.cells #[.pointer (some t)] 88)).alloc (.cells #[.pointer (some ⟨9, 88, none⟩), .pointer (some ⟨w.heap.size, 0, none⟩), .int .u64 150] 123)).alloc (.cells #[.pointer (some ⟨9, 88, none⟩), .pointer (some ⟨w.heap.size, 0, none⟩), .int .u64 150] 123)).alloc (.cells #[.int .i64 n] 42))
    (by rw [World.cell?_alloc_at _ _ _ _ (by simp)]; rfl)
    (by rw [World.cell?_alloc_lt _ _ t (by simp; omega), World.cell?_alloc_lt _ _ t (by simp; omega), World.cell?_alloc_lt _ _ t (by simp; omega), World.cell?_alloc_lt _ _ t htl]; exact ht0)
    (by rw [World.frozen?_alloc_old _ _ t (by simp; omega), World.frozen?_alloc_old _ _ t (by simp; omega), World.frozen?_alloc_old _ _ t (by simp; omega), World.frozen?_alloc_old _ _ t (Nat.ne_of_lt htl)]; exact hf0)
  go_enter Tryz.func39, Tryz.ntmps39
  go_wp2
  refine wp_loop_rounds 1 ?_
  rw [rounds_succ]
  go_wp2
  go_ret
  exact ⟨rfl, rfl⟩
end Go.Proofs.TryzAs
/- What pasternlaw7.code tells of an error. -/
namespace Go.Sv
open Go Go.Proofs Go.RowKit

theorem as_fn : isFn Tryz.prog 39 := ⟨_, _, Tryz.func39, rfl, by kernel_rfl⟩
theorem as_call (n b : Nat) (k : Int) : SCall Tryz.prog 39 [.c (errV (some n)), .ifc 88 (.loc b 0)] [.obj b [i64V k]] fun v R' => v = bV true ∧ R' = [.obj b [i64V n]] := by
  intro g w xs hw hx hr
  simp only [RelL, RelV, errV] at hx
  obtain ⟨_, _, rfl, rfl, _, _, rfl, ⟨_, rfl, rfl⟩, rfl⟩ := hx
  have hput : ∀ w4, After g w [.obj b [i64V k]] g w4 [.obj b [i64V k]] → _ := fun w4 h => e_put h.ext.wf h.res (i := 0) (b := b) (o := 0) (cs := [i64V k]) (src := [i64V n]) (news := [.int .i64 n]) rfl (by simp [RelL, RelV, i64V]) (by simp [Value.oneCell']) (by simp)
  obtain ⟨_, h1, h2⟩ := hput w (After.refl hw hr)
  have h1 := h1 0 (by simp)
  have h2 := h2 0 (by simp)
  obtain ⟨old, hold⟩ := Option.isSome_iff_exists.1 h1
  obtain ⟨ev, e1, e2, _⟩ := hw.st.1 (0, 0, fun v => v = .iface 106 (.agg #[.pointer (some ⟨9, 27, none⟩)])) (by simp [statics])
  have e2 : ev = _ := e2
  subst e2
  refine .inr (.inl ⟨_, _, w, run_call as_fn _, callsIn_wide.2 ((TryzAs.as_hit n ⟨b, 0, none⟩ old w e1 hold h2).mono ?_)⟩)
  rintro e w' ⟨rfl, rfl⟩
  have hb := Below.alloc (Below.alloc (Below.alloc (Below.alloc (Below.refl w.heap.size w) (Nat.le_refl _) (.cells #[.pointer (some ⟨b, 0, none⟩)] 88)) (by simp) (.cells #[.pointer (some ⟨9, 88, none⟩), .pointer (some ⟨w.heap.size, 0, none⟩), .int .u64 150] 123)) (by simp; omega) (.cells #[.pointer (some ⟨9, 88, none⟩), .pointer (some ⟨w.heap.size, 0, none⟩), .int .u64 150] 123)) (by simp; omega) (.cells #[.int .i64 n] 42)
  have hA := after_of_ext hr (after_below hw hb).ext
  exact ⟨_, rfl, bV true, g, _, ⟨rfl, rfl⟩, hA.trans (hput _ hA).1, by simp only [bV, RelV]⟩

def codeOf : Option Nat → Nat
  | none => 0
  | some n => n
set_option maxRecDepth 100000 in
theorem code_call (e : Option Nat) : PCall Tryz.prog 17 [.c (errV e)] (i64V (codeOf e)) := by
  refine scall_of (live := []) (ords := []) Tryz.func17 rfl (by kernel_rfl) (by kernel_rfl) (Nat.le_of_ble_eq_true rfl) ?_
  (conv => arg 2; whnf); refine wp_allocE [i64V 0] rfl fun b => ?_
  cases e with
  | none =>
    (repeat ((conv => arg 2; whnf); first | refine wp_ite (fun _ => ?_) (fun h => Bool.noConfusion h) | refine wp_ite (fun h => Bool.noConfusion h) (fun _ => ?_)))
    (conv => arg 2; whnf); refine w_retp rfl (.refl _)
  | some n =>
    (repeat ((conv => arg 2; whnf); first | refine wp_ite (fun _ => ?_) (fun h => Bool.noConfusion h) | refine wp_ite (fun h => Bool.noConfusion h) (fun _ => ?_)))
    (conv => arg 2; whnf); refine wp_callF [] [.obj b [i64V 0]] [] rfl (as_call n b 0) ?_
    rintro v R' ⟨rfl, rfl⟩
    (repeat ((conv => arg 2; whnf); first | refine wp_ite (fun _ => ?_) (fun h => Bool.noConfusion h) | refine wp_ite (fun h => Bool.noConfusion h) (fun _ => ?_)))
    (conv => arg 2; whnf); refine wp_load (cs := [i64V n]) 0 rfl rfl ?_
    (conv => arg 2; whnf); refine w_retp rfl (.refl _)
end Go.Sv
/- pasternlaw9: both parsers tell the same. -/
namespace Go.Sv
open Go Go.Proofs

theorem tellsE (s : List UInt8) (hs : s.length < 2 ^ 40) : ∃ (x : Ex) (e : Option Nat), PCall Tryz.prog 12 [str s] (pairV (.agg (exC x)) e) ∧ PCall Tryz.prog 14 [str s] (.tup [.agg (exC x), i64V (codeOf e)]) ∧ ExBd x ∧ (x = ex0 ∨ (x.op ≠ 0 ∧ shapedN 5 x = true)) := by
  have a1 := parseexpr_call s hs
  have a2 := refparseexpr_call s hs
  cases h : parseExE s with
  | error k =>
    rw [h] at a1 a2
    exact ⟨ex0, some k, a1, a2, exBd_of (by decide) (by rw [ex0, exRg, exsRg]; exact ⟨I64_0, trivial⟩), .inl rfl⟩
  | ok x =>
    rw [h] at a1 a2
    rw [parseExE] at h
    cases hc : cutW s with
    | error k => rw [hc] at h; cases h
    | ok l =>
      rw [hc] at h
      simp only at h
      obtain ⟨hl, _⟩ := cutW_ok hc
      cases hp : nodeE s 5 l 0 with
      | error k => rw [hp] at h; cases h
      | ok r =>
        obtain ⟨q, l', n'⟩ := r
        rw [hp, endE] at h
        by_cases h0 : l' = []
        · rw [if_pos h0] at h
          cases h
          obtain ⟨b1, b2, _⟩ := nodeE_ok 5 _ _ hl hp
          refine ⟨x, none, a1, a2, exBd_of (Nat.le_trans (shaped_size 5 _ b1) (by decide)) b2, .inr ⟨fun e0 => ?_, b1⟩⟩
          have := shape_nb (k := 4) b1
          omega
        · rw [if_neg h0] at h; cases h
theorem tellsP (s : List UInt8) (hs : s.length < 2 ^ 40) : ∃ (p : Pa) (e : Option Nat), PCall Tryz.prog 8 [str s] (pairV (.agg (paC p)) e) ∧ PCall Tryz.prog 15 [str s] (.tup [.agg (paC p), i64V (codeOf e)]) ∧ PaBd p ∧ ∀ e ∈ p.els, ElGood e := by
  have a1 := parsepattern_call s hs
  have a2 := refparsepattern_call s hs
  cases h : parsePaE s with
  | error k =>
    rw [h] at a1 a2
    exact ⟨pa0, some k, a1, a2, paBd_of (by decide) (fun e he => by cases he) (by unfold I64; decide), fun e he => by cases he⟩
  | ok p =>
    rw [h] at a1 a2
    rw [parsePaE] at h
    cases hc : cutW s with
    | error k => rw [hc] at h; cases h
    | ok l =>
      rw [hc] at h
      simp only at h
      obtain ⟨hl, hlen⟩ := cutW_ok hc
      cases hp : patE s l 0 with
      | error k => rw [hp] at h; cases h
      | ok r =>
        obtain ⟨q, l', n'⟩ := r
        rw [hp, endE] at h
        by_cases h0 : l' = []
        · rw [if_pos h0] at h
          simp only at h
          by_cases hi : isPaB q = true
          · rw [if_pos hi] at h
            cases h
            exact ⟨p, none, a1, a2, (patE_ok hl hlen hp).1, (pa_good hi).1⟩
          · rw [if_neg hi] at h; cases h
        · rw [if_neg h0] at h; cases h

set_option maxRecDepth 100000 in
theorem parsetells_call (s t : List UInt8) : PCall Tryz.prog 6 [str s, str t] (bV true) := by
  refine scall_of (live := []) (ords := [(5, []), (6, []), (7, []), (8, []), (9, [])]) Tryz.func6 rfl (by kernel_rfl) (by kernel_rfl) (Nat.le_of_ble_eq_true rfl) ?_
  (conv => arg 2; whnf); refine wp_pcall known9_call ?_
  (repeat ((conv => arg 2; whnf); first | refine wp_ite (fun _ => ?_) (fun h => Bool.noConfusion h) | refine wp_ite (fun h => Bool.noConfusion h) (fun _ => ?_)))
  (conv => arg 2; whnf); refine wp_ite (fun h6 => ?_) (fun h6 => ?_)
  · (repeat ((conv => arg 2; whnf); first | refine wp_ite (fun _ => ?_) (fun h => Bool.noConfusion h) | refine wp_ite (fun h => Bool.noConfusion h) (fun _ => ?_)))
    (conv => arg 2; whnf); refine w_ret1 rfl (Vle.refl _) (List.nil_sublist _) rfl
  (conv => arg 2; whnf); refine wp_ite (fun h7 => ?_) (fun h7 => ?_)
  · (conv => arg 2; whnf); refine w_ret1 rfl (Vle.refl _) (List.nil_sublist _) rfl
  have h6 : s.length ≤ 600 := by have := of_decide_eq_false h6; rw [S_size] at this; omega
  have h7 : t.length ≤ 600 := by have := of_decide_eq_false h7; rw [S_size] at this; omega
  obtain ⟨x, e, f1, f2, hx1, hx2⟩ := tellsE s (by omega)
  obtain ⟨p, g, f3, f4, hp1, hp2⟩ := tellsP t (by omega)
  have f5 := refsameC_call x x hx1 hx2
  have hs5 : sameB 5 x x = true := by
    rcases hx2 with rfl | ⟨_, h⟩
    · rfl
    · exact (sameB_iff 5 x x h).2 rfl
  rw [hs5] at f5
  have f6 := samepattern_call p p hp1 hp2
  rw [show samePaB p p = true from (samePa_iff hp2).2 rfl] at f6
  have f7 := code_call e
  have f8 := code_call g
  (conv => arg 2; whnf); refine wp_cutR (frL [(0, str s), (1, str t)]) [] (.cons (.refl _) (.cons (.refl _) (.nil _))) (List.Sublist.refl _) ?_
  (conv => arg 2; whnf); refine wp_pcall f1 ?_
  (conv => arg 2; whnf); refine wp_allocE exZ rfl fun a => ?_
  (conv => arg 2; whnf); refine wp_storeE (cs := exZ) 0 0 (exC x) rfl rfl (VleL.refl _) (Nat.le_refl _) rfl (R' := [.obj a (exC x)]) rfl ?_
  (conv => arg 2; whnf); refine wp_cutR (frL [(0, str s), (1, str t), (5, .loc a 0), (6, .c (errV e))]) [.obj a (exC x)] (.cons (.refl _) (.cons (.refl _) (.cons (.refl _) (.cons (.refl _) (.nil _))))) (List.Sublist.refl _) ?_
  (conv => arg 2; whnf); refine wp_pcall f2 ?_
  (conv => arg 2; whnf); refine wp_allocE exZ rfl fun b => ?_
  (conv => arg 2; whnf); refine wp_storeE (cs := exZ) 1 0 (exC x) rfl rfl (VleL.refl _) (Nat.le_refl _) rfl (R' := [.obj a (exC x), .obj b (exC x)]) rfl ?_
  (conv => arg 2; whnf); refine wp_cutR (frL [(1, str t), (5, .loc a 0), (6, .c (errV e)), (7, .loc b 0), (8, i64V (codeOf e))]) [.obj a (exC x), .obj b (exC x)] (.cons (.refl _) (.cons (.refl _) (.cons (.refl _) (.cons (.refl _) (.cons (.refl _) (.nil _)))))) (List.Sublist.refl _) ?_
  (conv => arg 2; whnf); refine wp_pcall f3 ?_
  (conv => arg 2; whnf); refine wp_allocE pZ rfl fun c => ?_
  (conv => arg 2; whnf); refine wp_storeE (cs := pZ) 2 0 (paC p) rfl rfl (VleL.refl _) (Nat.le_refl _) rfl (R' := [.obj a (exC x), .obj b (exC x), .obj c (paC p)]) rfl ?_
  (conv => arg 2; whnf); refine wp_cutR (frL [(1, str t), (5, .loc a 0), (6, .c (errV e)), (7, .loc b 0), (8, i64V (codeOf e)), (9, .loc c 0), (10, .c (errV g))]) [.obj a (exC x), .obj b (exC x), .obj c (paC p)] (.cons (.refl _) (.cons (.refl _) (.cons (.refl _) (.cons (.refl _) (.cons (.refl _) (.cons (.refl _) (.cons (.refl _) (.nil _)))))))) (List.Sublist.refl _) ?_
  (conv => arg 2; whnf); refine wp_pcall f4 ?_
  (conv => arg 2; whnf); refine wp_allocE pZ rfl fun d => ?_
  (conv => arg 2; whnf); refine wp_storeE (cs := pZ) 3 0 (paC p) rfl rfl (VleL.refl _) (Nat.le_refl _) rfl (R' := [.obj a (exC x), .obj b (exC x), .obj c (paC p), .obj d (paC p)]) rfl ?_
  (conv => arg 2; whnf); refine wp_cutR (frL [(5, .loc a 0), (6, .c (errV e)), (7, .loc b 0), (8, i64V (codeOf e)), (9, .loc c 0), (10, .c (errV g)), (11, .loc d 0), (12, i64V (codeOf g))]) [.obj a (exC x), .obj b (exC x), .obj c (paC p), .obj d (paC p)] (.cons (.refl _) (.cons (.refl _) (.cons (.refl _) (.cons (.refl _) (.cons (.refl _) (.cons (.refl _) (.cons (.refl _) (.cons (.refl _) (.nil _))))))))) (List.Sublist.refl _) ?_
  (conv => arg 2; whnf); refine wp_load (cs := exC x) 0 rfl rfl ?_
  (conv => arg 2; whnf); refine wp_load (cs := exC x) 1 rfl rfl ?_
  (conv => arg 2; whnf); refine wp_pcall f5 ?_
  (repeat ((conv => arg 2; whnf); first | refine wp_ite (fun _ => ?_) (fun h => Bool.noConfusion h) | refine wp_ite (fun h => Bool.noConfusion h) (fun _ => ?_)))
  (conv => arg 2; whnf); refine wp_pcall f7 ?_
  (conv => arg 2; whnf); refine wp_ite (fun _ => ?_) (fun h => by simp at h)
  (conv => arg 2; whnf); refine wp_load (cs := paC p) 2 rfl rfl ?_
  (conv => arg 2; whnf); refine wp_load (cs := paC p) 3 rfl rfl ?_
  (conv => arg 2; whnf); refine wp_pcall f6 ?_
  (repeat ((conv => arg 2; whnf); first | refine wp_ite (fun _ => ?_) (fun h => Bool.noConfusion h) | refine wp_ite (fun h => Bool.noConfusion h) (fun _ => ?_)))
  (conv => arg 2; whnf); refine wp_pcall f8 ?_
  (conv => arg 2; whnf); refine w_ret1 rfl (Vle.eq (cBool (by simp))) (List.nil_sublist _) rfl
end Go.Sv
