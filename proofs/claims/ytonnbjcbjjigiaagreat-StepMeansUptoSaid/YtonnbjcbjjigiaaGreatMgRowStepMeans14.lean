/- Parts of the proof, one behind the other. -/
import Derived.Test.YtonnbjcbjjigiaaGreatMgRowStepMeans13
import Derived.Test.YtonnbjcbjjigiaaGreatMgRowStepMeans11
import Derived.Test.YtonnbjcbjjigiaaGreatMgRowStepMeans5
namespace Go.Sv
open Go
structure KOk (s : Sc) (p : Pa) (k : List Kp) : Prop where
  pf : PfOk s p
  ev : EvsOk s k
  rise : RiseK k
  mono : k.Pairwise fun a b => a.e.ts ≤ b.e.ts
theorem KOk.pre {s : Sc} {p : Pa} {k : List Kp} (h : KOk s p k) (n : Nat) : KOk s p (k.take n) :=
  ⟨h.pf, fun x hx => h.ev x (List.mem_of_mem_take hx), h.rise.sublist (List.take_sublist _ _), h.mono.sublist (List.take_sublist _ _)⟩
theorem KOk.init {s : Sc} {p : Pa} {l : List Kp} {x : Kp} (h : KOk s p (l ++ [x])) : KOk s p l :=
  ⟨h.pf, fun y hy => h.ev y (List.mem_append_left _ hy), (List.pairwise_append.1 h.rise).1, (List.pairwise_append.1 h.mono).1⟩
def LiveE (s : Sc) (p : Pa) (l : List Kp) (b : List Bd) : Prop :=
  preR s p l b = true ∧ goesOn p b = true ∧ (p.any = true ∨ ∀ t, ¬ SkipE s p l b t) ∧ (lastKp l).e.ts - (firstEv l b).ts ≤ p.within
def InvE (s : Sc) (p : Pa) (l : List Kp) (r : List (List Bd)) : Prop := StrictR r ∧ ∀ b, b ∈ r ↔ LiveE s p l b
theorem lastKp_snoc (l : List Kp) (x : Kp) : lastKp (l ++ [x]) = x := by unfold lastKp; simp
theorem with_iff {s : Sc} {p : Pa} {l : List Kp} {x : Kp} {c b : List Bd} {k : Nat} : withE s p (l ++ [x]) c k = some b ↔ b = c ++ [⟨k, x.at_⟩] ∧ prefE s p (l ++ [x]) b = true := by
  have hg : grown (l ++ [x]) c k = c ++ [⟨k, x.at_⟩] := by rw [grown, lastKp_snoc]
  have hp : prefE s (anyP p) (l ++ [x]) (c ++ [⟨k, x.at_⟩]) = prefE s p (l ++ [x]) (c ++ [⟨k, x.at_⟩]) := rfl
  rw [withE, if_neg (by simp), hg, hp]
  constructor
  · intro h
    split at h
    · rename_i h1; cases h; exact ⟨rfl, h1⟩
    · cases h
  · rintro ⟨rfl, h⟩; rw [if_pos h]
theorem goes_on {s : Sc} {p : Pa} {l : List Kp} {c : List Bd} {k : Nat} {t : Int} (h0 : c ≠ []) (h : goesE s p l c ⟨k, t⟩ = true) : goesOn p c = true ∧ k ∈ elemsE p (lastBd c).elem := by
  obtain ⟨e, he, hlen, h1⟩ := goesE_some h
  rcases h1 with ⟨h1, _⟩ | ⟨_, _, h2, _⟩
  · exact absurd h1 h0
  · rcases h2 with h2 | h2
    · unfold sameE at h2
      rw [Bool.and_eq_true, decide_eq_true_iff] at h2
      refine ⟨?_, by rw [elemsE, ← h2.1]; simp⟩
      unfold goesOn
      cases hd : doneE p c with
      | false => rfl
      | true =>
        rw [doneE, Bool.and_eq_true, decide_eq_true_iff, decide_eq_true_iff] at hd
        have : lastPlus p = true := by rw [lastPlus, ← hd.2, Nat.add_sub_cancel]; exact h2.2
        rw [this]; rfl
    · have hn := nextI_nat h2
      have := nextE_some hn
      refine ⟨?_, by rw [elemsE, hn]; simp⟩
      unfold goesOn
      have : doneE p c = false := by
        rw [doneE, Bool.and_eq_false_iff]
        right
        exact decide_eq_false (by omega)
      rw [this]; rfl
theorem split_last {α : Type} {b : List α} (h : b ≠ []) : ∃ c y, b = c ++ [y] := by
  induction b using snoc_ind with
  | h0 => exact absurd rfl h
  | h1 c y _ => exact ⟨c, y, rfl⟩
section
variable {s : Sc} {p : Pa} {l : List Kp} {x : Kp}
theorem lt_x (h : KOk s p (l ++ [x])) {k : Kp} (hk : k ∈ l) : k.at_ < x.at_ := (List.pairwise_append.1 h.rise).2.2 k hk x (by simp)
theorem ts_x (h : KOk s p (l ++ [x])) {k : Kp} (hk : k ∈ l) : k.e.ts ≤ x.e.ts := (List.pairwise_append.1 h.mono).2.2 k hk x (by simp)
theorem evx_x (h : KOk s p (l ++ [x])) : Evx l (l ++ [x]) (x.at_ - 1) := ⟨[x], rfl, fun k hk => by rw [List.mem_singleton.1 hk]; omega⟩
theorem ats_x (h : KOk s p (l ++ [x])) {i : Int} (hi : (atE (l ++ [x]) i).isSome = true) : i ≤ x.at_ := by
  obtain ⟨e, he⟩ := Option.isSome_iff_exists.1 hi
  obtain ⟨k, hk, _, rfl⟩ := at_mem he
  rcases List.mem_append.1 hk with hk | hk
  · have := lt_x h hk; omega
  · rw [List.mem_singleton.1 hk]; exact Int.le_refl _
theorem ats_l (h : KOk s p (l ++ [x])) {i : Int} (hi : (atE l i).isSome = true) : i ≤ x.at_ - 1 := by
  obtain ⟨e, he⟩ := Option.isSome_iff_exists.1 hi
  obtain ⟨k, hk, _, rfl⟩ := at_mem he
  have := lt_x h hk; omega
theorem pre_l (h : KOk s p (l ++ [x])) {b : List Bd} (hb : preR s p l b = true) : (∀ y ∈ b, y.at_ ≤ x.at_ - 1) ∧ preR s p (l ++ [x]) b = true := by
  obtain ⟨h1, _⟩ := pre_ats h.pf h.init.ev h.init.rise hb
  have h2 : ∀ y ∈ b, y.at_ ≤ x.at_ - 1 := fun y hy => ats_l h (h1.at_ y hy)
  exact ⟨h2, (ext_pre h.pf (evx_x h) h.ev h.rise b h2).2 hb⟩
theorem pre_back (h : KOk s p (l ++ [x])) {b : List Bd} (hb : preR s p (l ++ [x]) b = true) (hlt : (lastBd b).at_ < x.at_) : (∀ y ∈ b, y.at_ ≤ x.at_ - 1) ∧ preR s p l b = true := by
  obtain ⟨h1, _⟩ := pre_ats h.pf h.ev h.rise hb
  have h2 : ∀ y ∈ b, y.at_ ≤ x.at_ - 1 := fun y hy => by have := (h1.el y hy).2; omega
  exact ⟨h2, (ext_pre h.pf (evx_x h) h.ev h.rise b h2).1 hb⟩
theorem late_x (h : KOk s p (l ++ [x])) {b : List Bd} (hb : preR s p (l ++ [x]) b = true) : lateE p (l ++ [x]) b = decide (x.e.ts - (firstEv (l ++ [x]) b).ts > p.within) := by
  obtain ⟨h1, h0⟩ := pre_ats h.pf h.ev h.rise hb
  have := (first_ok h.ev h0 h1).2
  unfold lateE
  rw [if_neg (by simp [h0]), this, lastKp_snoc]
theorem l_ne {b : List Bd} (h : preR s p l b = true) (hk : KOk s p l) : l ≠ [] := fun e => by
  obtain ⟨h1, h0⟩ := pre_ats hk.pf hk.ev hk.rise h
  obtain ⟨y, hy⟩ := List.exists_mem_of_ne_nil b h0
  have := h1.at_ y hy
  rw [e] at this; cases this
theorem made_iff (h : KOk s p (l ++ [x])) {r : List (List Bd)} (hI : ∀ b, b ∈ r ↔ LiveE s p l b) (b : List Bd) : b ∈ madeE s p (l ++ [x]) r ↔ preR s p (l ++ [x]) b = true ∧ (lastBd b).at_ = x.at_ := by
  have hx : atE (l ++ [x]) x.at_ = some x.e := rise_at h.rise (by simp)
  unfold madeE takesE'
  rw [List.mem_append, List.mem_flatMap]
  constructor
  · rintro (⟨c, hc, hb⟩ | hb)
    · obtain ⟨hcr, hcl⟩ := List.mem_filter.1 hc
      obtain ⟨g1, g2, g3, g4⟩ := (hI c).1 hcr
      obtain ⟨ha, hpc⟩ := pre_l h g1
      unfold takeE at hb
      split at hb
      · cases hb
      · rename_i hc0
        obtain ⟨k, hk, hw⟩ := List.mem_filterMap.1 hb
        obtain ⟨rfl, hpre⟩ := with_iff.1 hw
        have hg := (pre0_snoc.1 hpre).2
        refine ⟨(preR_snoc h.pf h.ev h.rise (.inr (preR_pref h.pf h.ev h.rise c hpc))).2 ⟨.inr hpc, hg, .inr ?_⟩, by rw [lastBd_snoc]⟩
        rcases g3 with g3 | g3
        · exact .inl g3
        · right
          rw [ext_skip (evx_x h) ha (show x.at_ ≤ x.at_ - 1 + 1 by omega)]
          exact g3 _
    · rw [Option.mem_toList] at hb
      obtain ⟨rfl, hpre⟩ := with_iff.1 hb
      have hg := (pre0_snoc.1 hpre).2
      exact ⟨(preR_snoc h.pf h.ev h.rise (.inl rfl)).2 ⟨.inl rfl, hg, .inl rfl⟩, rfl⟩
  · rintro ⟨hb, hat⟩
    have hne : b ≠ [] := (pre_ats h.pf h.ev h.rise hb).2
    obtain ⟨c, y, rfl⟩ : ∃ c y, b = c ++ [y] := split_last hne
    rw [lastBd_snoc] at hat
    have hy : y = ⟨y.elem, x.at_⟩ := by cases y; simp at hat; simp [hat]
    have hpf := preR_pref h.pf h.ev h.rise _ hb
    have hpre0 := (pre0_snoc.1 hpf).1
    obtain ⟨g1, g2, g3⟩ := (preR_snoc h.pf h.ev h.rise hpre0).1 hb
    by_cases hc0 : c = []
    · right
      subst hc0
      obtain ⟨e, he, hlen, h1⟩ := goesE_some g2
      have h0 : y.elem = 0 := h1.elim (fun h => h.2.1) (fun h => absurd rfl h.1)
      rw [Option.mem_toList]
      refine with_iff.2 ⟨by rw [hy, h0], hpf⟩
    · left
      have hpc := g1.resolve_left hc0
      obtain ⟨e, he, hlen, h1⟩ := goesE_some g2
      obtain ⟨_, hlt, _, hts, _⟩ := h1.resolve_left (fun h => hc0 h.1)
      rw [hat] at hlt he
      rw [hx] at he
      cases he
      obtain ⟨ha, hpl⟩ := pre_back h hpc hlt
      have hfe : firstEv (l ++ [x]) c = firstEv l c := ext_first (evx_x h) hc0 ha
      have hgo := goes_on hc0 (by rw [hy] at g2; exact g2)
      refine ⟨c, List.mem_filter.2 ⟨(hI c).2 ⟨hpl, hgo.1, ?_, ?_⟩, ?_⟩, ?_⟩
      · rcases g3.resolve_left hc0 with g3 | g3
        · exact .inl g3
        · right
          rintro t ⟨z, hz, z1, _, z3⟩
          refine g3 ((ext_skip (evx_x h) ha (by omega)).2 ⟨z, hz, z1, ?_, z3⟩)
          rw [hat]; exact lt_x h hz
      · have hl := l_ne hpl h.init
        have := ts_x h (lastKp_mem hl)
        rw [← hfe]; omega
      · rw [late_x h hpc]
        simp; omega
      · unfold takeE
        rw [if_neg hc0]
        exact List.mem_filterMap.2 ⟨y.elem, hgo.2, with_iff.2 ⟨by rw [hy], hpf⟩⟩
theorem take_nil (h : KOk s p (l ++ [x])) {b : List Bd} (hb : preR s p (l ++ [x]) b = true) : takeE s p (l ++ [x]) b = [] ↔ ∀ k ∈ elemsE p (lastBd b).elem, goesE s p (l ++ [x]) b ⟨k, x.at_⟩ = false := by
  have h0 := (pre_ats h.pf h.ev h.rise hb).2
  have hpf := preR_pref h.pf h.ev h.rise _ hb
  unfold takeE
  rw [if_neg h0, List.filterMap_eq_nil_iff]
  refine forall_congr' fun k => imp_congr Iff.rfl ?_
  constructor
  · intro hn
    cases hg : goesE s p (l ++ [x]) b ⟨k, x.at_⟩ with
    | false => rfl
    | true =>
      have : withE s p (l ++ [x]) b k = some (b ++ [⟨k, x.at_⟩]) := with_iff.2 ⟨rfl, pre0_snoc.2 ⟨.inr hpf, hg⟩⟩
      rw [this] at hn; cases hn
  · intro hg
    cases hw : withE s p (l ++ [x]) b k with
    | none => rfl
    | some c =>
      obtain ⟨rfl, hpre⟩ := with_iff.1 hw
      rw [(pre0_snoc.1 hpre).2] at hg; cases hg
theorem stay_iff (h : KOk s p (l ++ [x])) {r : List (List Bd)} (hI : ∀ b, b ∈ r ↔ LiveE s p l b) (b : List Bd) : b ∈ stayE s p (l ++ [x]) r ↔ LiveE s p (l ++ [x]) b ∧ (lastBd b).at_ < x.at_ := by
  unfold stayE liveE
  rw [List.mem_filter, List.mem_filter]
  constructor
  · rintro ⟨⟨hr, hlate⟩, hst⟩
    obtain ⟨g1, g2, g3, g4⟩ := (hI b).1 hr
    obtain ⟨ha, hpc⟩ := pre_l h g1
    have hb0 := (pre_ats h.pf h.ev h.rise hpc).2
    have hlt : (lastBd b).at_ < x.at_ := by have := ha _ (List.mem_of_getElem? (last_at hb0)); omega
    rw [late_x h hpc] at hlate
    refine ⟨⟨hpc, g2, ?_, by rw [lastKp_snoc]; simpa using hlate⟩, hlt⟩
    rcases g3 with g3 | g3
    · exact .inl g3
    · by_cases hany : p.any = true
      · exact .inl hany
      · right
        have htk : takeE s p (l ++ [x]) b = [] := by
          unfold stayB at hst
          rw [Bool.or_eq_true] at hst
          exact List.isEmpty_iff.1 (hst.resolve_left hany)
        rw [take_nil h hpc] at htk
        rintro t ⟨y, hy, y1, y2, k, hk, hg⟩
        rcases List.mem_append.1 hy with hy | hy
        · refine g3 (y.at_ + 1) ⟨y, hy, y1, by omega, k, hk, ?_⟩
          rw [← ext_goes (evx_x h) ha (show (⟨k, y.at_⟩ : Bd).at_ ≤ x.at_ - 1 by have := lt_x h hy; show y.at_ ≤ _; omega)]
          exact hg
        · rw [List.mem_singleton.1 hy] at hg
          rw [htk k hk] at hg; cases hg
  · rintro ⟨⟨hpc, g2, g3, g4⟩, hlt⟩
    obtain ⟨ha, hpl⟩ := pre_back h hpc hlt
    have hb0 := (pre_ats h.pf h.ev h.rise hpc).2
    have hfe : firstEv (l ++ [x]) b = firstEv l b := ext_first (evx_x h) hb0 ha
    rw [lastKp_snoc] at g4
    refine ⟨⟨(hI b).2 ⟨hpl, g2, ?_, ?_⟩, ?_⟩, ?_⟩
    · rcases g3 with g3 | g3
      · exact .inl g3
      · right
        rintro t ⟨y, hy, y1, y2, k, hk, hg⟩
        refine g3 t ⟨y, List.mem_append_left _ hy, y1, y2, k, hk, ?_⟩
        rw [ext_goes (evx_x h) ha (show (⟨k, y.at_⟩ : Bd).at_ ≤ x.at_ - 1 by have := lt_x h hy; show y.at_ ≤ _; omega)]
        exact hg
    · have hl := l_ne hpl h.init
      have := ts_x h (lastKp_mem hl)
      rw [← hfe]; omega
    · rw [late_x h hpc]
      simp; omega
    · unfold stayB
      rw [Bool.or_eq_true]
      rcases g3 with g3 | g3
      · exact .inl g3
      · right
        rw [List.isEmpty_iff, take_nil h hpc]
        intro k hk
        cases hg : goesE s p (l ++ [x]) b ⟨k, x.at_⟩ with
        | false => rfl
        | true => exact absurd ⟨x, by simp, hlt, by omega, k, hk, hg⟩ (g3 (x.at_ + 1))
theorem step_inv (h : KOk s p (l ++ [x])) {r r' m : List (List Bd)} (hI : InvE s p l r) (hs : stepE s p (l ++ [x]) r = some (r', m)) :
    InvE s p (l ++ [x]) r' ∧ StrictR m ∧ ∀ b, b ∈ m ↔ preR s p (l ++ [x]) b = true ∧ (lastBd b).at_ = x.at_ ∧ doneE p b = true := by
  have hx : atE (l ++ [x]) x.at_ = some x.e := rise_at h.rise (by simp)
  have hm := made_iff h hI.2
  have hst := stay_iff h hI.2
  have hs2 : r' = sortedE (stayE s p (l ++ [x]) r ++ (sortedE (madeE s p (l ++ [x]) r)).filter (goesOn p)) ∧ m = (sortedE (madeE s p (l ++ [x]) r)).filter (doneE p) := by
    unfold stepE at hs
    split at hs
    · cases hs
    · split at hs
      · cases hs
      · cases hs; exact ⟨rfl, rfl⟩
  obtain ⟨rfl, rfl⟩ := hs2
  refine ⟨⟨strict_sortedE _, fun b => ?_⟩, (strict_sortedE _).sublist List.filter_sublist, fun b => ?_⟩
  · rw [mem_sortedE, List.mem_append, List.mem_filter, mem_sortedE, hst, hm]
    constructor
    · rintro (h1 | ⟨⟨h1, h2⟩, h3⟩)
      · exact h1.1
      · refine ⟨h1, h3, .inr ?_, ?_⟩
        · rintro t ⟨y, hy, y1, _⟩
          have : y.at_ ≤ x.at_ := ats_x h (by rw [rise_at h.rise hy]; rfl)
          omega
        · rw [lastKp_snoc]
          have hne : b ≠ [] := (pre_ats h.pf h.ev h.rise h1).2
          obtain ⟨c, y, rfl⟩ : ∃ c y, b = c ++ [y] := split_last hne
          rw [lastBd_snoc] at h2
          have hpre0 := (pre0_snoc.1 (preR_pref h.pf h.ev h.rise _ h1)).1
          obtain ⟨_, g2, _⟩ := (preR_snoc h.pf h.ev h.rise hpre0).1 h1
          obtain ⟨e, he, _, h4⟩ := goesE_some g2
          rw [h2, hx] at he
          cases he
          by_cases hc : c = []
          · subst hc
            have : firstEv (l ++ [x]) ([] ++ [y]) = x.e := by
              unfold firstEv
              show (atE (l ++ [x]) y.at_).getD ev0 = _
              rw [h2, hx]; rfl
            rw [this]
            have := h.pf.within
            omega
          · rw [firstEv_snoc hc]
            exact (h4.resolve_left fun h => hc h.1).2.2.2.1
    · intro hL
      obtain ⟨hb1, hb0⟩ := pre_ats h.pf h.ev h.rise hL.1
      have hle : (lastBd b).at_ ≤ x.at_ := ats_x h (hb1.at_ _ (List.mem_of_getElem? (last_at hb0)))
      by_cases hlt : (lastBd b).at_ < x.at_
      · exact .inl ⟨hL, hlt⟩
      · exact .inr ⟨⟨hL.1, by omega⟩, hL.2.1⟩
  · rw [List.mem_filter, mem_sortedE, hm, and_assoc]
theorem inv_nil {k : List Kp} (hk : KOk s p k) : InvE s p [] [] := ⟨List.Pairwise.nil, fun b => ⟨fun h => by (cases h), fun h => by
  have hk0 : KOk s p [] := hk.pre 0
  exact absurd rfl (l_ne h.1 hk0)⟩⟩
end
end Go.Sv
namespace Go.Sv
open Go
theorem take_snoc {α : Type} {k : List α} {i : Nat} {x : α} (h : k[i]? = some x) : k.take (i + 1) = k.take i ++ [x] := by
  rw [List.take_add_one, h]; rfl
theorem allGo_sem {s : Sc} {p : Pa} {k : List Kp} (hk : KOk s p k) : ∀ (n i : Nat) (r : List (List Bd)) (out ms : List (List (List Bd))), i + n = k.length → InvE s p (k.take i) r → allGo s p k n i r out = (ms, none) →
    ∃ o, ms = out ++ o ∧ o.length = n ∧ ∀ j x, j < n → k[i + j]? = some x → ∃ m, o[j]? = some m ∧ StrictR m ∧ ∀ b, b ∈ m ↔ preR s p (k.take (i + j + 1)) b = true ∧ (lastBd b).at_ = x.at_ ∧ doneE p b = true
  | 0, i, r, out, ms, _, _, h => by
    rw [allGo] at h
    cases h
    exact ⟨[], by simp, rfl, fun j x hj => by omega⟩
  | n + 1, i, r, out, ms, hi, hI, h => by
    rw [allGo] at h
    obtain ⟨x, hx⟩ : ∃ x, k[i]? = some x := ⟨_, List.getElem?_eq_getElem (by omega)⟩
    cases hs : stepE s p (k.take (i + 1)) r with
    | none => rw [hs] at h; cases h
    | some y =>
      obtain ⟨r', m⟩ := y
      rw [hs] at h
      have hsn := take_snoc hx
      have hk2 : KOk s p (k.take i ++ [x]) := hsn ▸ hk.pre (i + 1)
      rw [hsn] at hs
      obtain ⟨h1, h2, h3⟩ := step_inv hk2 hI hs
      rw [← hsn] at h1 h3
      obtain ⟨o, ho, hlen, hall⟩ := allGo_sem hk n (i + 1) r' (out ++ [m]) ms (by omega) h1 h
      refine ⟨m :: o, by rw [ho]; simp, by simp [hlen], fun j x' hj hx' => ?_⟩
      cases j with
      | zero =>
        rw [Nat.add_zero, hx] at hx'
        cases hx'
        exact ⟨m, rfl, h2, h3⟩
      | succ j =>
        have := hall j x' (by omega) (by rw [show i + 1 + j = i + (j + 1) by omega]; exact hx')
        rw [show i + 1 + j = i + (j + 1) by omega] at this
        exact this
theorem all_sem {s : Sc} {p : Pa} {k : List Kp} (hk : KOk s p k) {ms : List (List (List Bd))} (h : allE s p k = (ms, none)) :
    ms.length = k.length ∧ ∀ j x, k[j]? = some x → ∃ m, ms[j]? = some m ∧ StrictR m ∧ ∀ b, b ∈ m ↔ preR s p (k.take (j + 1)) b = true ∧ (lastBd b).at_ = x.at_ ∧ doneE p b = true := by
  obtain ⟨o, rfl, h1, h2⟩ := allGo_sem hk k.length 0 [] [] ms (by omega) (by rw [List.take_zero]; exact inv_nil hk) h
  refine ⟨by simpa using h1, fun j x hj => ?_⟩
  have := h2 j x (List.getElem?_eq_some_iff.1 hj).1 (by rw [Nat.zero_add]; exact hj)
  simpa using this
def StrictM (l : List (List Bd)) : Prop := l.Pairwise fun a b => befB a b = true
theorem bef_iff {a b : List Bd} : befB a b = true ↔ (lastBd a).at_ < (lastBd b).at_ ∨ ((lastBd a).at_ = (lastBd b).at_ ∧ ordR a b < 0) := by
  unfold befB lessR
  rw [Bool.or_eq_true, Bool.and_eq_true, decide_eq_true_iff, decide_eq_true_iff, decide_eq_true_iff]
theorem bef_irr (a : List Bd) : ¬ befB a a = true := by
  rw [bef_iff, (ordR_zero (a := a) (b := a)).2 rfl]; omega
theorem bef_asymm {a b : List Bd} (h : befB a b = true) : ¬ befB b a = true := by
  rw [bef_iff] at h ⊢
  have := ordR_swap a b
  omega
theorem bef_total {a b : List Bd} (h : befB a b = false) (hne : a ≠ b) : befB b a = true := by
  have h : ¬ befB a b = true := by rw [h]; decide
  rw [bef_iff] at h ⊢
  have h1 := ordR_swap a b
  have h2 : ordR a b ≠ 0 := fun e => hne (ordR_zero.1 e)
  omega
theorem bef_trans {a b c : List Bd} (h : befB a b = true) (h' : befB b c = true) : befB a c = true := by
  rw [bef_iff] at h h' ⊢
  rcases h with h | h <;> rcases h' with h' | h'
  · left; omega
  · left; omega
  · left; omega
  · right; exact ⟨by omega, ordR_trans h.2 h'.2⟩
theorem strictM_uniq : ∀ {a b : List (List Bd)}, StrictM a → StrictM b → (∀ x, x ∈ a ↔ x ∈ b) → a = b
  | [], [], _, _, _ => rfl
  | [], y :: b, _, _, h => by have := (h y).2 (by simp); cases this
  | x :: a, [], _, _, h => by have := (h x).1 (by simp); cases this
  | x :: a, y :: b, ha, hb, h => by
    have ha' := List.pairwise_cons.1 ha
    have hb' := List.pairwise_cons.1 hb
    have hxy : x = y := by
      rcases List.mem_cons.1 ((h x).1 (by simp)) with e | h1
      · exact e
      · rcases List.mem_cons.1 ((h y).2 (by simp)) with e | h2
        · exact e.symm
        · exact absurd (ha'.1 y h2) (bef_asymm (hb'.1 x h1))
    subst hxy
    rw [strictM_uniq ha'.2 hb'.2 fun z => ?_]
    constructor
    · intro hz
      rcases List.mem_cons.1 ((h z).1 (by simp [hz])) with e | h1
      · subst e; exact absurd (ha'.1 z hz) (bef_irr z)
      · exact h1
    · intro hz
      rcases List.mem_cons.1 ((h z).2 (by simp [hz])) with e | h1
      · subst e; exact absurd (hb'.1 z hz) (bef_irr z)
      · exact h1
theorem putR_iff : ∀ {l : List (List Bd)} {m z : List Bd}, z ∈ putR l m ↔ z = m ∨ z ∈ l
  | [], m, z => by simp [putR]
  | y :: l, m, z => by
    rw [putR]
    split
    · rw [List.mem_cons, putR_iff, List.mem_cons]
      constructor <;> (intro h; rcases h with h | h | h <;> simp [h])
    · split
      · rename_i h; subst h
        simp
      · simp
theorem putR_strict : ∀ {l : List (List Bd)} {m : List Bd}, StrictM l → StrictM (putR l m)
  | [], m, _ => List.pairwise_singleton _ _
  | y :: l, m, h => by
    have h' := List.pairwise_cons.1 h
    rw [putR]
    split
    · rename_i hb
      refine List.pairwise_cons.2 ⟨fun z hz => ?_, putR_strict h'.2⟩
      rcases putR_iff.1 hz with rfl | hz
      · exact hb
      · exact h'.1 z hz
    · split
      · exact h
      · rename_i hb hne
        have hmy : befB m y = true := bef_total (by simpa using hb) hne
        refine List.pairwise_cons.2 ⟨fun z hz => ?_, h⟩
        rcases List.mem_cons.1 hz with rfl | hz
        · exact hmy
        · exact bef_trans hmy (h'.1 z hz)
theorem foldl_mem {α β : Type} {h : List β → α → List β} {Q : α → β → Prop} {C : α → Prop} (hh : ∀ o a b, C a → (b ∈ h o a ↔ b ∈ o ∨ Q a b)) : ∀ (l : List α) (o : List β) (b : β), (∀ a ∈ l, C a) → (b ∈ l.foldl h o ↔ b ∈ o ∨ ∃ a ∈ l, Q a b)
  | [], o, b, _ => by simp
  | a :: l, o, b, hc => by
    rw [List.foldl_cons, foldl_mem hh l _ b (fun x hx => hc x (by simp [hx])), hh o a b (hc a (by simp))]
    constructor
    · rintro ((h | h) | ⟨x, hx, h⟩)
      · exact .inl h
      · exact .inr ⟨a, by simp, h⟩
      · exact .inr ⟨x, by simp [hx], h⟩
    · rintro (h | ⟨x, hx, h⟩)
      · exact .inl (.inl h)
      · rcases List.mem_cons.1 hx with rfl | hx
        · exact .inl (.inr h)
        · exact .inr ⟨x, hx, h⟩
theorem done_iff {p : Pa} (hpos : 0 < p.els.length) {c : List Bd} {k : Nat} {t : Int} : doneE p (c ++ [⟨k, t⟩]) = true ↔ k + 1 = p.els.length := by
  rw [doneE, lastBd_snoc, Bool.and_eq_true, decide_eq_true_iff, decide_eq_true_iff]
  simp
theorem preR_init {s : Sc} {p : Pa} {l : List Kp} {b : List Bd} (hb : b ≠ []) (c : List Bd) : preR s p l (b ++ c) = true → preR s p l b = true := by
  induction c using snoc_ind with
  | h0 => rw [List.append_nil]; exact id
  | h1 c x ih =>
    rw [← List.append_assoc]
    intro h
    exact ih ((preR_snoc0.1 h).1.resolve_left (by simp [hb]))
def Beyond (b c : List Bd) : Prop := ∃ d, d ≠ [] ∧ c = b ++ d
theorem grown_mem {s : Sc} {p : Pa} {l : List Kp} (hk : KOk s p l) : ∀ (f : Nat) (b : List Bd) (out : List (List Bd)) (z : List Bd), remE l b < f → (z ∈ grownR s p l f b out ↔ z ∈ out ∨ (Beyond b z ∧ preR s p l z = true ∧ doneE p z = true))
  | 0, _, _, _, h => by omega
  | f + 1, b, out, z, hrem => by
    rw [grownR, foldl_mem (C := fun x => x ∈ l) (Q := fun x z => ∃ k, k < p.els.length ∧ ∃ c, cand s p l b x k = some c ∧ ((k + 1 = p.els.length ∧ z = c) ∨ (Beyond c z ∧ preR s p l z = true ∧ doneE p z = true))) ?_ l out z (fun _ h => h)]
    · refine or_congr Iff.rfl ?_
      constructor
      · rintro ⟨x, hx, k, hkn, c, hc, h⟩
        obtain ⟨rfl, hnt, hat, hpre⟩ := cand_some hc
        rcases h with ⟨h1, rfl⟩ | ⟨⟨d, hd, rfl⟩, h2⟩
        · exact ⟨⟨_, by simp, rfl⟩, hpre, (done_iff hk.pf.pos).2 h1⟩
        · exact ⟨⟨_ :: d, by simp, by simp; rfl⟩, h2⟩
      · rintro ⟨⟨d, hd, rfl⟩, hpre, hdone⟩
        obtain ⟨y, d, rfl⟩ : ∃ y d', d = y :: d' := by cases d with | nil => exact absurd rfl hd | cons y d => exact ⟨y, d, rfl⟩
        have hc : preR s p l (b ++ [y]) = true := by
          have : b ++ y :: d = (b ++ [y]) ++ d := by simp
          rw [this] at hpre
          exact preR_init (by simp) d hpre
        obtain ⟨g1, g2, g3⟩ := preR_snoc0.1 hc
        have hpf := preR_pref hk.pf hk.ev hk.rise _ hc
        obtain ⟨hb0, hg⟩ := pre0_snoc.1 hpf
        obtain ⟨e, he, hlen, h4⟩ := goesE_some hg
        obtain ⟨x, hx, _, hxa⟩ := at_mem he
        have hy : y = ⟨y.elem, x.at_⟩ := by cases y; simp at hxa; simp [hxa]
        have hnt := (goes_elem hk.pf hb0 hg).2
        have hcand : cand s p l b x y.elem = some (b ++ [y]) := by
          unfold cand
          rw [if_neg, ← hy, if_pos hc]
          rintro (⟨h0, h5⟩ | h5)
          · have := (h4.resolve_left fun h => h0 h.1).2.1
            omega
          · rw [hnt] at h5; cases h5
        refine ⟨x, hx, y.elem, hlen, _, hcand, ?_⟩
        cases d with
        | nil =>
          left
          refine ⟨?_, rfl⟩
          rw [hy] at hdone
          exact (done_iff hk.pf.pos).1 hdone
        | cons w d => exact .inr ⟨⟨w :: d, by simp, by simp⟩, hpre, hdone⟩
    · intro o x z hx
      rw [rowG, foldl_mem (C := fun k => k < p.els.length) (Q := fun k z => ∃ c, cand s p l b x k = some c ∧ ((k + 1 = p.els.length ∧ z = c) ∨ (Beyond c z ∧ preR s p l z = true ∧ doneE p z = true))) ?_ _ o z (fun k hk => List.mem_range.1 hk)]
      · refine or_congr Iff.rfl (exists_congr fun k => and_congr List.mem_range Iff.rfl)
      · intro o k z hkn
        unfold stepG
        cases hc : cand s p l b x k with
        | none =>
          constructor
          · exact .inl
          · rintro (h | ⟨c, h, _⟩)
            · exact h
            · cases h
        | some c =>
          simp only
          have hrl : remE l c < f := by
            obtain ⟨e, _, hat, _⟩ := cand_some hc
            have := rem_lt (k := k) hx hat
            rw [← e] at this; omega
          rw [grown_mem hk f c _ z hrl]
          constructor
          · rintro (h | h)
            · split at h
              · rename_i h1
                rcases putR_iff.1 h with rfl | h
                · exact .inr ⟨_, rfl, .inl ⟨h1, rfl⟩⟩
                · exact .inl h
              · exact .inl h
            · exact .inr ⟨c, rfl, .inr h⟩
          · rintro (h | ⟨c', e, h⟩)
            · left
              split
              · exact putR_iff.2 (.inr h)
              · exact h
            · cases e
              rcases h with ⟨h1, rfl⟩ | h
              · left; rw [if_pos h1]; exact putR_iff.2 (.inl rfl)
              · exact .inr h
theorem grown_strict {s : Sc} {p : Pa} {l : List Kp} : ∀ (f : Nat) (b : List Bd) (out : List (List Bd)), StrictM out → StrictM (grownR s p l f b out)
  | 0, _, _, h => h
  | f + 1, b, out, h => by
    refine foldl_inv (fun o x ho => ?_) l out h
    refine foldl_inv (fun o k ho => ?_) _ o ho
    unfold stepG
    split
    · exact ho
    · refine grown_strict f _ _ ?_
      split
      · exact putR_strict ho
      · exact ho
theorem matches_mem {s : Sc} {p : Pa} {l : List Kp} (hk : KOk s p l) (z : List Bd) : z ∈ matchesR s p l ↔ preR s p l z = true ∧ doneE p z = true := by
  rw [matchesR, grown_mem hk _ _ _ _ (by unfold remE; rw [if_pos rfl]; omega)]
  constructor
  · rintro (h | h)
    · cases h
    · exact h.2
  · intro h
    exact .inr ⟨⟨z, (pre_ats hk.pf hk.ev hk.rise h.1).2, rfl⟩, h⟩
theorem told_all {s : Sc} {p : Pa} {k : List Kp} (hk : KOk s p k) {ms : List (List (List Bd))} (h : allE s p k = (ms, none)) : ms.flatten = matchesR s p k := by
  obtain ⟨hlen, hall⟩ := all_sem hk h
  have hat : ∀ {j : Nat} {m : List (List Bd)}, ms[j]? = some m → ∃ x, k[j]? = some x ∧ StrictR m ∧ ∀ b, b ∈ m ↔ preR s p (k.take (j + 1)) b = true ∧ (lastBd b).at_ = x.at_ ∧ doneE p b = true := fun {j m} hm => by
    have hj := (List.getElem?_eq_some_iff.1 hm).1
    obtain ⟨x, hx⟩ : ∃ x, k[j]? = some x := ⟨_, List.getElem?_eq_getElem (by omega)⟩
    obtain ⟨m', hm', h1⟩ := hall j x hx
    rw [hm] at hm'; cases hm'
    exact ⟨x, hx, h1⟩
  have hext : ∀ {j : Nat} {x : Kp}, k[j]? = some x → Evx (k.take (j + 1)) k x.at_ := fun {j x} hx => by
    refine ⟨k.drop (j + 1), (List.take_append_drop _ _).symm, fun y hy => ?_⟩
    obtain ⟨i, hi⟩ := List.mem_iff_getElem?.1 hy
    rw [List.getElem?_drop] at hi
    exact rise_lt hk.rise hx hi (by omega)
  refine strictM_uniq ?_ (grown_strict _ _ _ List.Pairwise.nil) fun b => ?_
  · unfold StrictM
    rw [List.pairwise_flatten]
    constructor
    · intro m hm
      obtain ⟨j, hj⟩ := List.mem_iff_getElem?.1 hm
      obtain ⟨x, hx, h1, h2⟩ := hat hj
      refine List.Pairwise.imp_of_mem ?_ h1
      intro a b ha hb hab
      rw [bef_iff]
      right
      rw [((h2 a).1 ha).2.1, ((h2 b).1 hb).2.1]
      exact ⟨rfl, hab⟩
    · rw [List.pairwise_iff_getElem]
      intro i j hi hj hij a ha b hb
      obtain ⟨x, hx, _, h1⟩ := hat (List.getElem?_eq_getElem hi)
      obtain ⟨y, hy, _, h2⟩ := hat (List.getElem?_eq_getElem hj)
      rw [bef_iff, ((h1 a).1 ha).2.1, ((h2 b).1 hb).2.1]
      exact .inl (rise_lt hk.rise hx hy hij)
  · rw [List.mem_flatten, matches_mem hk]
    constructor
    · rintro ⟨m, hm, hb⟩
      obtain ⟨j, hj⟩ := List.mem_iff_getElem?.1 hm
      obtain ⟨x, hx, _, h2⟩ := hat hj
      obtain ⟨g1, g2, g3⟩ := (h2 b).1 hb
      have hp := hk.pre (j + 1)
      obtain ⟨hb0, _⟩ := pre_ats hp.pf hp.ev hp.rise g1
      exact ⟨(ext_pre hk.pf (hext hx) hk.ev hk.rise b fun y hy => by rw [← g2]; exact (hb0.el y hy).2).2 g1, g3⟩
    · rintro ⟨g1, g3⟩
      obtain ⟨hb0, hne⟩ := pre_ats hk.pf hk.ev hk.rise g1
      obtain ⟨e, he⟩ := Option.isSome_iff_exists.1 (hb0.at_ _ (List.mem_of_getElem? (last_at hne)))
      obtain ⟨x, hx, _, hxa⟩ := at_mem he
      obtain ⟨j, hj⟩ := List.mem_iff_getElem?.1 hx
      obtain ⟨m, hm, _, h2⟩ := hall j x hj
      refine ⟨m, List.mem_of_getElem? hm, (h2 b).2 ⟨?_, hxa.symm, g3⟩⟩
      exact (ext_pre hk.pf (hext hj) hk.ev hk.rise b fun y hy => by rw [hxa]; exact (hb0.el y hy).2).1 g1
end Go.Sv
namespace Go.Sv
open Go Go.Proofs
theorem paBd_ok {p : Pa} (hp : PaBd p) (hrg : ∀ e ∈ p.els, exRg e.cond) : RfOkP p :=
  ⟨⟨by have := hp.1; omega, fun e he => by have := (hp.2.1 e he).2.1; omega, fun e he => (hp.2.1 e he).2.2.2.1, hrg, fun e he => (hp.2.1 e he).2.2.2.kids⟩, fun e he => (hp.2.1 e he).2.2.2⟩
theorem RfOkL.take {l : List Kp} (h : RfOkL l) (n : Nat) : RfOkL (l.take n) := ⟨h.toStOkL.take n, fun k hk => h.is k (List.mem_of_mem_take hk)⟩
theorem kept_kok {p : Pa} (hp : chkE baseS p = 0) {l : List Ev} (hl : l.length < 2 ^ 30) (hb : ∀ e ∈ l, EvBd e) {at_ : Int} (hs : strmB l = true) : KOk baseS p (keptE at_ l) := by
  refine ⟨(chk_pf hp).2, (kept_ok hl hb hs).2, kept_rise at_ l, ?_⟩
  unfold keptE
  rw [List.pairwise_map, List.pairwise_iff_getElem]
  intro i j hi hj hij
  rw [List.getElem_range, List.getElem_range]
  rw [List.length_range] at hj
  exact strm_mono hs (by omega) hj
theorem isPa_len {p : Pa} (h : isPaB p = true) : p.els.length ≤ 5 := by
  rw [isPaB, Bool.and_eq_true, Bool.and_eq_true] at h
  exact of_decide_eq_true h.2.1
end Go.Sv
namespace Go.Sv
open Go Go.Proofs
theorem allGo_err (s : Sc) (p : Pa) (l : List Kp) : ∀ (n i : Nat) (r : List (List Bd)) (out : List (List (List Bd))), (allGo s p l n i r out).2 = none ∨ (allGo s p l n i r out).2 = some 18
  | 0, _, _, _ => .inl rfl
  | n + 1, i, r, out => by
    rw [allGo]
    split
    · exact .inr rfl
    · exact allGo_err s p l n (i + 1) _ _
theorem flat_next {α : Type} {l : List (List α)} {n : Nat} {m : List α} (h : l[n]? = some m) : (l.take (n + 1)).flatten = (l.take n).flatten ++ m := by
  rw [List.take_add_one, h]; simp
theorem flat_le {α : Type} (l : List (List α)) (n : Nat) : (l.take n).flatten.length ≤ l.flatten.length := by
  rw [← List.take_append_drop n l, List.flatten_append, List.length_append]
  simp
theorem mss_at {l : List (List (List Bd))} {n : Nat} {m : List (List Bd)} (h : l[n]? = some m) : (l.map runsV)[n]? = some (runsV m) := by rw [List.getElem?_map, h]; rfl
set_option maxRecDepth 100000 in
set_option maxHeartbeats 8000000 in
theorem stepmeans_call (hC : CountsUp) (p : Pa) (hp : PaBd p) (hrg : ∀ e ∈ p.els, exRg e.cond) (l : List Ev) (hl : l.length < 2 ^ 30) (hb : ∀ e ∈ l, EvBd e) : PCall Tryz.prog 3 [.agg (paC p), evsV l] (bV true) := by
  have f0 := known16_call hC
  have fs := stream_call l hl hb 0 (by decide) (by decide)
  have fc := rcheck_call baseS base_ok p hp
  refine scall_of (live := []) (ords := [(5, []), (6, []), (7, []), (10, []), (18, []), (21, [])]) Tryz.func3 rfl (by kernel_rfl) (by kernel_rfl) (Nat.le_of_ble_eq_true rfl) ?_
  (conv=>arg 2;whnf);refine wp_pcall f0 ?_
  (repeat ((conv=>arg 2;whnf);first|refine wp_it rfl ?_|refine wp_if rfl ?_))
  (conv=>arg 2;whnf);refine wp_pcall base_call ?_
  (conv=>arg 2;whnf);refine wp_allocE scZ rfl fun d => ?_
  (conv=>arg 2;whnf);refine wp_storeE (cs := scZ) 0 0 (scC baseS) rfl rfl (VleL.refl _) (Nat.le_refl _) rfl (R' := [.obj d (scC baseS)]) rfl ?_
  cases hsb : strmB l with
  | false =>
    rw [streamR, hsb, if_neg (by decide)] at fs
    (conv=>arg 2;whnf);refine wp_pcall fs ?_
    (conv=>arg 2;whnf)
    refine wp_cutR (frL [(7, bV false)]) [] (.cons (.refl _) (.nil _)) (List.nil_sublist _) ?_
    (repeat ((conv=>arg 2;whnf);first|refine wp_it rfl ?_|refine wp_if rfl ?_))
    refine wp_cutR (frL []) [] (.nil _) (List.nil_sublist _) ?_
    (conv=>arg 2;whnf);refine w_ret1 rfl (Vle.refl _) (List.nil_sublist _) rfl
  | true =>
    rw [streamR, hsb, if_pos rfl] at fs
    obtain ⟨hkf, hke⟩ := kept_ok (at_ := 0) hl hb hsb
    obtain ⟨k, hkE⟩ : ∃ k, k = keptE 0 l := ⟨_, rfl⟩
    have hklen : k.length = l.length := by rw [hkE, kept_length]
    (conv=>arg 2;whnf);refine wp_pcall fs ?_
    rw [← hkE] at hkf hke ⊢
    (conv=>arg 2;whnf)
    refine wp_cutP (frL [(1, evsV l), (2, .pt (some 4) (.agg (paC p)) 0), (5, .pt (some 1) (scV baseS) 0), (6, kpsV k), (7, bV true)]) [] [.obj d (scC baseS)] (.cons (.refl _) (.cons (.refl _) (.cons (.all (List.Mem.head _) rfl (by decide) (VleL.refl _)) (.cons (.refl _) (.cons (.refl _) (.nil _)))))) ?_
    clear fs
    (repeat ((conv=>arg 2;whnf);first|refine wp_it rfl ?_|refine wp_if rfl ?_))
    (conv=>arg 2;whnf);refine wp_ite (fun h1 => ?_) (fun h1 => ?_)
    · (repeat ((conv=>arg 2;whnf);first|refine wp_it rfl ?_|refine wp_if rfl ?_))
      (conv=>arg 2;whnf)
      refine wp_cutR (frL []) [] (.nil _) (List.nil_sublist _) ?_
      (conv=>arg 2;whnf);refine w_ret1 rfl (Vle.refl _) (List.nil_sublist _) rfl
    have h7 : l.length ≤ 7 := by
      have := of_decide_eq_false h1
      rw [List.length_map] at this; omega
    (conv=>arg 2;whnf);refine wp_pcall fc ?_
    (conv=>arg 2;whnf);refine wp_ite (fun h2 => ?_) (fun h2 => ?_)
    · (conv=>arg 2;whnf)
      refine wp_cutR (frL []) [] (.nil _) (List.nil_sublist _) ?_
      (conv=>arg 2;whnf);refine w_ret1 rfl (Vle.refl _) (List.nil_sublist _) rfl
    have hc0 : chkE baseS p = 0 := bne_eq_false_iff_eq.1 h2
    have hkk : KOk baseS p k := hkE ▸ kept_kok hc0 hl hb hsb
    have hpf := paBd_ok hp hrg
    have hpn := hpf.n
    have h5 := isPa_len (chk_pf hc0).1
    have fa := all_call hC baseS base_ok p hpf.toStOkP k hkf.toStOkL (by omega)
    obtain ⟨ms, er, hae⟩ : ∃ ms er, allE baseS p k = (ms, er) := ⟨_, _, rfl⟩
    have her := allGo_err baseS p k k.length 0 [] []
    rw [show allGo baseS p k k.length 0 [] [] = (ms, er) from hae] at her
    rw [hae] at fa
    (conv=>arg 2;whnf)
    refine wp_cutR (frL [(2, .pt (some 4) (.agg (paC p)) 0), (5, .pt (some 1) (scV baseS) 0), (6, kpsV k)]) [] (.cons (.refl _) (.cons (.refl _) (.cons (.refl _) (.nil _)))) (List.nil_sublist _) ?_
    clear f0 fc h1 h2 hb hsb
    rcases her with rfl | rfl
    · obtain ⟨hmlen, hall⟩ := all_sem hkk hae
      have htold := told_all hkk hae
      have hn35 : k.length * p.els.length ≤ 35 := Nat.mul_le_mul (show k.length ≤ 7 by omega) h5
      have fm := rmatches_call baseS base_ok p hpf k hkf hn35 (by omega)
      have hrows : RowsR 200 (matchesR baseS p k) := grown_rows _ _ _ (by rw [List.length_nil]; omega) (fun y hy => by cases hy)
      have hlenM : (matchesR baseS p k).length ≤ 2 ^ 42 := by
        have h8 := grown_len (s := baseS) hn35 (k.length + 1) [] []
        have h9 : 36 ^ (k.length + 1) ≤ 36 ^ 8 := Nat.pow_le_pow_right (by decide) (by omega)
        have h10 : 36 ^ 8 ≤ 2 ^ 42 := by decide
        rw [List.length_nil] at h8
        rw [matchesR]; omega
      rw [← htold] at fm hrows hlenM
      have fsm := rsamem_call ms.flatten ms.flatten (by omega) (by omega) (fun x hx => by have := (hrows x hx).2; omega) (fun x hx => by have := (hrows x hx).2; omega)
      rw [decide_eq_true rfl] at fsm
      have elen : (((ms.map runsV).length : Int) == ((k.map kpV).length : Int)) = true := by rw [List.length_map, List.length_map, hmlen]; simp
      (conv=>arg 2;whnf);refine wp_pcall fa ?_
      (repeat ((conv=>arg 2;whnf);first|refine wp_it rfl ?_|refine wp_if rfl ?_))
      refine wp_cutR (frL [(2, .pt (some 4) (.agg (paC p)) 0), (5, .pt (some 1) (scV baseS) 0), (6, kpsV k), (8, mssV ms)]) [] (.cons (.refl _) (.cons (.refl _) (.cons (.refl _) (.cons (.refl _) (.nil _))))) (List.nil_sublist _) ?_
      (conv=>arg 2;whnf);refine wp_loop (fun m fr R => ∃ (i : Nat) (t : Option Nat), m = ms.length - i ∧ i ≤ ms.length ∧ (t = none → (ms.take i).flatten = []) ∧ R = [] ++ (tokR (some 1) t ++ []) ∧ fr = frL [(2, .pt (some 4) (.agg (paC p)) 0), (5, .pt (some 1) (scV baseS) 0), (6, kpsV k), (8, mssV ms), (10, .sl (shOf (some 1) t) ((ms.take i).flatten.map runV) (tkOf t)), (11, i64V i)])
        ms.length _ _ (.cons (.refl _) (.cons (.refl _) (.cons (.refl _) (.cons (.refl _) (.cons (.refl _) (.cons (.refl _) (.nil _))))))) (List.Sublist.refl _) ⟨0, none, rfl, Nat.zero_le _, fun _ => rfl, rfl, rfl⟩ ?_
      rintro m fr R ⟨i, t, rfl, hi, ht, rfl, rfl⟩
      (conv=>arg 2;whnf);refine wp_ite (fun h => ?_) (fun h => ?_)
      · have h : i < ms.length := by
          have := of_decide_eq_true h
          rw [List.length_map] at this; omega
        obtain ⟨x, hx⟩ : ∃ x, k[i]? = some x := ⟨_, List.getElem?_eq_getElem (by omega)⟩
        obtain ⟨mi, hmi, _, hmem⟩ := hall i x hx
        have hkt := hkk.pre (i + 1)
        have hel : ∀ b ∈ mi, b ≠ [] ∧ (lastBd b).at_ = x.at_ := fun b hb => by
          obtain ⟨g1, g2, _⟩ := (hmem b).1 hb
          exact ⟨(pre_ats hkt.pf hkt.ev hkt.rise g1).2, g2⟩
        have hfn := flat_next hmi
        have hfl := flat_le ms (i + 1)
        have hmil : mi.length ≤ 2 ^ 42 := by
          rw [hfn, List.length_append] at hfl; omega
        have hbl : ∀ b ∈ mi, b.length ≤ 200 := fun b hb => (hrows b (List.mem_flatten.2 ⟨mi, List.mem_of_getElem? hmi, hb⟩)).2
        have hsz : ((((ms.take i).flatten).map runV).length + (mi.map runV).length) * 24 ≤ 140737488355328 := by
          rw [List.length_map, List.length_map, ← List.length_append, ← hfn]; omega
        have hlt : ms.length - (i + 1) < ms.length - i := by omega
        have hi62 : i < 2 ^ 62 := by omega
        have hxs : t = none → ((ms.take i).flatten).map runV = [] := fun h => by rw [ht h]; rfl
        have hv : ∀ t', V.sl (some 1) (((ms.take i).flatten).map runV ++ mi.map runV) (.t t') = .sl (shOf (some 1) (some t')) (((ms.take (i + 1)).flatten).map runV) (tkOf (some t')) := fun t' => by rw [hfn, List.map_append]; rfl
        obtain ⟨tv, htv⟩ : ∃ tv, tv = V.sl (shOf (some 1) t) ((ms.take i).flatten.map runV) (tkOf t) := ⟨_, rfl⟩
        rw [← htv]
        (conv=>arg 2;whnf);refine wp_loop (fun m fr R => ∃ j : Nat, m = mi.length - j ∧ j ≤ mi.length ∧ R = [] ++ (tokR (some 1) t ++ []) ∧ fr = frL [(2, .pt (some 4) (.agg (paC p)) 0), (5, .pt (some 1) (scV baseS) 0), (6, kpsV k), (8, mssV ms), (10, tv), (11, i64V i), (12, i64V j)])
          mi.length _ _ (.cons (.refl _) (.cons (.refl _) (.cons (.refl _) (.cons (.refl _) (.cons (.refl _) (.cons (.refl _) (.cons (.refl _) (.nil _)))))))) (List.Sublist.refl _) ⟨0, rfl, Nat.zero_le _, rfl, rfl⟩ ?_
        rintro m fr R ⟨j, rfl, hj, rfl, rfl⟩
        (conv=>arg 2;whnf);refine wp_elem i (runsV mi) rfl (mss_at hmi) (Vle.refl _) ?_
        (conv=>arg 2;whnf);refine wp_ite (fun h3 => ?_) (fun h3 => ?_)
        · have h3 : j < mi.length := by
            have := of_decide_eq_true h3
            rw [List.length_map] at this; omega
          obtain ⟨b, hbj⟩ : ∃ b, mi[j]? = some b := ⟨_, List.getElem?_eq_getElem h3⟩
          obtain ⟨hb0, hbat⟩ := hel b (List.mem_of_getElem? hbj)
          have hbn := hbl b (List.mem_of_getElem? hbj)
          have e1 : (((b.map bdV).length : Int) == 0) = false := len_ne hb0
          have hwb : IntKind.i64.wrap (((b.map bdV).length : Int) - 1) = ((b.length - 1 : Nat) : Int) := len_pred hb0 (by omega)
          have e2 : ((lastBd b).at_ != x.at_) = false := by simpa using hbat
          (conv=>arg 2;whnf);refine wp_elem i (runsV mi) rfl (mss_at hmi) (Vle.refl _) ?_
          (conv=>arg 2;whnf);refine wp_elem j (runV b) rfl (runs_at hbj) (Vle.refl _) ?_
          (conv=>arg 2;whnf)
          refine wp_cutR (frL [(2, .pt (some 4) (.agg (paC p)) 0), (5, .pt (some 1) (scV baseS) 0), (6, kpsV k), (8, mssV ms), (10, tv), (11, i64V i), (12, i64V j), (13, bdsV b)]) ([] ++ (tokR (some 1) t ++ [])) (.cons (.refl _) (.cons (.refl _) (.cons (.refl _) (.cons (.refl _) (.cons (.refl _) (.cons (.refl _) (.cons (.refl _) (.cons (.refl _) (.nil _))))))))) (List.Sublist.refl _) ?_
          (conv=>arg 2;whnf);refine wp_if e1 ?_
          (conv=>arg 2;whnf);refine wp_elem (b.length - 1) (bdV (lastBd b)) hwb (bds_at (last_at hb0)) (Vle.refl _) ?_
          (conv=>arg 2;whnf);refine wp_elem i (kpV x) rfl (kps_at hx) (Vle.refl _) ?_
          (conv=>arg 2;whnf);refine wp_if e2 ?_
          (conv=>arg 2;whnf)
          exact wp_leaf (loop_next (mi.length - (j + 1)) _ ([] ++ (tokR (some 1) t ++ [])) (by omega) (.cons (.refl _) (.cons (.refl _) (.cons (.refl _) (.cons (.refl _) (.cons (.refl _) (.cons (.refl _) (.cons (Vle.inc j rfl (by omega)) (.nil _)))))))) (List.Sublist.refl _) ⟨j + 1, rfl, h3, rfl, rfl⟩)
        · (conv=>arg 2;whnf)
          refine wp_leaf (loop_exit ?_)
          rw [htv]
          (conv=>arg 2;whnf);refine wp_elem i (runsV mi) rfl (mss_at hmi) (Vle.refl _) ?_
          (conv=>arg 2;whnf);refine wp_append_x (A := []) (B := []) (sh := some 1) (t := t) (xs := ((ms.take i).flatten).map runV) (ys := mi.map runV) hxs (okE_run mi) hsz (fun t' S' hS => ?_)
          (conv=>arg 2;whnf)
          exact wp_leaf (loop_next (ms.length - (i + 1)) _ [.tok t' (some 1)] hlt (.cons (.refl _) (.cons (.refl _) (.cons (.refl _) (.cons (.refl _) (.cons (Vle.of (.sl (some 1) (((ms.take i).flatten).map runV ++ mi.map runV) (.t t')) rfl (hv t')) (.cons (Vle.inc i rfl hi62) (.nil _))))))) hS ⟨i + 1, some t', rfl, h, (fun e => by cases e), rfl, rfl⟩)
      · have h : i = ms.length := by
          have := of_decide_eq_false h
          rw [List.length_map] at this; omega
        have hv : Vle (.sl (shOf (some 1) t) ((ms.take i).flatten.map runV) (tkOf t)) (runsV ms.flatten) := by
          have e1 : ms.take i = ms := by rw [h, List.take_length]
          rw [e1] at ht ⊢
          cases t with
          | none => rw [ht rfl]; exact Vle.nil _ _ _
          | some t => exact Vle.sl _ _ _
        (conv=>arg 2;whnf)
        refine wp_leaf (loop_exit ?_)
        refine wp_cutR (frL [(2, .pt (some 4) (.agg (paC p)) 0), (5, .pt (some 1) (scV baseS) 0), (6, kpsV k), (8, mssV ms), (10, runsV ms.flatten)]) [] (.cons (.refl _) (.cons (.refl _) (.cons (.refl _) (.cons (.refl _) (.cons hv (.nil _)))))) (List.nil_sublist _) ?_
        (conv=>arg 2;whnf);refine wp_it elen ?_
        (conv=>arg 2;whnf);refine wp_pcall fm ?_
        (conv=>arg 2;whnf);refine wp_pcall fsm ?_
        (conv=>arg 2;whnf);refine w_ret1 rfl (Vle.refl _) (List.nil_sublist _) rfl
    · (conv=>arg 2;whnf);refine wp_pcall fa ?_
      (repeat ((conv=>arg 2;whnf);first|refine wp_it rfl ?_|refine wp_if rfl ?_))
      (conv=>arg 2;whnf);refine wp_pcall (is_call (some 18) 18) ?_
      (conv=>arg 2;whnf);refine w_ret1 rfl (Vle.refl _) (List.nil_sublist _) rfl
theorem stepmeans_law (p : Pa) (l : List Ev) (hp : PaBd p) (hrg : ∀ e ∈ p.els, exRg e.cond) (hl : l.length < 2 ^ 30) (hb : ∀ e ∈ l, EvBd e) : PCall Tryz.prog 3 [.agg (paC p), evsV l] (bV true) := stepmeans_call trivial p hp hrg l hl hb
end Go.Sv
