/- A tree's weakest precondition is the code's. -/
import Derived.Test.YtdkbdmfhidimmaaDoorSvRange
namespace Go.Sv
open Go

section
variable {P : Program} {N n0 : Nat} {Q : Exit → Fr → List Res → Prop} {g g0 : Gh} {w w0 : World} {R R0 : List Res} {fr : Fr} {a : Act} {live : List Nat} {ords : List (Nat × List Nat)}

theorem PostC.from (ha : After g0 w0 R0 g w R) {e : Exit} {a' : Act} {w' : World} (h : PostC N n0 Q g w R e a' w') : PostC N n0 Q g0 w0 R0 e a' w' := by
  obtain ⟨g', fr', R', h1, h2, h3, h4⟩ := h
  exact ⟨g', fr', R', h1, ha.trans h2, h3, h4⟩

theorem St.next (_ : St N n0 g w R fr a) {g' : Gh} {w' : World} {R' : List Res} {fr' : Fr} {a' : Act} (ha : After g w R g' w' R') (hf : RelF N g' w' fr' a'.tmps) (hm : Marks n0 g' w' R' a'.defers) : St N n0 g' w' R' fr' a' :=
  ⟨ha.ext.wf, hf, ha.res, hm⟩

theorem bool_slot {d : Nat} {b : Bool} (hf : RelF N g w fr a.tmps) (h : fr d = .c (.bool b)) : a.tmps[d]? = some (.bool b) := by
  have := hf.2 d
  rw [h] at this
  simp only [RelV] at this
  rw [Array.getD_eq_getD_getElem?] at this
  cases ht : a.tmps[d]? with
  | none => rw [ht] at this; simp [undef] at this
  | some x => rw [ht] at this; simpa using this

theorem RelF.lit {d : Nat} {b : Bool} (hf : RelF N g w fr a.tmps) (h : fr d = .c (.bool b)) : RelF N g w (Sv.put fr d (.c (.bool b))) a.tmps := by
  refine ⟨hf.1, fun t => ?_⟩
  by_cases e : t = d
  · subst e; rw [put_same, ← h]; exact hf.2 t
  · rw [put_other e]; exact hf.2 t

/-- Bookkeeping turned: less is said, or what was owned never changes from here on. -/
theorem UpdF.go {fr' : Fr} {R' : List Res} (h : UpdF fr R fr' R') (hw : Wf g w) (hf : RelF N g w fr a.tmps) (hr : RelR g w R) : ∃ g', After g w R g' w R' ∧ RelF N g' w fr' a.tmps := by
  obtain ⟨g', h1, h2⟩ := h g w (fun t => a.tmps.getD t undef) hw hf.2 hr
  exact ⟨g', h1, hf.1, h2⟩

theorem RelF.put_none (hf : RelF N g w fr a.tmps) {d : Option Nat} (hd : ∀ k, d = some k → k < N) : RelF N g w (putO fr d uV) (a.put d undef).tmps := hf.put hd (relV_uV _ _)

theorem ops_sound {r : Option Nat} {ops : Array Oper} (hok : ∀ o ∈ ops.toList, ∀ k, o.dst = some k → k < N) : ∀ (l : List Oper) (i : Nat) (known : List (Nat × Bool)) (fr : Fr) (R : List Res) (g : Gh) (w : World) (a : Act),
    ops.toList.drop i = l → After g0 w0 R0 g w R → St N n0 g w R fr a → (execOps P live false ops (fun fr' => .leaf .normal fr') l known fr).wp P R Q →
    wpOpsIn (Fw r) 0 P ops (PostC N n0 Q g0 w0 R0) (List.range' i l.length) a w
  | [], i, known, fr, R, g, w, a, _, ha, hs, h => by
    simp only [execOps] at h
    exact ⟨g, fr, R, h, ha, hs.fr, hs.marks⟩
  | o :: l, i, known, fr, R, g, w, a, hdrop, ha, hs, h => by
    have hi : ops[i]? = some o := by
      have : (ops.toList.drop i)[0]? = some o := by rw [hdrop]; rfl
      simpa using this
    have hrest : ops.toList.drop (i + 1) = l := by
      have : (ops.toList.drop i).drop 1 = l := by rw [hdrop]; rfl
      simpa [List.drop_drop, Nat.add_comm] using this
    have hd := hok o (by
      have : o ∈ ops.toList.drop i := by rw [hdrop]; simp
      exact List.mem_of_mem_drop this)
    simp only [List.length_cons, List.range'_succ, wpOpsIn, hi]
    -- on behind an operation that was carried out
    have go : ∀ (fr1 : Fr) (known1 : List (Nat × Bool)), RelF N g w fr1 a.tmps → (finish (pd false live o) (sOp P live fr1 o) o.dst fr1 fun fr' => execOps P live false ops (fun fr' => .leaf .normal fr') l known1 fr').wp P R Q →
        o.wpIn (Fw r) 0 P a w (wpOpsIn (Fw r) 0 P ops (PostC N n0 Q g0 w0 R0) (List.range' (i + 1) l.length)) (PostC N n0 Q g0 w0 R0) := by
      intro fr1 known1 hf1 h1
      refine op_step ⟨hs.wf, hf1, hs.res, hs.marks⟩ hd h1 r ?_
      rintro a' w' ⟨g', fr', R', hk, hA, hf, hm⟩
      exact ops_sound hok l (i + 1) known1 fr' R' g' w' a' hrest (ha.trans hA) (hs.next hA hf hm) hk
    -- on behind one that was passed over
    have skip : ∀ (fr1 : Fr) (known1 : List (Nat × Bool)), RelF N g w fr1 a.tmps → (execOps P live false ops (fun fr' => .leaf .normal fr') l known1 (putO fr1 o.dst uV)).wp P R Q →
        (∀ f, o.about P w a.eval = some f → (Fw r).fn f) ∧ wpOpsIn (Fw r) 0 P ops (PostC N n0 Q g0 w0 R0) (List.range' (i + 1) l.length) (a.put o.dst undef) w := by
      intro fr1 known1 hf1 h1
      exact ⟨fun _ _ => trivial, ops_sound hok l (i + 1) known1 _ R g w _ hrest ha ⟨hs.wf, hf1.put_none hd, hs.res, by rw [put_defers]; exact hs.marks⟩ h1⟩
    simp only [execOps, late] at h
    cases hg : o.guard with
    | none =>
      rw [hg] at h
      rw [if_pos (by simp [Region.wanted, hg])]
      exact go fr known hs.fr h
    | some q =>
      obtain ⟨j, want⟩ := q
      rw [hg] at h
      simp only at h
      cases hdj : (ops[j]?).bind (·.dst) with
      | none => rw [hdj] at h; exact h.elim
      | some d =>
        rw [hdj] at h
        simp only at h
        -- what the guard says
        have hw : ∀ b, fr d = .c (.bool b) → Region.wanted o (yielded ops a.tmps) = (b == want) := by
          intro b hb
          have := bool_slot hs.fr hb
          simp [Region.wanted, hg, yielded, hdj, this]
        have want2 : want = true ∨ want = false := Bool.eq_false_or_eq_true want
        split at h
        · rename_i hfd
          rcases want2 with rfl | rfl
          · rw [if_pos (by rw [hw _ hfd]; rfl)]; exact go fr known hs.fr h
          · rw [if_neg (by rw [hw _ hfd]; simp)]; exact skip fr known hs.fr h
        · rename_i hfd
          rcases want2 with rfl | rfl
          · rw [if_neg (by rw [hw _ hfd]; simp)]; exact skip fr known hs.fr h
          · rw [if_pos (by rw [hw _ hfd]; rfl)]; exact go fr known hs.fr h
        · rename_i b _ hfd
          have hlit := hs.fr.lit hfd
          have b2 : b = true ∨ b = false := Bool.eq_false_or_eq_true b
          rcases want2 with rfl | rfl
          · rcases b2 with rfl | rfl
            · rw [if_pos (by rw [hw _ hfd]; rfl)]; exact go _ _ hlit (h.1 rfl)
            · rw [if_neg (by rw [hw _ hfd]; simp)]; exact skip _ _ hlit (h.2 rfl)
          · rcases b2 with rfl | rfl
            · rw [if_neg (by rw [hw _ hfd]; simp)]; exact skip _ _ hlit (h.1 rfl)
            · rw [if_pos (by rw [hw _ hfd]; rfl)]; exact go _ _ hlit (h.2 rfl)
        · rename_i hfd
          have hsl := hs.fr.2 d
          rw [hfd] at hsl
          simp only [RelV] at hsl
          rw [Array.getD_eq_getD_getElem?] at hsl
          have hwf : Region.wanted o (yielded ops a.tmps) = false := by
            cases ht : a.tmps[d]? with
            | none => simp [Region.wanted, hg, yielded, hdj, ht]
            | some x =>
              rw [ht] at hsl
              simp only [Option.getD_some] at hsl
              simp [Region.wanted, hg, yielded, hdj, ht, hsl]
          rw [if_neg (by rw [hwf]; simp)]; exact skip fr known hs.fr h
        · exact h.elim

theorem okDst_lt {o : Oper} (h : okDst N o = true) : ∀ k, o.dst = some k → k < N := by
  intro k hk
  unfold okDst at h
  rw [hk] at h
  simpa [Nat.blt_eq] using h

theorem least {p : Nat → Prop} : ∀ n, p n → ∃ m, p m ∧ ∀ k, k < m → ¬ p k := by
  intro n
  induction n using Nat.strongRecOn with
  | _ n ih =>
    intro h
    by_cases hx : ∃ k, k < n ∧ p k
    · obtain ⟨k, hk, hp⟩ := hx; exact ih k hk hp
    · exact ⟨n, h, fun k hk hp => hx ⟨k, hk, hp⟩⟩

/-- A loop whose measure is said beside. -/
theorem wpIn_loopE {F : Fence} {n : Nat} {c : Code} {Qp : Exit → Act → World → Prop} (J : Nat → Act → World → Prop) (n0 : Nat) (h0 : J n0 a w)
    (round : ∀ m a w, J m a w → c.wpIn F n P (Exit.then (fun a' w' => ∃ m', m' < m ∧ J m' a' w') Qp) a w) : (Code.loop c).wpIn F n P Qp a w := by
  classical
  have hl : ∀ a w, (∃ m, J m a w) → ∃ m, J m a w ∧ ∀ k, k < m → ¬ J k a w := fun a w ⟨m, hm⟩ => least (p := fun m => J m a w) m hm
  refine wpIn_loop (fun a' w' => ∃ m, J m a' w') (fun a' w' => if hx : ∃ m, J m a' w' then Classical.choose (hl a' w' hx) else 0) ⟨n0, h0⟩ ?_
  intro a1 w1 hJ
  have hsp := Classical.choose_spec (hl a1 w1 hJ)
  refine wpIn_mono (round _ a1 w1 hsp.1) ?_
  intro e a2 w2 hq
  cases e with
  | normal =>
    obtain ⟨m', hlt, hm'⟩ := hq
    refine ⟨⟨m', hm'⟩, ?_⟩
    simp only [dif_pos hJ, dif_pos (⟨m', hm'⟩ : ∃ m, J m a2 w2)]
    have hsp2 := Classical.choose_spec (hl a2 w2 ⟨m', hm'⟩)
    refine Nat.lt_of_le_of_lt (Nat.le_of_not_lt fun hlt2 => hsp2.2 m' hlt2 hm') hlt
  | _ => exact hq

def ordOf (l : List Nat) (n : Nat) : List Nat :=
  match l with
  | [] => List.range n
  | i :: l => i :: l

def okR (live : List Nat) (l : List Nat) (ops : Array Oper) (draw : Bool) : Bool :=
  match draw with
  | false => true
  | true => drawB live ops (ordOf l ops.size) (Region.before ops).toList

/-- The drawn regions are such that their order does not matter. -/
def okDraw (live : List Nat) (ords : List (Nat × List Nat)) : Code → Bool
  | .region id ops draw => match lookO ords id with
    | none => okR live [] ops draw
    | some l => okR live l ops draw
  | .seq a b => okDraw live ords a && okDraw live ords b
  | .cond _ a b => okDraw live ords a && okDraw live ords b
  | .block _ a => okDraw live ords a
  | .loop a => okDraw live ords a
  | .rangeFunc _ _ a b => okDraw live ords a && okDraw live ords b
  | _ => true

theorem inOrder_eq (l : List Nat) (ops : Array Oper) : inOrder l ops = (ordOf l ops.size).filterMap fun i => ops[i]? := by
  unfold inOrder ordOf
  cases l with
  | cons i l => rfl
  | nil =>
    simp only
    apply List.ext_getElem?
    intro i
    have : (List.range ops.size).filterMap (fun i => ops[i]?) = ops.toList := by
      have h1 : (List.range ops.size).filterMap (fun i => ops[i]?) = (List.range ops.size).filterMap (fun i => ops.toList[i]?) := by simp
      rw [h1]
      have : ∀ l : List Oper, (List.range l.length).filterMap (fun i => l[i]?) = l := by
        intro l
        induction l with
        | nil => rfl
        | cons x l ih =>
          rw [List.length_cons, List.range_succ_eq_map, List.filterMap_cons, List.filterMap_map]
          have e : ((fun i => (x :: l)[i]?) ∘ Nat.succ) = fun i => l[i]? := by funext i; simp
          rw [e]
          simpa using ih
      simpa using this ops.toList
    rw [this]

theorem region_sound (hmix : P.follows .mixedOrders = true) {id : Nat} {l : List Nat} {ops : Array Oper} {draw : Bool} (hok : ∀ o ∈ ops.toList, ∀ k, o.dst = some k → k < N) (hdr : okR live l ops draw = true) (hs : St N n0 g w R fr a) (h : (execR P live l ops draw fr).wp P R Q) (r : Option Nat) :
    (Code.region id ops draw).wpIn (Fw r) 0 P (PostC N n0 Q g w R) a w := by
  cases draw with
  | true =>
    simp only [execR, inOrder_eq] at h
    exact draw_sound hmix hok hdr hs h fun fr' R' g' w' a' hq hA hs' => ⟨g', fr', R', hq, hA, hs'.fr, hs'.marks⟩
  | false =>
    simp only [execR] at h
    refine wpIn_region ?_
    have := ops_sound (r := r) hok ops.toList 0 [] fr R g w a (by simp) (After.refl hs.wf hs.res) hs h
    simpa [List.range_eq_range'] using this

/-- CODE. -/
theorem exec_sound (hmix : P.follows .mixedOrders = true) : ∀ (c : Code), okCode N c = true → okDraw live ords c = true → ∀ {n0 : Nat} {Q : Exit → Fr → List Res → Prop} {g : Gh} {w : World} {R : List Res} {fr : Fr} {a : Act}, St N n0 g w R fr a → (exec P live ords c fr).wp P R Q →
    ∀ r, Rnd n0 r g w R → c.wpIn (Fw r) 0 P (PostC N n0 Q g w R) a w
  | .skip, _, _, n0, Q, g, w, R, fr, a, hs, h, r, hrn => wpIn_skip ⟨g, fr, R, h, After.refl hs.wf hs.res, hs.fr, hs.marks⟩
  | .exit id, _, _, n0, Q, g, w, R, fr, a, hs, h, r, hrn => wpIn_exit ⟨g, fr, R, h, After.refl hs.wf hs.res, hs.fr, hs.marks⟩
  | .ret, _, _, n0, Q, g, w, R, fr, a, hs, h, r, hrn => wpIn_ret ⟨g, fr, R, h, After.refl hs.wf hs.res, hs.fr, hs.marks⟩
  | .region id ops draw, hok, hdr, n0, Q, g, w, R, fr, a, hs, h, r, hrn => by
    simp only [okCode, List.all_eq_true] at hok
    simp only [exec] at h
    simp only [okDraw] at hdr
    cases hl : lookO ords id with
    | none =>
      rw [hl] at h hdr
      exact region_sound hmix (fun o ho => okDst_lt (hok o ho)) hdr hs h r
    | some l =>
      rw [hl] at h hdr
      obtain ⟨fr1, R1, h1, h3⟩ := h
      obtain ⟨g1, hA, hf1⟩ := h1.go hs.wf hs.fr hs.res
      exact wpIn_mono (region_sound hmix (fun o ho => okDst_lt (hok o ho)) hdr (hs.next hA hf1 (hs.marks.after hA)) h3 r) fun e a w hp => hp.from hA
  | .seq c d, hok, hdr, n0, Q, g, w, R, fr, a, hs, h, r, hrn => by
    simp only [okCode, okDraw, Bool.and_eq_true] at hok hdr
    simp only [exec] at h
    rw [Tree.wp_bnd] at h
    refine wpIn_seq (wpIn_mono (exec_sound hmix c hok.1 hdr.1 hs h r hrn) ?_)
    rintro e a' w' ⟨g', fr', R', hq, hA, hf, hm⟩
    cases e with
    | normal => exact wpIn_mono (exec_sound hmix d hok.2 hdr.2 (hs.next hA hf hm) hq r (hrn.after hA)) fun e a w hp => hp.from hA
    | _ => exact ⟨g', fr', R', hq, hA, hf, hm⟩
  | .cond x c d, hok, hdr, n0, Q, g, w, R, fr, a, hs, h, r, hrn => by
    simp only [okCode, okDraw, Bool.and_eq_true] at hok hdr
    simp only [exec] at h
    have hv := ev_rel hs.fr x
    split at h
    · rename_i b hx
      rw [hx] at hv
      simp only [RelV] at hv
      cases b with
      | true => exact wpIn_cond hv (exec_sound hmix c hok.1 hdr.1 hs (h.1 rfl) r hrn)
      | false => exact wpIn_cond hv (exec_sound hmix d hok.2 hdr.2 hs (h.2 rfl) r hrn)
    · exact h.elim
  | .block id c, hok, hdr, n0, Q, g, w, R, fr, a, hs, h, r, hrn => by
    simp only [okCode, okDraw] at hok hdr
    simp only [exec] at h
    rw [Tree.wp_bnd] at h
    refine wpIn_block (wpIn_mono (exec_sound hmix c hok hdr hs h r hrn) ?_)
    rintro e a' w' ⟨g', fr', R', hq, hA, hf, hm⟩
    cases e with
    | exit j =>
      simp only [Exit.inBlock]
      cases hj : Nat.beq j id with
      | true =>
        simp only [hj] at hq
        rw [if_pos (Nat.eq_of_beq_eq_true hj)]
        exact ⟨g', fr', R', hq, hA, hf, hm⟩
      | false =>
        simp only [hj] at hq
        rw [if_neg (Nat.ne_of_beq_eq_false hj)]
        exact ⟨g', fr', R', hq, hA, hf, hm⟩
    | _ => exact ⟨g', fr', R', hq, hA, hf, hm⟩
  | .loop c, hok, hdr, n0, Q, g, w, R, fr, a, hs, h, r, hrn => by
    simp only [okCode, okDraw] at hok hdr
    simp only [exec] at h
    obtain ⟨I, ⟨m0, fr1, R1, hupd, hI0⟩, hround⟩ := h
    obtain ⟨g0, hA0, hf0⟩ := hupd.go hs.wf hs.fr hs.res
    -- the head of the loop, somewhere behind (g, w, R)
    let J : Nat → Act → World → Prop := fun n a' w' => ∃ g' fr' R', I n fr' R' ∧ After g w R g' w' R' ∧ RelF N g' w' fr' a'.tmps ∧ Marks n0 g' w' R' a'.defers
    have h0 : J m0 a w := ⟨g0, fr1, R1, hI0, hA0, hf0, hs.marks.after hA0⟩
    refine wpIn_loopE J m0 h0 ?_
    intro n a1 w1 hJ
    obtain ⟨g', fr', R', hI, hA, hf, hm⟩ := hJ
    refine wpIn_mono (exec_sound hmix c hok hdr (hs.next hA hf hm) (hround n fr' R' hI) r (hrn.after hA)) ?_
    rintro e a2 w2 ⟨g2, fr2, R2, hq, hA2, hf2, hm2⟩
    cases e with
    | normal =>
      obtain ⟨n', fr3, R3, hlt, hupd3, hI3⟩ := hq
      obtain ⟨g3, hA3, hf3⟩ := hupd3.go hA2.ext.wf hf2 hA2.res
      exact ⟨n', hlt, g3, fr3, R3, hI3, (hA.trans hA2).trans hA3, hf3, hm2.after hA3⟩
    | _ => exact ⟨g2, fr2, R2, hq, hA.trans hA2, hf2, hm2⟩
  | .rangeFunc x ps c d, hok, hdr, n0, Q, g, w, R, fr, a, hs, h, r, hrn => by
    simp only [okCode, okDraw, Bool.and_eq_true, List.all_eq_true] at hok hdr
    simp only [exec] at h
    obtain ⟨gf, first, caps, hx, hfn, h⟩ := h
    have hv := ev_rel hs.fr x
    rw [hx] at hv
    simp only [RelV] at hv
    obtain ⟨fa, ca, he, hfi, hca⟩ := hv
    refine wpIn_rangeFunc fun fn _ => ?_
    -- the record, wherever the rounds' deferred calls go
    have body : ∀ (D : Nat) (mark : List Deferred) (W1 : World) (l : Nat), (Instr.enterLoop fn a.tmps ps c d (Fw r).round).run P w = .ok (l, mark) W1 →
        After g w R g W1 R → Marks n0 g W1 R (mark ++ a.defers) → W1.heap[l]? = some (.loop { state := .ready, pending := none, fn, tmps := a.tmps, params := ps, assign := c, body := d, defers := D }) → w.heap.size ≤ l →
        ∃ (l : Nat) (mark : List Deferred) (w₁ : World) (d_1 : Deferred) (w₁' : World) (f : FuncId) (args : Array Value) (w₂ : World),
          (Instr.enterLoop fn a.tmps ps c d (Fw r).round).run P w = .ok (l, mark) w₁ ∧ (resolve a.eval (rangeCall x l) 0).run P w₁ = .ok d_1 w₁' ∧ (∀ f', Target.leads P w₁' d_1.target d_1.args = some f' → (Fw r).fn f') ∧
            (invoke d_1.target d_1.args).run P w₁' = .ok (.enter f args) w₂ ∧ ((Fw r).depth.isSome = true → 1 ≤ 0) ∧ CallsIn (Fw r) (0 - 1) P f args w₂ (rangePost (Fw r) 0 P l (PostC N n0 Q g w R) { a with defers := mark ++ a.defers }) := by
      intro D mark W1 l hent hA1 hm1 hl1 hle
      obtain ⟨lp, hlp⟩ : ∃ lp, lp = ({ state := .ready, pending := none, fn, tmps := a.tmps, params := ps, assign := c, body := d, defers := D } : Loop) := ⟨_, rfl⟩
      rw [← hlp] at hl1
      have hnl : l ∉ blocks g R := fun hm => by
        obtain ⟨y, hy, hb⟩ := mem_blocks.1 hm
        have := (hs.res.all y hy).blocks_lt hb
        omega
      have hf1 := hs.fr.mono hA1.ext.toPre
      have hres1 : RelR g W1 (R ++ [.lop l lp fr]) := after_enter hA1.ext.wf hA1.res hl1 hnl (fun t => by rw [hlp]; exact hf1.2 t)
      have hY : ∀ (args : List V) (R1 : List Res) (B : List Res → Prop) (E : Exit → List Res → Prop), args.length = ps.toList.length →
          ((exec P live ords c (putAll fr ps.toList args)).bnd fun e fr2 => match e with
            | .normal => exec P live ords d fr2
            | _ => .bad).wp P R1 (roundEnd B E) → YCall P l args (R1 ++ [.lop l lp fr]) (yieldPost l lp fr B E) := by
        intro args R1 B E hlen hb
        rw [Tree.wp_bnd] at hb
        refine ycall_round (N := N) (by rw [hlp]) (by rw [hlp]) (by rw [hlp]; exact hs.fr.1) (fun p hp => ?_) (by rw [hlp]; exact hlen) ?_
        · rw [hlp] at hp
          have := hok.1.1 p hp
          simpa [Nat.blt_eq] using this
        · intro g1 w1 fr1 a1 hs1 hfr1 hrn1
          rw [hlp] at hfr1 ⊢
          simp only at hfr1 ⊢
          rw [← hfr1] at hb
          refine wpIn_mono (exec_sound hmix c hok.1.2 hdr.1 hs1 hb (some l) hrn1) ?_
          rintro e a2 w2 ⟨g2, fr2, R2, hq, hA2, hf2, hm2⟩
          cases e with
          | normal => exact ⟨g2, fr2, R2, hA2, hf2, hm2, fun w3 hs3 hrn3 => exec_sound hmix d hok.2 hdr.2 hs3 hq (some l) hrn3⟩
          | _ => exact hq.elim
      have hcall := h l lp hY g W1 (fa.toList ++ [Value.func (.yield l) #[] #[]] ++ ca.toList) hA1.ext.wf (relL_append (relL_append hfi (by
        simp only [RelL]
        exact ⟨_, [], rfl, by simp only [RelV, RelL]; exact ⟨#[], #[], rfl, rfl, rfl⟩, rfl⟩)) hca |> fun hh => RelL.mono hA1.ext.toPre _ _ hh) hres1
      obtain ⟨gfn, gc, hgf, hgb, hgn⟩ := hfn
      have hrun : ∀ W : World, (callFunc gf (fa.toList ++ [Value.func (.yield l) #[] #[]] ++ ca.toList).toArray).run P W = .ok (.enter gf (fa.toList ++ [Value.func (.yield l) #[] #[]] ++ ca.toList).toArray) W := by
        intro W
        have hn' : ¬ gfn.name = "runtime.NumGoroutine" := by simpa using hgn
        simp [callFunc, hgf, hgb, hn']
      have hci : CallsIn Fence.wide 0 P gf (fa.toList ++ [Value.func (.yield l) #[] #[]] ++ ca.toList).toArray W1 fun e w'' => ∃ y, e = .returned y ∧ ∃ v g' R', ((∃ R1, R' = R1 ++ [.lop l lp fr] ∧ Q .normal fr R1) ∨ (∃ e R1, (e = .ret ∨ ∃ id, e = .exit id) ∧ R' = R1 ++ [.lop l (lp.left e) fr] ∧ Q e fr R1)) ∧
          After g W1 (R ++ [.lop l lp fr]) g' w'' R' ∧ RelV g' w'' v y := by
        rcases hcall with ⟨y, w', h1, _⟩ | ⟨f, args, w', h1, h2⟩ | ⟨row, args, w', h1, _⟩
        · rw [hrun] at h1; cases h1
        · rw [hrun] at h1; cases h1; exact h2
        · rw [hrun] at h1; cases h1
      have hargs : (fa ++ #[Value.func (.yield l) #[] #[]] ++ ca) = (fa.toList ++ [Value.func (.yield l) #[] #[]] ++ ca.toList).toArray := by apply Array.ext'; simp
      refine ⟨l, mark, W1, { target := .fn (.func gf) ca, args := fa ++ #[Value.func (.yield l) #[] #[]] }, W1, gf, (fa.toList ++ [Value.func (.yield l) #[] #[]] ++ ca.toList).toArray, W1, hent, ?_, fun _ _ => trivial, ?_, room_Fw r, ?_⟩
      · simp [resolve, he, Deferred.ofValue]
        rfl
      · simp only [invoke, hargs]; exact hrun W1
      · refine CallsIn.mono (show CallsIn (Fw r) 0 P gf _ W1 _ from hci) ?_
        rintro e w2 ⟨y, rfl, v, g2, R2, hK, hA2, _⟩
        have fin : ∀ (e : Exit) (R1 : List Res) (lq : Loop), R2 = R1 ++ [.lop l lq fr] → lq.state ≠ .busy → Q e fr R1 →
            ∃ w4, (Instr.endLoop l).run P w2 = .ok lq.pending w4 ∧ PostC N n0 Q g w R e { a with defers := mark ++ a.defers } w4 := by
          intro e R1 lq hR2 hnb hq
          subst hR2
          have hl2 := (hA2.res.all (.lop l lq fr) (by simp)).1
          refine ⟨_, run_endLoop hl2 hnb, ?_⟩
          have hA3 := (after_putLoop (lp' := { lq with state := .exhausted }) hA2.ext.wf hA2.res rfl).sub (List.sublist_append_left R1 _)
          have hA4 := hA2.trans hA3
          have hbl : blocks g (R ++ [.lop l lp fr]) = blocks g R ++ [l] := by simp [blocks, Res.blocks]
          have hA5 : After g w R g2 (w2.putObj l (.loop { lq with state := .exhausted })) R1 := by
            refine ⟨hA1.ext.trans hA4.ext fun b hb => ?_, hA4.res, fun b hb => ?_⟩
            · rw [hbl] at hb
              rcases List.mem_append.1 hb with hb | hb
              · exact .inl hb
              · simp at hb; subst hb; exact .inr hle
            · rcases hA4.own b hb with h1 | h1
              · rw [hbl] at h1
                rcases List.mem_append.1 h1 with h1 | h1
                · exact .inl h1
                · simp at h1; subst h1; exact .inr hle
              · exact .inr (Nat.le_trans hA1.ext.size h1)
          refine ⟨g2, fr, R1, hq, hA5, hs.fr.mono hA5.ext.toPre, ?_⟩
          have hm2 : Marks n0 g W1 (R ++ [.lop l lp fr]) (mark ++ a.defers) := by
            obtain ⟨rs, h1, h2, h3⟩ := hm1.ex
            refine ⟨rs, h1, h2, fun k hk => ?_⟩
            obtain ⟨h4, h5, h6⟩ := h3 k hk
            refine ⟨h4, fun hm => ?_, h6⟩
            rw [hbl] at hm
            rcases List.mem_append.1 hm with hm | hm
            · exact h5 hm
            · simp at hm; subst hm; rw [hl1] at h4; cases h4
          exact hm2.after hA4
        rcases hK with ⟨R1, hR, hq⟩ | ⟨e, R1, hee, hR, hq⟩
        · obtain ⟨w4, h1, h2⟩ := fin .normal R1 lp hR (by rw [hlp]; simp) hq
          refine ⟨none, w4, by rw [h1, hlp], h2⟩
        · obtain ⟨w4, h1, h2⟩ := fin e R1 (lp.left e) hR (by simp [Loop.left]) hq
          refine ⟨some (jumpOf e), w4, by rw [h1]; rfl, ?_⟩
          rcases hee with rfl | ⟨id, rfl⟩
          · exact wpIn_ret h2
          · exact wpIn_exit h2
    cases r with
    | none =>
      have hA1 := after_alloc_other hs.wf hs.res (o := .deferred (some [])) (by intro _ _ _ h; cases h)
      have hA2 := after_alloc_other hA1.ext.wf hA1.res (o := .loop { state := .ready, pending := none, fn, tmps := a.tmps, params := ps, assign := c, body := d, defers := w.heap.size }) (by intro _ _ _ h; cases h)
      have hA := hA1.trans hA2
      have hD : ((w.alloc (.deferred (some []))).alloc (.loop { state := .ready, pending := none, fn, tmps := a.tmps, params := ps, assign := c, body := d, defers := w.heap.size })).heap[w.heap.size]? = some (.deferred (some [])) :=
        (Go.RowKit.Below.heap_alloc _ _ _ (by simp)).trans (heap_alloc_new w _)
      refine body w.heap.size _ _ _ (run_enterLoop_outer _ _ _ _ _) hA ?_ (by have := heap_alloc_new (w.alloc (.deferred (some []))) (.loop { state := .ready, pending := none, fn, tmps := a.tmps, params := ps, assign := c, body := d, defers := w.heap.size }); rwa [World.size_alloc] at this) (by omega)
      obtain ⟨rs, h1, h2, h3⟩ := (hs.marks.after hA).ex
      have hrs : ∀ k ∈ rs, k < w.heap.size := by
        intro k hk
        obtain ⟨rs', h1', h2', h3'⟩ := hs.marks.ex
        have : rs = rs' := by
          have e : rs.map (fun r => ({ target := .collected r, args := #[] } : Deferred)) = rs'.map (fun r => ({ target := .collected r, args := #[] } : Deferred)) := h1.symm.trans h1'
          refine List.map_inj_right (fun x y h => ?_) |>.1 e
          simpa using h
        subst this
        exact (Array.getElem?_eq_some_iff.1 (h3' k hk).1).1
      refine ⟨w.heap.size :: rs, by simp [h1], List.nodup_cons.2 ⟨fun hm => Nat.lt_irrefl _ (hrs _ hm), h2⟩, fun k hk => ?_⟩
      rcases List.mem_cons.1 hk with rfl | hk
      · refine ⟨hD, fun hm => ?_, hrn.size⟩
        obtain ⟨y, hy, hb⟩ := mem_blocks.1 hm
        have := (hs.res.all y hy).blocks_lt hb
        omega
      · exact h3 k hk
    | some l0 =>
      obtain ⟨⟨r0, hr0⟩, _⟩ := hrn.lop l0 rfl
      have hA := after_alloc_other hs.wf hs.res (o := .loop { state := .ready, pending := none, fn, tmps := a.tmps, params := ps, assign := c, body := d, defers := r0.defers }) (by intro _ _ _ h; cases h)
      exact body r0.defers [] _ _ (run_enterLoop_inner hr0 _ _ _ _ _) hA (hs.marks.after hA) (heap_alloc_new w _) (Nat.le_refl _)
  | .scope _, _, _, _, _, _, _, _, _, _, _, h, _, _ => by simp only [exec] at h; exact h.elim
  | .label _, _, _, _, _, _, _, _, _, _, _, h, _, _ => by simp only [exec] at h; exact h.elim
  | .goto _, _, _, _, _, _, _, _, _, _, _, h, _, _ => by simp only [exec] at h; exact h.elim
  | .refuse _, _, _, _, _, _, _, _, _, _, _, h, _, _ => by simp only [exec] at h; exact h.elim

end
end Go.Sv
