/- A save, and what is loaded behind it. -/
import Derived.Test.YtgkfpgkpdkmjbaaDiskLaw
namespace Go.Sv

def svW (D : Dk) (s : List UInt8) := wr (2 + slotOf (cntF D 2) * 198) (chunk s)
def svH (D : Dk) (s : List UInt8) : Nat × List UInt8 := (((cntF D 2).1 + 1) % 2, pad (hdB ((cntF D 2).1 + 1) (slotOf (cntF D 2)) s.length))
def sv1 (D : Dk) (s : List UInt8) := laidW D.sure (svW D s)
def sv2 (D : Dk) (s : List UInt8) := (sv1 D s).set (svH D s).1 (svH D s).2

theorem slotOf_le {h : Hd} (hle : h.2.1 ≤ 1) : slotOf h ≤ 1 := by unfold slotOf; split <;> omega

theorem dWrite_ok' {D : Dk} {i : Nat} {c : List UInt8} (hg : D.gone = false) (hi : i < 400) (hc : c.length ≤ 64) : dWrite D (i : Int) c = .ok (dWritten D i c) := by
  rw [dWrite, if_neg (by simp [hg]), if_neg (by omega), if_neg (by omega)]; rfl

theorem save_run {D : Dk} (hl : D.loose = []) (hg : D.gone = false) {s : List UInt8} (hs : s.length ≤ 12672) :
    (D.left = 0 ∨ (chunk s).length + 1 < D.left → dSave D s = (none, ⟨sv2 D s, [], D.left - ((chunk s).length + 1), false⟩)) ∧
    (D.left = (chunk s).length + 1 → dSave D s = (some 23, ⟨sv1 D s, [svH D s], 0, true⟩)) ∧
    (0 < D.left → D.left ≤ (chunk s).length → ∃ D', dSave D s = (some 23, D') ∧ D'.sure = D.sure ∧ D'.loose = wr (2 + slotOf (cntF D 2) * 198) ((chunk s).take D.left) ∧ D'.gone = true) := by
  have hle := cntF_le D 2
  have hq := slotOf_le hle.2.1
  have hcl := chunk_length s
  have hbl := hdB_length ((cntF D 2).1 + 1) (slotOf (cntF D 2)) s.length
  have hrun := dWrites_run (chunk s) D (2 + slotOf (cntF D 2) * 198) hg (fun c hc => chunk_mem hc) (by omega)
  rw [hl, List.nil_append] at hrun
  have hsv : dSave D s = dSave1 (cntF D 2) s.length (dWrites D (2 + slotOf (cntF D 2) * 198) (chunk s)) := by rw [dSave, if_neg (by omega)]
  have two : D.left = 0 ∨ (chunk s).length < D.left → dSave D s = dSave4 (dWritten ⟨sv1 D s, [], D.left - (chunk s).length, false⟩ (svH D s).1 (hdB ((cntF D 2).1 + 1) (slotOf (cntF D 2)) s.length)) := by
    intro h
    rw [hsv, hrun.1 h]
    simp only [dSave1]
    rw [dSave2, show dSync ⟨D.sure, wr (2 + slotOf (cntF D 2) * 198) (chunk s), D.left - (chunk s).length, false⟩ = .ok ⟨sv1 D s, [], D.left - (chunk s).length, false⟩ from rfl]
    simp only
    rw [dSave3, dWrite_ok' rfl (by omega) (by omega)]
    rfl
  refine ⟨fun h => ?_, fun h => ?_, fun h1 h2 => ?_⟩
  · rw [two (by omega)]
    have hgo : (dWritten ⟨sv1 D s, [], D.left - (chunk s).length, false⟩ (svH D s).1 (hdB ((cntF D 2).1 + 1) (slotOf (cntF D 2)) s.length)).gone = false := by
      simp only [dWritten]
      split
      · have : D.left - (chunk s).length ≠ 1 := by omega
        simpa using this
      · rfl
    rw [dSave4, dSync, if_neg (by rw [hgo]; exact Bool.false_ne_true)]
    simp only [hgo]
    congr 2
  · rw [two (by omega)]
    have e1 : D.left - (chunk s).length = 1 := by omega
    rw [e1]
    rfl
  · obtain ⟨e, D', g1, g2, g3, g4, g5⟩ := hrun.2 h1 h2
    refine ⟨D', ?_, g2, g3, g4⟩
    rw [hsv, g1]
    rcases g5 with rfl | rfl
    · show dSave2 (cntF D 2) s.length D' = _
      rw [dSave2, dSync, if_pos g4]
    · rfl

theorem svW_mem {D : Dk} {s : List UInt8} (hs : s.length ≤ 12672) {w : Nat × List UInt8} (h : w ∈ svW D s) : 2 + slotOf (cntF D 2) * 198 ≤ w.1 ∧ w.1 < 2 + slotOf (cntF D 2) * 198 + 198 := by
  have := wr_mem w h
  have := chunk_length s
  omega
theorem wr_take {cs : List (List UInt8)} : ∀ {base n : Nat}, ∀ w ∈ wr base (cs.take n), w ∈ wr base cs := by
  induction cs with
  | nil => intro base n w h; simp [wr] at h
  | cons c cs ih =>
    intro base n w h
    cases n with
    | zero => simp [wr] at h
    | succ n =>
      rcases List.mem_cons.1 h with rfl | h
      · simp [wr]
      · exact List.mem_cons_of_mem _ (ih w h)
theorem sv_ok {D : Dk} (hD : DOk D) (s : List UInt8) : (sv1 D s).length = 400 ∧ (sv2 D s).length = 400 ∧ (∀ x ∈ sv1 D s, x.length = 64) ∧ ∀ x ∈ sv2 D s, x.length = 64 := by
  have h1 : (sv1 D s).length = 400 := by rw [sv1, laidW_length, hD.n]
  have h3 : ∀ x ∈ sv1 D s, x.length = 64 := laidW_mem _ _ hD.b fun w hw => by
    obtain ⟨c, hc, e⟩ := wr_pad w hw
    rw [e]; exact pad_length (chunk_mem hc)
  refine ⟨h1, by rw [sv2, List.length_set, h1], h3, fun x hx => ?_⟩
  rcases List.mem_or_eq_of_mem_set hx with hx | rfl
  · exact h3 x hx
  · have := hdB_length ((cntF D 2).1 + 1) (slotOf (cntF D 2)) s.length
    exact pad_length (by omega)
theorem dNow_nil {D : Dk} (h : D.loose = []) : dNow D = D.sure := by rw [dNow, h]; rfl

/-- A save with power: the new state is loaded. -/
theorem save_ok {D : Dk} (hD : DOk D) (hl : D.loose = []) (hg : D.gone = false) (h0 : D.left = 0) {s : List UInt8} (hs : s.length ≤ 12672) (hT : (cntF D 2).1 < 1099511627776) :
    ∃ D', dSave D s = (none, D') ∧ DOk D' ∧ D'.loose = [] ∧ D'.gone = false ∧ D'.left = 0 ∧ cntF D' 2 = ((cntF D 2).1 + 1, slotOf (cntF D 2), s.length) ∧ dLoad D' = .ok s := by
  have h1 := (save_run hl hg hs).1 (.inl h0)
  obtain ⟨a1, a2, a3, a4⟩ := sv_ok hD s
  refine ⟨_, h1, ⟨a2, a4, by simp⟩, rfl, rfl, by simp [h0], ?_⟩
  exact new_view (by rw [dNow_nil hl, hD.n]) hs hT (by rw [dNow_nil hl]; rfl)

/-- Power lost somewhere in a save, and a crash: the elder state, or the new one. -/
theorem save_crash {D : Dk} (hD : DOk D) (hl : D.loose = []) (hg : D.gone = false) {s : List UInt8} (hs : s.length ≤ 12672) (hT : (cntF D 2).1 < 1099511627776) (keep : List Bool) :
    ((dSave D s).1 = none ∧ dLoad (dCrash (dSave D s).2 keep) = .ok s) ∨ ((dSave D s).1 = some 23 ∧ (dLoad (dCrash (dSave D s).2 keep) = .ok s ∨ dLoad (dCrash (dSave D s).2 keep) = dLoad D)) := by
  obtain ⟨r1, r2, r3⟩ := save_run hl hg hs
  have hn : (dNow D).length = 400 := by rw [dNow_nil hl, hD.n]
  by_cases h1 : D.left = 0 ∨ (chunk s).length + 1 < D.left
  · left
    rw [r1 h1]
    refine ⟨rfl, (new_view hn hs hT ?_).2⟩
    rw [dNow_nil hl]; rfl
  · by_cases h2 : D.left = (chunk s).length + 1
    · right
      rw [r2 h2]
      refine ⟨rfl, ?_⟩
      show dLoad ⟨laidW (sv1 D s) (kept (fun k => keep.getD k false) 0 [svH D s]), [], 0, false⟩ = _ ∨ dLoad ⟨laidW (sv1 D s) (kept (fun k => keep.getD k false) 0 [svH D s]), [], 0, false⟩ = _
      rw [kept, kept]
      split
      · exact .inl (new_view hn hs hT (by rw [dNow_nil hl]; rfl)).2
      · exact .inr (old_view (ws := svW D s) (by rw [dNow_nil hl]; rfl) fun w hw => svW_mem hs hw).2
    · right
      obtain ⟨D', e1, e2, e3, _⟩ := r3 (by omega) (by omega)
      rw [e1]
      refine ⟨rfl, .inr ?_⟩
      refine (old_view (ws := kept (fun k => keep.getD k false) 0 D'.loose) (by rw [dNow_nil hl, ← e2]; rfl) fun w hw => ?_).2
      have := kept_mem _ _ w hw
      rw [e3] at this
      exact svW_mem hs (wr_take w this)

theorem wr_ok {D : Dk} {s : List UInt8} (hs : s.length ≤ 12672) {n : Nat} : ∀ w ∈ wr (2 + slotOf (cntF D 2) * 198) ((chunk s).take n), w.1 < 400 ∧ w.2.length = 64 := by
  intro w hw
  have h1 := svW_mem (D := D) hs (wr_take w hw)
  have h2 := slotOf_le (cntF_le D 2).2.1
  obtain ⟨c, hc, e⟩ := wr_pad w hw
  exact ⟨by omega, by rw [e]; exact pad_length (chunk_mem (List.mem_of_mem_take hc))⟩

/-- Power lost ahead of the head. -/
theorem save_cut {D : Dk} (hD : DOk D) (hl : D.loose = []) (hg : D.gone = false) {s : List UInt8} (hs : s.length ≤ 12672) (h1 : 0 < D.left) (h2 : D.left ≤ (chunk s).length) (keep : List Bool) :
    ∃ D', dSave D s = (some 23, D') ∧ DOk D' ∧ D'.gone = true ∧ D'.loose.length ≤ 198 ∧ dLoad (dCrash D' keep) = dLoad D := by
  obtain ⟨D', e1, e2, e3, e4⟩ := (save_run hl hg hs).2.2 h1 h2
  refine ⟨D', e1, ⟨by rw [e2]; exact hD.n, by rw [e2]; exact hD.b, by rw [e3]; exact wr_ok hs⟩, e4, ?_, ?_⟩
  · rw [e3]
    have : ∀ (cs : List (List UInt8)) (b : Nat), (wr b cs).length = cs.length := by
      intro cs
      induction cs with
      | nil => intro _; rfl
      | cons c cs ih => intro b; simp [wr, ih]
    rw [this, List.length_take]
    have := chunk_length s
    omega
  · refine (old_view (ws := kept (fun k => keep.getD k false) 0 D'.loose) (by rw [dNow_nil hl, ← e2]; rfl) fun w hw => ?_).2
    have := kept_mem _ _ w hw
    rw [e3] at this
    exact svW_mem hs (wr_take w this)

theorem dCut_view (D : Dk) (n : Int) : cntF (dCut D n) 2 = cntF D 2 ∧ dLoad (dCut D n) = dLoad D := old_view (ws := []) rfl (by simp)

theorem dNew_cnt : cntF dNew 2 = (0, 0, 0) := by
  have h : ∀ j : Nat, j < 2 → isHd (dRead dNew (j : Nat)) j = ((0, 0, 0), false) := by
    intro j hj
    have e : dRead dNew (j : Int) = List.replicate 64 0 := by
      rw [dRead_now dNew (by omega), dNow_nil rfl, List.getD_eq_getElem?_getD, show dNew.sure = List.replicate 400 (List.replicate 64 0) from rfl, List.getElem?_replicate, if_pos (by omega)]
      rfl
    rw [e, isHd, if_pos (.inl (by decide))]
  have c1 : cntF dNew 1 = (0, 0, 0) := by
    rw [cntF, h 0 (by omega)]; simp [cntF]
  rw [cntF, h 1 (by omega), c1]; simp
theorem dNew_load : dLoad dNew = .error 20 := by
  unfold dLoad; rw [dNew_cnt]; rfl
end Go.Sv
