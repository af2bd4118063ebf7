/- append: a token's slice grows. -/
import Derived.Test.YtdkbdmfhidimmaaDoorSvStep
import Derived.Deep.Upon
namespace Go.Sv
open Go

section
variable {P : Program} {g : Gh} {w : World}

theorem setCells_setRow {P : Program} {b o : Nat} {vs : List Value} {cur : Array Value} {e : TypeId} (hh : w.heap[b]? = some (.cells cur e (0, 0))) (hle : o + vs.length ≤ cur.size) (h1 : ∀ v ∈ vs, v.oneCell' = true) :
    w.setCells b o vs = w.setRow b (cur.toList.take o ++ vs ++ cur.toList.drop (o + vs.length)).toArray := by
  have r1 := run_storeCells_at P b o e vs 0 cur w hh (by omega) h1
  have r2 := run_storeCells_cells (P := P) b o vs 0 w (fun j hj => by simp [World.cell?, hh]; omega) (fun j hj => by simp [World.frozen?, hh]) h1
  rw [r1] at r2
  simp only [Nat.add_zero] at r2
  injection r2 with _ h
  exact h.symm

theorem after_token {g' : Gh} {w' : World} {t : Nat} {sh : Option Nat} (hr : RelR g w [.tok t sh]) (h : After g w [] g' w' [.tok g.nt sh]) : After g w [.tok t sh] g' w' [.tok g.nt sh] := by
  have := After.frame (A := [.tok t sh]) (B := []) (R := []) (by simpa using hr) h
  simp only [List.append_nil] at this
  exact this.sub (by simp)

/-- Nothing is appended to a slice of no capacity. -/
theorem e_mint (hw : Wf g w) {A : Option Addr} (sh : Option Nat) : After g w [] (g.mint w.heap.size 0 (.slice A 0 0)) w [.tok g.nt sh] ∧ RelV (g.mint w.heap.size 0 (.slice A 0 0)) w (.sl sh [] (.t g.nt)) (.slice A 0 0) := by
  have hcm : (g.mint w.heap.size 0 (.slice A 0 0)).cm = g.cm := by
    funext c; simp only [Gh.mint]; split
    · rename_i h; subst h; exact (hw.cm _ (Nat.le_refl _)).symm
    · rfl
  have hpre : Pre g w (g.mint w.heap.size 0 (.slice A 0 0)) w :=
    ⟨fun b => by rw [hcm]; exact Nat.le_refl _, fun _ _ _ => rfl, Nat.le_succ _, fun t ht => by simp only [Gh.mint]; rw [if_neg (by omega)]⟩
  have hb : blocks (g.mint w.heap.size 0 (.slice A 0 0)) [.tok g.nt sh] = [] := by cases A <;> simp [blocks, Res.blocks, Gh.mint, blockOf]
  refine ⟨⟨{ hpre with os := rfl, tape := rfl, output := rfl, size := Nat.le_refl _, frame := fun _ _ _ => rfl, cmeq := fun _ _ _ => by rw [hcm], wf := ⟨by rw [hcm]; exact hw.cm, by rw [hcm]; exact hw.ex, hpre.st hw⟩ }, ⟨?_, by rw [hb]; simp⟩, by rw [hb]; simp⟩, ?_⟩
  · intro r hr
    simp only [List.mem_singleton] at hr; subst hr
    exact ⟨by simp [Gh.mint], .inl ⟨A, by simp [Gh.mint]⟩⟩
  · simp only [RelV]
    exact ⟨A, 0, 0, rfl, rfl, Nat.le_refl _, ⟨by simp [Gh.mint], by simp [Gh.mint]⟩, .inl (by trivial)⟩

theorem capOk {w : World} {need old : Nat} {e : TypeId} {n : Nat} (hb : need * n ≤ 140737488355328) (h0 : 0 < n) : need ≤ maxLen ∧ grownCap w need old e ≤ maxLen := by
  have : need ≤ need * n := Nat.le_mul_of_pos_right _ h0
  have h1 : need ≤ maxLen := by simp only [maxLen]; omega
  exact ⟨h1, grownCap_le_maxLen w need old e h1⟩

theorem e_append_zero (hw : Wf g w) {t tx ty e : TypeId} {i : TypeInfo} {sh sh' : Option Nat} {s y : Value} {ys : List V} (ht : P.underlying t = some (.slice e)) (hi : P.info? e = some i) (hsz : i.size = width sh)
    (hby : 0 < i.bytes) (hz : (i.zero.map fun z => z.cells.size) = some i.size) (hx : RelV g w (.sl sh' [] .zero) s) (ap : Appended P g w sh i.size tx y ys) (hle : ys.length * i.bytes ≤ 140737488355328) :
    ∃ v w' g', (Builtin.append_ #[t, tx] ty #[s, y]).run P w = .ok v w' ∧ After g w [] g' w' [.tok g.nt sh] ∧ RelV g' w' (.sl sh ys (.t g.nt)) v := by
  simp only [RelV] at hx
  obtain ⟨A, n, c, rfl, hn, hc, hcap, _⟩ := hx
  simp at hn; subst hn
  subst hcap
  obtain ⟨z, hz1, hz2⟩ := Option.map_eq_some_iff.1 hz
  by_cases h0 : ys.length = 0
  · obtain rfl : ys = [] := List.eq_nil_of_length_eq_zero h0
    have hnews : ap.news = [] := List.eq_nil_of_length_eq_zero (by simpa using ap.src.newsLen)
    have hsrc := ap.src
    rw [hnews] at hsrc
    obtain ⟨h1, h2⟩ := e_mint hw (A := A) sh
    exact ⟨_, w, _, run_append_nothing w t tx ty e i ht hi A 0 0 (Nat.le_refl _) y hsrc, h1, h2⟩
  · have hold : (Builtin.firstCells i.size 0 (.slice A 0 0)).run P w.drew = .ok ([] : List Value).toArray w.drew := by
      cases A <;> simp [Builtin.firstCells, loadCells, loadCellsFrom]
    have hrun := run_append_grow_src w t tx ty e i z ht hi hz1 A 0 0 [] hold y ys.length ap.news ap.src (by omega) (by
        have : ys.length ≤ ys.length * i.bytes := Nat.le_mul_of_pos_right _ hby
        omega) (growslice_fits (by omega) (by simpa using hle))
    simp only [Nat.zero_add] at hrun
    have hcapok := capOk (w := w) (old := 0) (e := e) hle hby
    have hge := grownCap_ge w ys.length 0 e
    obtain ⟨g', h1, h2⟩ := e_grow hw (xs := []) (olds := []) (newCap := grownCap w ys.length 0 e) (z := z.cells) (e := e) (by rw [hz2, hsz]) (by simp [RelXs]) ap.rel (by simp) (by rw [ap.src.newsLen, hsz]) (by simpa using hge) (by omega) hcapok.2 rfl
    simp only [List.length_nil, Nat.zero_add, List.nil_append] at h1 h2
    refine ⟨_, _, g', hrun, ?_, h2⟩
    simpa using h1

theorem e_append_tok (hw : Wf g w) {t tx ty e : TypeId} {i : TypeInfo} {sh : Option Nat} {k : Nat} {s y : Value} {xs ys : List V} (ht : P.underlying t = some (.slice e)) (hi : P.info? e = some i) (hsz : i.size = width sh)
    (hby : 0 < i.bytes) (hz : (i.zero.map fun z => z.cells.size) = some i.size) (hx : RelV g w (.sl sh xs (.t k)) s) (hR : RelR g w [.tok k sh]) (ap : Appended P g w sh i.size tx y ys) (hle : (xs.length + ys.length) * i.bytes ≤ 140737488355328) :
    ∃ v w' g', (Builtin.append_ #[t, tx] ty #[s, y]).run P w = .ok v w' ∧ After g w [.tok k sh] g' w' [.tok g.nt sh] ∧ RelV g' w' (.sl sh (xs ++ ys) (.t g.nt)) v := by
  obtain ⟨hk, htok⟩ := hR.all _ (List.mem_singleton.2 rfl)
  have hx0 := hx
  simp only [RelV] at hx
  obtain ⟨A, n, c, rfl, hn, hc, ⟨_, hth⟩, hrow⟩ := hx
  subst hn
  obtain ⟨z, hz1, hz2⟩ := Option.map_eq_some_iff.1 hz
  rcases htok with ⟨A', he⟩ | ⟨b, n', cap, cur, e', he, hh, hnc, hcm, hcs, hcmb⟩
  · rw [he] at hth
    injection hth with e1 e2 e3
    subst e1; subst e3
    obtain rfl : xs = [] := List.eq_nil_of_length_eq_zero e2
    obtain ⟨v, w', g', h1, h2, h3⟩ := e_append_zero (ty := ty) hw ht hi hsz hby hz (sh' := sh) (s := .slice A 0 0) (by
      simp only [RelV]; exact ⟨A, 0, 0, rfl, rfl, Nat.le_refl _, rfl, .inl (by trivial)⟩) ap (by simpa using hle)
    exact ⟨v, w', g', h1, after_token hR h2, by simpa using h3⟩
  · rw [he] at hth
    injection hth with e1 e2 e3
    subst e1; subst e3; subst e2
    -- the cells so far
    have hxs : RelXs g w sh xs (fun i => cell w b i) := by
      rcases hrow with rfl | ⟨b', o, hb', _, hr⟩
      · simp [RelXs]
      · simp only [Option.some.injEq, Addr.mk.injEq] at hb'
        obtain ⟨rfl, rfl, _⟩ := hb'
        simpa using hr
    obtain ⟨olds, hol, hoc⟩ := relXs_cells hxs
    have hoR : RelXs g w sh xs (fun i => olds[i]?) := RelXs.mono (Pre.refl g w) sh xs _ _ (fun i hi => (hoc i (by omega)).symm) hxs
    have hnl : ap.news.length = ys.length * width sh := by rw [ap.src.newsLen, hsz]
    by_cases hroom : xs.length + ys.length ≤ cap + 1
    · -- there is room
      have hmulle : (xs.length + ys.length) * width sh ≤ (cap + 1) * width sh := Nat.mul_le_mul_right _ hroom
      have hmul : (xs.length + ys.length) * width sh = xs.length * width sh + ap.news.length := by rw [Nat.add_mul, hnl]
      have hfit : xs.length * width sh + ap.news.length ≤ cur.size := by omega
      have hrun := run_append_room_src w t tx ty e i ht hi b 0 xs.length (cap + 1) y ys.length ap.news ap.src hroom (fun j hj => by rw [hsz]; simp [World.cell?, hh]; omega) (fun j hj => by simp [World.frozen?, hh])
      simp only [Nat.zero_add, hsz] at hrun
      rw [setCells_setRow (P := P) hh hfit ap.src.one] at hrun
      obtain ⟨cur', hcur'⟩ : ∃ c, c = (cur.toList.take (xs.length * width sh) ++ ap.news ++ cur.toList.drop (xs.length * width sh + ap.news.length)).toArray := ⟨_, rfl⟩
      rw [← hcur'] at hrun
      have hsz' : cur'.size = cur.size := by rw [hcur']; simp; omega
      have hcell : ∀ i : Nat, cell (w.setRow b cur') b i = cur'[i]? := fun i => by simp [cell, World.cell?, setRow_heap w b cur cur' e' _ hh]
      have hold : ∀ i, i < xs.length * width sh → cur'[i]? = cur[i]? := fun i hi => by
        rw [hcur']
        simp only [List.getElem?_toArray]
        rw [List.append_assoc, List.getElem?_append_left (by simp; omega), List.getElem?_take, if_pos hi]
        simp
      have hnew : ∀ i, i < ap.news.length → cur'[xs.length * width sh + i]? = ap.news[i]? := fun i hi => by
        rw [hcur']
        simp only [List.getElem?_toArray]
        rw [List.append_assoc, List.getElem?_append_right (by simp; omega), List.getElem?_append_left (by simp; omega)]
        congr 1
        simp; omega
      have hcold : ∀ i : Nat, cell w b i = cur[i]? := fun i => by simp [cell, World.cell?, hh]
      have hother : ∀ c o, c ≠ b → cell (w.setRow b cur') c o = cell w c o := fun c o h => World.cell?_of_block (w := w) (setRow_other w b c cur' h)
      have hpre : Pre g w (g.mint b (xs.length * width sh + ap.news.length) (.slice (some ⟨b, 0, none⟩) (xs.length + ys.length) (cap + 1))) (w.setRow b cur') :=
        ⟨fun c => by
            simp only [Gh.mint]; split
            · rename_i h; subst h; omega
            · exact Nat.le_refl _,
          fun c o ho => by
            by_cases h : c = b
            · subst h; rw [hcell, hold o (by omega), hcold]
            · exact hother c o h,
          Nat.le_succ _, fun t ht => by simp only [Gh.mint]; rw [if_neg (by omega)]⟩
      have hbl : blocks g [.tok k sh] = [b] := by simp [blocks, Res.blocks, he, blockOf]
      have hbl' : blocks (g.mint b (xs.length * width sh + ap.news.length) (.slice (some ⟨b, 0, none⟩) (xs.length + ys.length) (cap + 1))) [.tok g.nt sh] = [b] := by simp [blocks, Res.blocks, Gh.mint, blockOf]
      refine ⟨_, _, g.mint b (xs.length * width sh + ap.news.length) (.slice (some ⟨b, 0, none⟩) (xs.length + ys.length) (cap + 1)), hrun, ⟨?_, ⟨?_, ?_⟩, ?_⟩, ?_⟩
      · rw [hbl]
        exact { hpre with
          os := rfl, tape := rfl, output := rfl, size := by simp
          frame := fun c _ hn => setRow_other w b c cur' (by simpa using hn)
          cmeq := fun c _ hn => by simp only [Gh.mint]; rw [if_neg (by simpa using hn)]
          wf := ⟨fun c hc => by
              have hbs := (Array.getElem?_eq_some_iff.1 hh).1
              simp at hc
              simp only [Gh.mint]; rw [if_neg (by omega)]; exact hw.cm c hc,
            fun c o ho => by
              simp only [Gh.mint] at ho
              split at ho
              · rename_i h; subst h; rw [hcell]; simp; omega
              · rename_i h; rw [hother c o h]; exact hw.ex c o ho,
            hpre.st hw⟩ }
      · intro r hr
        simp only [List.mem_singleton] at hr; subst hr
        exact ⟨by simp [Gh.mint], .inr ⟨b, _, cap, cur', e', by simp [Gh.mint], setRow_heap w b cur cur' e' _ hh, hroom, hcm, by rw [hsz', hcs], by simp [Gh.mint, hmul]⟩⟩
      · rw [hbl']; simp
      · rw [hbl']; intro c hc; simp at hc; subst hc; left; rw [hbl]; simp
      · simp only [RelV]
        refine ⟨_, _, _, rfl, by simp, hroom, ⟨by simp [Gh.mint], by simp [Gh.mint]⟩, .inr ⟨b, 0, rfl, by simp [Gh.mint, hmul], ?_⟩⟩
        refine relXs_append (RelXs.mono hpre sh xs _ _ (fun i hi => ?_) hoR) (RelXs.mono hpre sh ys _ _ (fun i hi => ?_) ap.rel)
        · rw [Nat.zero_add, hcell, hold i hi, ← hcold, hoc i (by omega)]
        · rw [Nat.zero_add, hcell, Nat.add_comm, hnew i (by omega)]
    · -- a new row
      have hold : (Builtin.firstCells i.size xs.length (.slice (some ⟨b, 0, none⟩) xs.length (cap + 1))).run P w.drew = .ok olds.toArray w.drew :=
        run_firstCells_some w.drew i.size xs.length ⟨b, 0, none⟩ xs.length (cap + 1) olds (by rw [hol, hsz]) (fun j v hj => by
          have hjl := (List.getElem?_eq_some_iff.1 hj).1
          rw [Addr.add_lit, Nat.zero_add]
          exact (hoc j hjl).trans hj)
      have hrun := run_append_grow_src w t tx ty e i z ht hi hz1 (some ⟨b, 0, none⟩) xs.length (cap + 1) olds hold y ys.length ap.news ap.src (by omega) (by
          have : xs.length + ys.length ≤ (xs.length + ys.length) * i.bytes := Nat.le_mul_of_pos_right _ hby
          omega) (growslice_fits (by omega) hle)
      have hcapok := capOk (w := w) (old := cap + 1) (e := e) hle hby
      have hge := grownCap_ge w (xs.length + ys.length) (cap + 1) e
      obtain ⟨g', h1, h2⟩ := e_grow hw (xs := xs) (ys := ys) (olds := olds) (newCap := grownCap w (xs.length + ys.length) (cap + 1) e) (z := z.cells) (e := e) (by rw [hz2, hsz]) hoR ap.rel hol hnl hge (by omega) hcapok.2 rfl
      exact ⟨_, _, g', hrun, after_token hR h1, h2⟩

/-- A row written out, with the right to append to it. -/
theorem e_made (hw : Wf g w) {e : TypeId} {sh : Option Nat} {n : Nat} {vs : List V} {cells : Array Value} (hs : cells.size = n * width sh) (hn : vs.length = n) (hr : RelXs g w sh vs (fun (i : Nat) => cells[i]?)) (hm : n ≤ maxLen) :
    ∃ g', After g w [] g' (w.alloc (.cells cells e)) [.tok g.nt sh] ∧ RelV g' (w.alloc (.cells cells e)) (.sl sh vs (.t g.nt)) (.slice (some ⟨w.heap.size, 0, none⟩) n n) := by
  have hext0 := ext_alloc hw cells e (n * width sh) (by omega)
  have hpre : Pre g w (g.mint w.heap.size (n * width sh) (.slice (some ⟨w.heap.size, 0, none⟩) n n)) (w.alloc (.cells cells e)) :=
    ⟨hext0.cmle, hext0.com, Nat.le_succ _, fun t ht => by simp only [Gh.mint]; rw [if_neg (by omega)]⟩
  have hext : Ext [] g w (g.mint w.heap.size (n * width sh) (.slice (some ⟨w.heap.size, 0, none⟩) n n)) (w.alloc (.cells cells e)) :=
    { hpre with os := rfl, tape := rfl, output := rfl, size := hext0.size, frame := hext0.frame, cmeq := hext0.cmeq, wf := ⟨hext0.wf.cm, hext0.wf.ex, hpre.st hw⟩ }
  refine ⟨g.mint w.heap.size (n * width sh) (.slice (some ⟨w.heap.size, 0, none⟩) n n), ⟨by simpa [blocks] using hext, ⟨?_, ?_⟩, ?_⟩, ?_⟩
  · intro r hr
    simp only [List.mem_singleton] at hr; subst hr
    refine ⟨by simp [Gh.mint], ?_⟩
    cases n with
    | zero => exact .inl ⟨some ⟨w.heap.size, 0, none⟩, by simp only [Gh.mint, if_true]⟩
    | succ n => exact .inr ⟨w.heap.size, n + 1, n, cells, e, by simp only [Gh.mint, if_true], heap_alloc_new w _, Nat.le_refl _, hm, hs, by simp [Gh.mint]⟩
  · cases n <;> simp [blocks, Res.blocks, Gh.mint, blockOf]
  · intro c hc
    cases n with
    | zero => simp [blocks, Res.blocks, Gh.mint, blockOf] at hc
    | succ n => simp [blocks, Res.blocks, Gh.mint, blockOf] at hc; right; omega
  · simp only [RelV]
    refine ⟨_, _, _, rfl, hn.symm, Nat.le_refl _, ⟨by simp [Gh.mint], by simp [Gh.mint]⟩, .inr ⟨w.heap.size, 0, rfl, by simp [Gh.mint], ?_⟩⟩
    refine RelXs.mono hpre sh vs _ _ (fun i hi => ?_) hr
    rw [Nat.zero_add, cell_alloc_new]

end
end Go.Sv
