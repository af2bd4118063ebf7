/- Every operation that is settled by values gives just that value. -/
import Derived.Test.YtdkbdmfhidimmaaDoorSvSilent
import Derived.Laws.StructEq
namespace Go.Sv
open Go

section
variable {P : Program} {g : Gh} {w : World} {live : List Nat} {fr : Fr} {o : Oper} {a : Act} {N : Nat} {v : V}

theorem yields_val {s : Sem Value} {x : Value} (hw : Wf g w) (h : s.run P w = .ok x w) (hv : RelV g w v x) : Yields P (do pure (.value (← s))) g w v :=
  Yields.same hw (run_v h) hv

theorem scal_run {t : TypeId} {a b : V} {r : Bool} {x y : Value} (d : Nat) (h : eqScal P t a b = some r) (hx : RelV g w a x) (hy : RelV g w b y) : (isAgg t).run P w = .ok false w ∧ (Op.equalIn (d + 1) t x y).run P w = .ok r w := by
  unfold eqScal at h
  split at h
  · rename_i hu
    simp only [RelV] at hx hy
    subst hx; subst hy
    cases h
    exact ⟨by simp only [isAgg, Sem.run_bind, run_underlying hu, Result.andThen_ok]; rfl, run_equalIn_bool' w d t _ _ hu⟩
  · rename_i hu
    simp only [RelV] at hx hy
    subst hx; subst hy
    split at h
    · rename_i hk
      subst hk
      cases h
      exact ⟨by simp only [isAgg, Sem.run_bind, run_underlying hu, Result.andThen_ok]; rfl, run_equalIn_int w d t _ _ _ _ hu⟩
    · cases h
  · rename_i hu
    simp only [RelV] at hx hy
    subst hx; subst hy
    cases h
    exact ⟨by simp only [isAgg, Sem.run_bind, run_underlying hu, Result.andThen_ok]; rfl, run_equalIn_string w d t _ _ hu⟩
  · cases h

theorem eqFlds_run {as bs : List V} {l m : Array Value} (d : Nat) (hl : RelL g w as l.toList) (hm : RelL g w bs m.toList) : ∀ (fs : List Field) (r : Bool), eqFlds P as bs fs = some r → (fs.all fun f => decide (f.name ≠ "_")) = true → (Op.eqFields (d + 1) l m fs).run P w = .ok r w
  | [], r, h, _ => by cases h; rfl
  | f :: fs, r, h, hn => by
    rw [List.all_cons, Bool.and_eq_true] at hn
    unfold eqFlds at h
    split at h
    · rename_i a b ha hb
      split at h
      · rename_i x y hx hy
        cases h
        obtain ⟨u, hu, hru⟩ := relL_get hl ha
        obtain ⟨v, hv, hrv⟩ := relL_get hm hb
        obtain ⟨e1, e2⟩ := scal_run d hx hru hrv
        have ih := eqFlds_run d hl hm fs y hy hn.2
        have hu' : l[f.offset]? = some u := by simpa using hu
        have hv' : m[f.offset]? = some v := by simpa using hv
        have p1 : (part f.type l f.offset).run P w = .ok u w := by
          simp only [part, Sem.run_bind, e1, Result.andThen_ok, hu', Bool.false_eq_true, if_false]; rfl
        have p2 : (part f.type m f.offset).run P w = .ok v w := by
          simp only [part, Sem.run_bind, e1, Result.andThen_ok, hv', Bool.false_eq_true, if_false]; rfl
        rw [Op.eqFields, if_pos (of_decide_eq_true hn.1)]
        simp only [Sem.run_bind, p1, p2, e2, Result.andThen_ok]
        cases x with
        | false => simp
        | true => simpa using ih
      · cases h
    · cases h

theorem run_structs {t : TypeId} {fs : Array Field} {as bs : List V} {l m : Array Value} {r : Bool} (hB : structEqB P t = true) (hfs : P.underlying t = some (.struct fs)) (hr : eqFlds P as bs fs.toList = some r) (hl : RelL g w as l.toList) (hm : RelL g w bs m.toList) (op : BinOp) (x y : Operand) :
    (eqGuard op t x y (.agg l) (.agg m)).run P w = .ok () w ∧ (binOp .eql t (.agg l) (.agg m)).run P w = .ok (.bool r) w ∧ (binOp .neq t (.agg l) (.agg m)).run P w = .ok (.bool (!r)) w := by
  unfold structEqB at hB
  rw [hfs] at hB
  simp only [Bool.and_eq_true, Bool.not_eq_true'] at hB
  obtain ⟨⟨h1, h2⟩, h3⟩ := hB
  have hf : P.fieldsOf t = fs := by simp [Program.fieldsOf, hfs]
  have e := run_equalIn_agg w 9999 t l m (by rw [hf, hfs]) h1
  rw [hf, eqFlds_run 9998 hl hm fs.toList r hr h3] at e
  have e : (Op.equalIn 10000 t (.agg l) (.agg m)).run P w = .ok r w := e
  refine ⟨run_eqGuard_agg w op t x y l m h2, ?_, ?_⟩
  · rw [run_eql_struct, e]; rfl
  · rw [run_neq_struct, e]; rfl

theorem g_bin (hw : Wf g w) {op : BinOp} {t : TypeId} {x y : Operand} {u u' : V} {p q : Value} (hp : RelV g w u p) (hq : RelV g w u' q) (h : (sBin P op t x y u u').gives v) :
    Yields P (do pure (.value (← (do eqGuard op t x y p q; binOp op t p q)))) g w v := by
  unfold sBin at h
  split at h
  · split at h <;> simp [OpR.gives] at h
  · split at h <;> simp [OpR.gives] at h
  · split at h <;> simp [OpR.gives] at h
  · split at h <;> simp [OpR.gives] at h
  · -- loc eql nil
    simp only [RelV] at hp hq
    subst hp; subst hq
    split at h
    · rename_i d hd
      simp only [OpR.gives] at h; subst h
      exact yields_val hw (x := .bool false) (by simpa [eqGuard] using run_eql_pointer_nil (P := P) w t (some _) (by rw [hd]; simp [Program.pointee, hd])) (by simp only [RelV])
    · simp [OpR.gives] at h
  · -- loc neq nil
    simp only [RelV] at hp hq
    subst hp; subst hq
    split at h
    · rename_i d hd
      simp only [OpR.gives] at h; subst h
      exact yields_val hw (x := .bool true) (by simpa [eqGuard] using run_neq_pointer_nil (P := P) w t (some _) (by rw [hd]; simp [Program.pointee, hd])) (by simp only [RelV])
    · simp [OpR.gives] at h
  · -- pt eql nil
    simp only [RelV] at hq
    rw [relV_pt] at hp
    obtain ⟨b, o, rfl, _⟩ := hp
    subst hq
    split at h
    · rename_i d hd
      simp only [OpR.gives] at h; subst h
      exact yields_val hw (x := .bool false) (by simpa [eqGuard] using run_eql_pointer_nil (P := P) w t (some _) (by rw [hd]; simp [Program.pointee, hd])) (by simp only [RelV])
    · simp [OpR.gives] at h
  · -- pt neq nil
    simp only [RelV] at hq
    rw [relV_pt] at hp
    obtain ⟨b, o, rfl, _⟩ := hp
    subst hq
    split at h
    · rename_i d hd
      simp only [OpR.gives] at h; subst h
      exact yields_val hw (x := .bool true) (by simpa [eqGuard] using run_neq_pointer_nil (P := P) w t (some _) (by rw [hd]; simp [Program.pointee, hd])) (by simp only [RelV])
    · simp [OpR.gives] at h
  · -- ifc eql nil
    simp only [RelV] at hp hq
    obtain ⟨z, rfl, _⟩ := hp
    subst hq
    split at h
    · rename_i d hd
      simp only [OpR.gives] at h; subst h
      exact yields_val hw (x := .bool false) (by simpa [eqGuard] using run_eql_held_nil (P := P) w t _ _ (by rw [hd]; simp [Program.methodsAt, hd])) (by simp only [RelV])
    · simp [OpR.gives] at h
  · -- ifc neq nil
    simp only [RelV] at hp hq
    obtain ⟨z, rfl, _⟩ := hp
    subst hq
    split at h
    · rename_i d hd
      simp only [OpR.gives] at h; subst h
      exact yields_val hw (x := .bool true) (by simpa [eqGuard] using run_neq_held_nil (P := P) w t _ _ (by rw [hd]; simp [Program.methodsAt, hd])) (by simp only [RelV])
    · simp [OpR.gives] at h
  · -- <<
    simp only [RelV] at hp hq
    subst hp; subst hq
    split at h
    · split at h
      · rename_i r hr
        simp only [OpR.gives] at h; subst h
        exact yields_val hw (by simpa [eqGuard] using pureVal_run w hr) (by simp only [RelV])
      · simp [OpR.gives] at h
    · rename_i k p k' q _ _
      simp only [OpR.gives] at h
      obtain ⟨h0, rfl⟩ := h
      refine yields_val hw (x := .int k (k.wrap (p * 2 ^ min q.toNat k.bits))) ?_ (by simp only [RelV])
      simp [eqGuard, binOp, Op.shift]
      omega
  · -- >>
    simp only [RelV] at hp hq
    subst hp; subst hq
    split at h
    · split at h
      · rename_i r hr
        simp only [OpR.gives] at h; subst h
        exact yields_val hw (by simpa [eqGuard] using pureVal_run w hr) (by simp only [RelV])
      · simp [OpR.gives] at h
    · rename_i k p k' q _ _
      simp only [OpR.gives] at h
      obtain ⟨h0, rfl⟩ := h
      refine yields_val hw (x := .int k (p.fdiv (2 ^ min q.toNat k.bits))) ?_ (by simp only [RelV])
      simp [eqGuard, binOp, Op.shift]
      omega
  · -- /
    simp only [RelV] at hp hq
    subst hp; subst hq
    split at h
    · split at h
      · rename_i r hr
        simp only [OpR.gives] at h; subst h
        exact yields_val hw (by simpa [eqGuard] using pureVal_run w hr) (by simp only [RelV])
      · simp [OpR.gives] at h
    · rename_i k p k' q _ _
      split at h
      · rename_i hk; subst hk
        simp only [OpR.gives] at h
        obtain ⟨h0, rfl⟩ := h
        refine yields_val hw (x := .int k (k.wrap (p.tdiv q))) ?_ (by simp only [RelV])
        simp [eqGuard, binOp, Op.intDiv, h0]
      · simp [OpR.gives] at h
  · -- %
    simp only [RelV] at hp hq
    subst hp; subst hq
    split at h
    · split at h
      · rename_i r hr
        simp only [OpR.gives] at h; subst h
        exact yields_val hw (by simpa [eqGuard] using pureVal_run w hr) (by simp only [RelV])
      · simp [OpR.gives] at h
    · rename_i k p k' q _ _
      split at h
      · rename_i hk; subst hk
        simp only [OpR.gives] at h
        obtain ⟨h0, rfl⟩ := h
        refine yields_val hw (x := .int k (p.tmod q)) ?_ (by simp only [RelV])
        simp [eqGuard, binOp, Op.intDiv, h0]
      · simp [OpR.gives] at h
  · -- strings added
    rename_i s u
    simp only [RelV] at hp hq
    subst hp; subst hq
    simp only [OpR.gives] at h
    obtain ⟨hle, rfl⟩ := h
    refine yields_val hw ?_ (x := .string (s ++ u)) (by simp only [RelV])
    simp only [eqGuard, binOp, Op.stringOp]
    simp [IntKind.max, IntKind.signed, IntKind.bits]
    omega
  · -- structs
    simp only [RelV] at hp hq
    obtain ⟨l, rfl, hl⟩ := hp
    obtain ⟨m, rfl, hm⟩ := hq
    split at h
    · rename_i fs hfs
      split at h
      · rename_i r hr
        simp only [OpR.gives] at h
        obtain ⟨hB, rfl⟩ := h
        obtain ⟨e1, e2, _⟩ := run_structs hB hfs hr hl hm .eql x y
        refine yields_val hw (x := .bool r) ?_ (by simp only [RelV])
        simp only [Sem.run_bind, e1, e2, Result.andThen_ok]
      · simp [OpR.gives] at h
    · simp [OpR.gives] at h
  · -- structs
    simp only [RelV] at hp hq
    obtain ⟨l, rfl, hl⟩ := hp
    obtain ⟨m, rfl, hm⟩ := hq
    split at h
    · rename_i fs hfs
      split at h
      · rename_i r hr
        simp only [OpR.gives] at h
        obtain ⟨hB, rfl⟩ := h
        obtain ⟨e1, _, e2⟩ := run_structs hB hfs hr hl hm .neq x y
        refine yields_val hw (x := .bool (!r)) ?_ (by simp only [RelV])
        simp only [Sem.run_bind, e1, e2, Result.andThen_ok]
      · simp [OpR.gives] at h
    · simp [OpR.gives] at h
  · rename_i c d _ _ _
    simp only [RelV] at hp hq
    subst hp; subst hq
    split at h
    · rename_i r hr
      simp only [OpR.gives] at h
      subst h
      exact yields_val hw (pureVal_run w hr) (by simp [RelV])
    · simp [OpR.gives] at h
  · simp [OpR.gives] at h

theorem cm_lt (hw : Wf g w) {b o n : Nat} (h : o + n ≤ g.cm b) (hn : 0 < n) : b < w.heap.size := by
  rcases Nat.lt_or_ge b w.heap.size with h1 | h1
  · exact h1
  · have := hw.cm b h1; omega

/-- Cuts of a slice. -/
theorem relV_cut {sh : Option Nat} {xs : List V} {tok : Tk} {A : Option Addr} {n c l h : Nat} {size : Nat} (hs : size = width sh) (hx : RelV g w (.sl sh xs tok) (.slice A n c)) (hl : l ≤ h) (hh : h ≤ xs.length) :
    RelV g w (.sl sh ((xs.take h).drop l) .no) (.slice (if c = l then A else A.map (·.add (l * size))) (h - l) (c - l)) := by
  subst hs
  simp only [RelV] at hx ⊢
  obtain ⟨A', n', c', he, hn, hc, _, hr⟩ := hx
  injection he with e1 e2 e3
  subst e1; subst e2; subst e3
  refine ⟨_, _, _, rfl, by simp; omega, by omega, trivial, ?_⟩
  rcases hr with rfl | ⟨b, o, rfl, hle, hr⟩
  · left; simp
  · by_cases hlh : l = h
    · left
      subst hlh
      simp
    · right
      have hcl : ¬ c = l := by omega
      rw [if_neg hcl]
      have hm : l * width sh + (h - l) * width sh = h * width sh := by rw [← Nat.add_mul]; congr 1; omega
      have hm2 : h * width sh ≤ n * width sh := Nat.mul_le_mul_right _ (by omega)
      refine ⟨b, o + l * width sh, by simp [Addr.add_lit], by omega, ?_⟩
      refine relXs_of_get fun i v hv => ?_
      rw [List.getElem?_drop, List.getElem?_take] at hv
      split at hv
      · have := relXs_get hr hv
        refine relE_congr this fun j _ => ?_
        congr 1
        rw [Nat.add_mul]; omega
      · cases hv

theorem run_sliceBound {y l : Nat} {code : BoundsCode} {k : IntKind} (h : l ≤ y) : (Instr.sliceBound (.int k (l : Int)) y code).run P w = .ok l w := by
  simp [Instr.sliceBound, asIntOf]
  omega

theorem g_slice_slice (hw : Wf g w) {t e : TypeId} {sh : Option Nat} {xs : List V} {tok : Tk} {x : Value} (ht : P.underlying t = some (.slice e)) (hsh : shapeOf P e = some sh) (hx : RelV g w (.sl sh xs tok) x)
    {lo hi : Option Value} {l h : Nat} (hlo : (lo = none ∧ l = 0) ∨ ∃ k, lo = some (.int k (l : Int))) (hhi : (hi = none ∧ h = xs.length) ∨ ∃ k, hi = some (.int k (h : Int))) (hl : l ≤ h) (hh : h ≤ xs.length) :
    ∃ y, (Instr.slice t x lo hi none).run P w = .ok y w ∧ RelV g w (.sl sh ((xs.take h).drop l) .no) y := by
  obtain ⟨i, hi', hs⟩ := shape_info hsh
  have hx' := hx
  simp only [RelV] at hx'
  obtain ⟨A, n, c, rfl, hn, hc, _, _⟩ := hx'
  refine ⟨_, ?_, relV_cut hs hx hl hh⟩
  have hb : (Instr.sliceBounds true n c lo hi none).run P w = .ok (l, h, c) w := by
    rcases hlo with ⟨rfl, rfl⟩ | ⟨k, rfl⟩ <;> rcases hhi with ⟨rfl, rfl⟩ | ⟨k', rfl⟩
    · simp [Instr.sliceBounds, hn]
    · simp [Instr.sliceBounds, run_sliceBound (P := P) (w := w) (show h ≤ c by omega)]
    · simp [Instr.sliceBounds, hn, run_sliceBound (P := P) (w := w) (show l ≤ xs.length by omega)]
    · simp [Instr.sliceBounds, run_sliceBound (P := P) (w := w) (show h ≤ c by omega), run_sliceBound (P := P) (w := w) hl]
  simp [Instr.slice, run_underlying ht, hb, run_sizeOf' hi']

theorem g_slice3 (hw : Wf g w) {t e : TypeId} {sh : Option Nat} {xs : List V} {tok : Tk} {x : Value} (ht : P.underlying t = some (.slice e)) (hsh : shapeOf P e = some sh) (hx : RelV g w (.sl sh xs tok) x)
    {lo : Option Value} {l h m : Nat} (hlo : (lo = none ∧ l = 0) ∨ ∃ k, lo = some (.int k (l : Int))) (k' k2 : IntKind) (hl : l ≤ h) (hh : h ≤ m) (hm : m ≤ xs.length) :
    ∃ y, (Instr.slice t x lo (some (.int k' (h : Int))) (some (.int k2 (m : Int)))).run P w = .ok y w ∧ RelV g w (.sl sh ((xs.take h).drop l) .no) y := by
  obtain ⟨i, hi', hs⟩ := shape_info hsh
  have hx' := hx
  simp only [RelV] at hx'
  obtain ⟨A, n, c, rfl, hn, hc, _, _⟩ := hx'
  have hb : (Instr.sliceBounds true n c lo (some (.int k' (h : Int))) (some (.int k2 (m : Int)))).run P w = .ok (l, h, m) w := by
    have hmc : m ≤ c := by omega
    rcases hlo with ⟨rfl, rfl⟩ | ⟨k, rfl⟩ <;>
      simp [Instr.sliceBounds, run_sliceBound (P := P) (w := w) hh, run_sliceBound (P := P) (w := w) hl, run_sliceBound (P := P) (w := w) hmc]
  refine ⟨_, by simp [Instr.slice, run_underlying ht, hb, run_sizeOf' hi']; rfl, ?_⟩
  have hcut := relV_cut hs hx hl (Nat.le_trans hh hm)
  simp only [RelV] at hcut ⊢
  obtain ⟨a, n', c', e1, e2, e3, _, e5⟩ := hcut
  injection e1 with e6 e7 e8
  refine ⟨_, _, _, rfl, by rw [e7]; exact e2, by omega, trivial, ?_⟩
  by_cases hml : m = l
  · left
    have : h = l := by omega
    subst this
    simp
  · rw [if_neg hml]
    rw [if_neg (by omega)] at e6
    rw [e6, e7]
    exact e5

/-- Cuts of a slice whose elements may change. -/
theorem g_lslice {t e : TypeId} {sh : Option Nat} {b o n c : Nat} {x : Value} (ht : P.underlying t = some (.slice e)) (hsh : shapeOf P e = some sh) (hx : RelV g w (.lsl sh b o n c) x)
    {lo hi mx : Option Value} {l h m : Nat} (hlo : (lo = none ∧ l = 0) ∨ ∃ k, lo = some (.int k (l : Int))) (hhi : (hi = none ∧ mx = none ∧ h = n) ∨ ∃ k, hi = some (.int k (h : Int))) (hmx : (mx = none ∧ m = c) ∨ ∃ k, mx = some (.int k (m : Int))) (hl : l ≤ h) (hh : h ≤ m) (hm : m ≤ c) :
    ∃ y, (Instr.slice t x lo hi mx).run P w = .ok y w ∧ RelV g w (.lsl sh b (o + l * width sh) (h - l) (m - l)) y := by
  obtain ⟨i, hi', hs⟩ := shape_info hsh
  simp only [RelV] at hx
  obtain ⟨A, rfl, hc, hA⟩ := hx
  have hb : (Instr.sliceBounds true n c lo hi mx).run P w = .ok (l, h, m) w := by
    rcases hlo with ⟨rfl, rfl⟩ | ⟨k, rfl⟩ <;> rcases hhi with ⟨rfl, rfl, rfl⟩ | ⟨k', rfl⟩ <;> rcases hmx with ⟨e1, rfl⟩ | ⟨k2, e1⟩ <;> (try cases e1) <;>
      simp [Instr.sliceBounds, run_sliceBound (P := P) (w := w) hh, run_sliceBound (P := P) (w := w) hl, run_sliceBound (P := P) (w := w) hm]
  refine ⟨_, by simp [Instr.slice, run_underlying ht, hb, run_sizeOf' hi']; rfl, ?_⟩
  simp only [RelV]
  refine ⟨_, rfl, by omega, ?_⟩
  by_cases hml : m = l
  · left; omega
  · right
    rw [if_neg hml]
    rcases hA with hA | rfl
    · omega
    · simp [Addr.add_lit, hs]
theorem g_lzero {t e : TypeId} {sh : Option Nat} {b o n c : Nat} {x : Value} (ht : P.underlying t = some (.slice e)) (hsh : shapeOf P e = some sh) (hx : RelV g w (.lsl sh b o n c) x)
    {lo : Option Value} (hlo : lo = none ∨ ∃ k, lo = some (.int k 0)) (k k' : IntKind) :
    ∃ y, (Instr.slice t x lo (some (.int k 0)) (some (.int k' 0))).run P w = .ok y w ∧ RelV g w (.sl sh [] .zero) y := by
  obtain ⟨y, h1, h2⟩ := g_lslice (P := P) (l := 0) (h := 0) (m := 0) ht hsh hx (lo := lo) (hi := some (.int k 0)) (mx := some (.int k' 0)) (by
    rcases hlo with h | ⟨k, h⟩
    · exact .inl ⟨h, rfl⟩
    · exact .inr ⟨k, h⟩) (.inr ⟨k, rfl⟩) (.inr ⟨k', rfl⟩) (Nat.le_refl _) (Nat.le_refl _) (Nat.zero_le _)
  refine ⟨y, h1, ?_⟩
  simp only [RelV] at h2 ⊢
  obtain ⟨a, rfl, _⟩ := h2
  exact ⟨a, 0, 0, rfl, rfl, Nat.le_refl _, rfl, .inl (by trivial)⟩

theorem g_slice_string {t : TypeId} {s : ByteArray} (ht : P.underlying t = some .string)
    {lo hi : Option Value} {l h : Nat} (hlo : (lo = none ∧ l = 0) ∨ ∃ k, lo = some (.int k (l : Int))) (hhi : (hi = none ∧ h = s.size) ∨ ∃ k, hi = some (.int k (h : Int))) (hl : l ≤ h) (hh : h ≤ s.size) :
    (Instr.slice t (.string s) lo hi none).run P w = .ok (.string (s.extract l h)) w := by
  have hb : (Instr.sliceBounds false s.size s.size lo hi none).run P w = .ok (l, h, s.size) w := by
    rcases hlo with ⟨rfl, rfl⟩ | ⟨k, rfl⟩ <;> rcases hhi with ⟨rfl, rfl⟩ | ⟨k', rfl⟩
    · simp [Instr.sliceBounds]
    · simp [Instr.sliceBounds, run_sliceBound (P := P) (w := w) hh]
    · simp [Instr.sliceBounds, run_sliceBound (P := P) (w := w) hl]
    · simp [Instr.sliceBounds, run_sliceBound (P := P) (w := w) hh, run_sliceBound (P := P) (w := w) hl]
  simp [Instr.slice, run_underlying ht, hb]

theorem g_slice_zero {t e : TypeId} {sh : Option Nat} {xs : List V} {tok : Tk} {x : Value} (ht : P.underlying t = some (.slice e)) {j : TypeInfo} (hj : P.info? e = some j) (hx : RelV g w (.sl sh xs tok) x)
    {lo : Option Value} (hlo : lo = none ∨ ∃ k, lo = some (.int k 0)) (k k' : IntKind) :
    ∃ y, (Instr.slice t x lo (some (.int k 0)) (some (.int k' 0))).run P w = .ok y w ∧ RelV g w (.sl sh [] .zero) y := by
  simp only [RelV] at hx
  obtain ⟨A, n, c, rfl, hn, hc, _, _⟩ := hx
  have hb : (Instr.sliceBounds true n c lo (some (.int k 0)) (some (.int k' 0))).run P w = .ok (0, 0, 0) w := by
    rcases hlo with rfl | ⟨k, rfl⟩ <;> simp [Instr.sliceBounds, Instr.sliceBound, asIntOf]
  refine ⟨_, by simp [Instr.slice, run_underlying ht, hb, run_sizeOf' hj]; rfl, ?_⟩
  simp only [RelV]
  exact ⟨_, _, _, rfl, rfl, Nat.le_refl _, rfl, .inl (by trivial)⟩

theorem byteAt_get {s : ByteArray} {n : Nat} (h : n < s.size) : s[n]? = some (byteAt s n) := by
  unfold byteAt
  have h' : n < s.data.toList.length := by simpa using h
  rw [List.getD_eq_getElem?_getD, List.getElem?_eq_getElem h', getElem?_pos s n h]
  rfl

theorem g_fieldAddr {s : TypeId} {f : Nat} {fd : Field} (hf : fieldOf P s f = some fd) {i : TypeInfo} (hi : P.info? fd.type = some i) (h0 : i.size ≠ 0) (b o : Nat) :
    (Instr.fieldAt s (.pointer (some ⟨b, o, none⟩)) f).run P w = .ok (.pointer (some ⟨b, o + fd.offset, none⟩)) w := by
  unfold fieldOf at hf
  split at hf
  · rename_i fs hu
    simp [Instr.fieldAt, run_underlying hu, hf, Instr.sureAddr, fieldPlace, run_sizeOf' hi, h0, Addr.add_lit]
  · cases hf

theorem rel_map (hF : RelF N g w fr a.tmps) (l : List Operand) : RelL g w (l.map (ev fr)) (l.map a.eval) :=
  relL_map (ev fr) a.eval l fun x _ => ev_rel hF x

theorem opt_lo (hF : RelF N g w fr a.tmps) {lo : Option Operand} {k : IntKind} {l : Int} (h : lo.map (ev fr) = some (.c (.int k l))) (h0 : 0 ≤ l) : ∃ k', lo.map a.eval = some (.int k' (l.toNat : Int)) := by
  cases lo with
  | none => simp at h
  | some x =>
    simp at h
    have := ev_rel hF x
    rw [h] at this
    simp only [RelV] at this
    exact ⟨k, by simp [this, Int.toNat_of_nonneg h0]⟩

theorem opt_none {lo : Option Operand} (h : lo.map (ev fr) = none) : lo.map a.eval = none := by
  cases lo with
  | none => rfl
  | some x => simp at h

theorem rel_one {vs : V} {xs : List Value} (h : RelL g w [vs] xs) : ∃ x, xs = [x] ∧ RelV g w vs x := by
  simp only [RelL] at h
  obtain ⟨x, ys, rfl, h1, rfl⟩ := h
  exact ⟨x, rfl, h1⟩
theorem rel_two {u v : V} {xs : List Value} (h : RelL g w [u, v] xs) : ∃ x y, xs = [x, y] ∧ RelV g w u x ∧ RelV g w v y := by
  simp only [RelL] at h
  obtain ⟨x, ys, rfl, h1, y, zs, rfl, h2, rfl⟩ := h
  exact ⟨x, y, rfl, h1, h2⟩
theorem head_some {ats : Array TypeId} {d : TypeDesc} (h : (ats.toList.head?).bind P.underlying = some d) : ∃ t ts, ats.toList = t :: ts ∧ P.underlying t = some d := by
  cases hl : ats.toList with
  | nil => simp [hl] at h
  | cons t ts => simp [hl] at h; exact ⟨t, ts, rfl, h⟩

theorem arr_of {args : Array Operand} {l : List Value} (h : (args.map a.eval).toList = l) : args.map a.eval = l.toArray := by
  apply Array.ext'; simpa using h
theorem arr_zero {ats : Array TypeId} {t : TypeId} {ts : List TypeId} (h : ats.toList = t :: ts) : ats[0]? = some t := by
  rw [← Array.getElem?_toList, h]; rfl

theorem parts_rel (hF : RelF N g w fr a.tmps) : ∀ l : List (Nat × Operand), RelL g w (l.map fun p => ev fr p.2) (l.map fun p => a.eval p.2)
  | l => relL_map (fun p : Nat × Operand => ev fr p.2) (fun p => a.eval p.2) l fun p _ => ev_rel hF p.2

/-- '[]byte(s)'. -/
theorem bytes_row (hw : Wf g w) (e : TypeId) (s : ByteArray) : ∃ g', Ext [] g w g' (Lib.bytesWorld w e s) ∧
    RelV g' (Lib.bytesWorld w e s) (.sl none (s.data.toList.map fun b => .c (.int .u8 b.toNat)) .no) (.slice (some ⟨w.heap.size, 0, none⟩) s.size (grownCap w s.size 0 e)) := by
  have hcell : ∀ j, j < s.size → cell (Lib.bytesWorld w e s) w.heap.size j = some (.int .u8 (s.data.toList.getD j 0).toNat) := fun j hj => Lib.bytesWorld_cell w e s j hj
  refine ⟨g.with w.heap.size s.size, ?_, ?_⟩
  · exact {
      cmle := fun b => by
        simp only [Gh.with]; split
        · rename_i h; subst h; rw [hw.cm _ (Nat.le_refl _)]; omega
        · exact Nat.le_refl _
      com := fun b o ho => Lib.bytesWorld_old w e s ⟨b, o, none⟩ (by
        rcases Nat.lt_or_ge b w.heap.size with h | h
        · exact h
        · rw [hw.cm b h] at ho; omega)
      nt := Nat.le_refl _
      th := fun _ _ => rfl
      os := rfl
      tape := rfl
      output := rfl
      size := by rw [Lib.bytesWorld_size]; omega
      frame := fun b hb _ => Lib.bytesWorld_at_old w e s b hb
      cmeq := fun b hb _ => by simp only [Gh.with]; rw [if_neg (by omega)]
      wf := ⟨fun b hb => by
          rw [Lib.bytesWorld_size] at hb
          simp only [Gh.with]; rw [if_neg (by omega)]; exact hw.cm b (by omega),
        fun b o ho => by
          simp only [Gh.with] at ho
          split at ho
          · rename_i h; subst h; rw [hcell o ho]; rfl
          · have := hw.ex b o ho
            have hb : b < w.heap.size := by
              rcases Nat.lt_or_ge b w.heap.size with h | h
              · exact h
              · rw [hw.cm b h] at ho; omega
            have e1 : cell (Lib.bytesWorld w e s) b o = cell w b o := Lib.bytesWorld_old w e s ⟨b, o, none⟩ hb
            rw [e1]; exact this,
        fun p hm => by
          obtain ⟨v, h1, h2, h3⟩ := hw.st p hm
          have hlt : p.1 < w.heap.size := by
            rcases Nat.lt_or_ge p.1 w.heap.size with h | h
            · exact h
            · rw [hw.cm _ h] at h3; omega
          exact ⟨v, (Lib.bytesWorld_old w e s ⟨p.1, 0, none⟩ hlt).trans h1, h2, by simp only [Gh.with]; rw [if_neg (by omega)]; exact h3⟩⟩ }
  · simp only [RelV]
    refine ⟨_, _, _, rfl, by simp, grownCap_ge w s.size 0 e, trivial, .inr ⟨w.heap.size, 0, rfl, by simp [Gh.with, width], ?_⟩⟩
    refine relXs_of_get fun i v hv => ?_
    have hi := (List.getElem?_eq_some_iff.1 hv).1
    simp at hi
    refine ⟨.int .u8 (s.data.toList.getD i 0).toNat, by simpa [width] using hcell i hi, ?_⟩
    have hi' : i < s.data.toList.length := by simpa using hi
    rw [List.getElem?_map, List.getElem?_eq_getElem hi'] at hv
    simp only [Option.map_some, Option.some.injEq] at hv
    subst hv
    simp only [RelV, List.getD_eq_getElem?_getD, List.getElem?_eq_getElem hi', Option.getD_some]

theorem run_bytes_string {src dst e : TypeId} {xs : List V} {tok : Tk} {x : Value} (hs : P.underlying src = some (.slice e)) (he : P.underlying e = some (.int .u8)) (hd : P.underlying dst = some .string)
    (hall : ∀ v ∈ xs, ∃ n : UInt8, v = .c (.int .u8 n.toNat)) (hx : RelV g w (.sl none xs tok) x) :
    (convert src dst x).run P w = .ok (.string ⟨(xs.map byteOf).toArray⟩) w := by
  simp only [RelV] at hx
  obtain ⟨A, n, c, rfl, hn, hc, _, hr⟩ := hx
  rcases hr with rfl | ⟨b, o, rfl, hle, hr⟩
  · simp at hn; subst hn
    rw [run_convert_bytes_string w src dst e _ 0 c hs he hd]
    cases A <;> simp [Conv.bytesToString, loadCells, loadCellsFrom]
    all_goals rfl
  · have hget : ∀ i (hi : i < xs.length), ∃ u : UInt8, xs[i] = .c (.int .u8 u.toNat) ∧ cell w b (o + i) = some (.int .u8 u.toNat) := by
      intro i hi
      obtain ⟨u, hu⟩ := hall xs[i] (List.getElem_mem _)
      have := relXs_get hr (List.getElem?_eq_getElem hi)
      rw [hu] at this
      obtain ⟨y, hy, hv⟩ := this
      simp only [RelV] at hv
      subst hv
      exact ⟨u, hu, by simpa [width] using hy⟩
    have := run_convert_bytes_arg (P := P) w src e hs he b o n c (xs.map fun v => ((byteOf v).toNat : Int)) (by simp [hn]) (fun i hi => by
      obtain ⟨u, h1, h2⟩ := hget i (by omega)
      have hi' : i < xs.length := by omega
      simp only [cell] at h2
      rw [h2]
      simp [List.getD_eq_getElem?_getD, List.getElem?_eq_getElem hi', h1, byteOf]) dst hd
    rw [this]
    congr 2
    simp [strOfNums, List.map_map, Function.comp_def]

theorem run_places {P : Program} {w : World} {fs : Array Field} (hall : fs.toList.all (fun f => (P.info? f.type).isSome) = true) :
    ∃ places : Array (Nat × Nat), Sem.run P (fs.mapM fun (f : Field) => Prod.mk f.offset <$> sizeOf f.type) w = .ok places w ∧
      ∀ k : Nat, places[k]? = (fs[k]?).bind fun (f : Field) => (P.info? f.type).map fun j => (f.offset, j.size) := by
  have key : ∀ (l : List Field), l.all (fun f => (P.info? f.type).isSome) = true → ∃ ps : List (Nat × Nat), Sem.run P (l.mapM fun (f : Field) => Prod.mk f.offset <$> sizeOf f.type) w = .ok ps w ∧
      ∀ k : Nat, ps[k]? = (l[k]?).bind fun (f : Field) => (P.info? f.type).map fun j => (f.offset, j.size) := by
    intro l
    induction l with
    | nil => intro _; exact ⟨[], by simp, by simp⟩
    | cons f l ih =>
      intro h
      simp only [List.all_cons, Bool.and_eq_true] at h
      obtain ⟨j, hj⟩ := Option.isSome_iff_exists.1 h.1
      obtain ⟨ps, h1, h2⟩ := ih h.2
      refine ⟨(f.offset, j.size) :: ps, ?_, ?_⟩
      · simp [List.mapM_cons, run_sizeOf' hj, h1]
      · intro k
        cases k with
        | zero => simp [hj]
        | succ k => simp [h2]
  obtain ⟨ps, h1, h2⟩ := key fs.toList hall
  refine ⟨ps.toArray, ?_, fun k => by simp [h2]⟩
  rw [Array.mapM_eq_mapM_toList]
  simp [h1]

theorem run_build_struct (hF : RelF N g w fr a.tmps) {t : TypeId} {fs : Array Field} {i : TypeInfo} {z : Value} {parts : Array (Nat × Operand)} {cs : List V} (ht : P.underlying t = some (.struct fs)) (hi : P.info? t = some i) (hz : i.zero = some z)
    (hall : fs.toList.all (fun f => (P.info? f.type).isSome) = true) (hcs : fillV (fun k => (fs[k]?).bind fun f => (P.info? f.type).map fun j => (f.offset, j.size)) ((cellsO (ofC z)).getD []) (parts.toList.map fun (k, x) => (k, ev fr x)) = some cs) :
    ∃ l, (Instr.build t (parts.map fun (i, x) => (i, a.eval x))).run P w = .ok (.agg l) w ∧ RelL g w cs l.toList := by
  obtain ⟨places, h1, h2⟩ := run_places (P := P) (w := w) hall
  have hzc : RelL g w ((cellsO (ofC z)).getD []) z.cells.toList := zero_rel z
  obtain ⟨l, h3, h4⟩ := fillV_rel (place := (places[·]?)) (parts.toList.map fun (k, x) => (k, ev fr x)) (parts.toList.map fun (k, x) => (k, a.eval x)) _ cs z.cells hzc (by simp [List.map_map, Function.comp_def]) (by simpa [List.map_map, Function.comp_def] using parts_rel hF parts.toList)
    (by rw [← hcs]; congr 1; funext k; exact (h2 k))
  refine ⟨l, ?_, h4⟩
  simp [Instr.build, zeroValue, typeInfo, hi, hz, run_underlying ht, h1, h3]

theorem run_build_array (hF : RelF N g w fr a.tmps) {t e : TypeId} {len : Nat} {i j : TypeInfo} {z : Value} {parts : Array (Nat × Operand)} {cs : List V} (ht : P.underlying t = some (.array len e)) (hi : P.info? t = some i) (hz : i.zero = some z)
    (hj : P.info? e = some j) (hcs : fillV (fun k => some (k * j.size, j.size)) ((cellsO (ofC z)).getD []) (parts.toList.map fun (k, x) => (k, ev fr x)) = some cs) :
    ∃ l, (Instr.build t (parts.map fun (i, x) => (i, a.eval x))).run P w = .ok (.agg l) w ∧ RelL g w cs l.toList := by
  have hzc : RelL g w ((cellsO (ofC z)).getD []) z.cells.toList := zero_rel z
  obtain ⟨l, h3, h4⟩ := fillV_rel (place := fun k => some (k * j.size, j.size)) (parts.toList.map fun (k, x) => (k, ev fr x)) (parts.toList.map fun (k, x) => (k, a.eval x)) _ cs z.cells hzc (by simp [List.map_map, Function.comp_def]) (by simpa [List.map_map, Function.comp_def] using parts_rel hF parts.toList) hcs
  refine ⟨l, ?_, h4⟩
  simp [Instr.build, zeroValue, typeInfo, hi, hz, run_underlying ht, run_sizeOf' hj, h3]

set_option maxHeartbeats 1000000 in
theorem sOp_gives (hw : Wf g w) (hF : RelF N g w fr a.tmps) (h : (sOp P live fr o).gives v) : Yields P (execOp a.eval o) g w v := by
  unfold sOp at h
  unfold execOp
  cases hop : o.op with
  | move x => simp only [hop, OpR.gives] at h; subst h; exact Yields.same hw rfl (ev_rel hF x)
  | assign x => simp only [hop, OpR.gives] at h; subst h; exact Yields.same hw rfl (ev_rel hF x)
  | pick c x y =>
    simp only [hop] at h
    split at h
    · rename_i t hc
      have := ev_rel hF c
      rw [hc] at this
      simp only [RelV] at this
      cases t <;> simp only [OpR.gives] at h <;> subst h
      · exact Yields.same hw (by simp [this, asBool]) (ev_rel hF y)
      · exact Yields.same hw (by simp [this, asBool]) (ev_rel hF x)
    · simp [OpR.gives] at h
  | alloc t => simp only [hop] at h; (repeat' split at h) <;> simp [OpR.gives] at h
  | box t x =>
    simp only [hop] at h
    split at h
    · rename_i sh hsh
      split at h
      · split at h <;> simp [OpR.gives] at h
      · split at h
        · rename_i hf
          simp only [OpR.gives] at h
          subst h
          obtain ⟨g', y, hr, he, hv⟩ := y_box (P := P) hw (t := t) hf (ev_rel hF x)
          exact ⟨y, g', _, run_v hr, he, hv⟩
        · simp [OpR.gives] at h
    · simp [OpR.gives] at h
  | load t x =>
    simp only [hop] at h
    split at h
    · rename_i sh sh' u off hsh hx
      have hv := ev_rel hF x
      rw [hx] at hv
      split at h
      · rename_i he
        simp only [OpR.gives] at h
        obtain ⟨y, hy, hr⟩ := y_load (P := P) hsh hv (u := v) (.inl ⟨he.1, he.2, h.symm⟩)
        exact yields_val hw hy hr
      · split at h
        · rename_i k cs
          split at h
          · rename_i u hp
            simp only [OpR.gives] at h; subst h
            obtain ⟨y, hy, hr⟩ := y_load (P := P) hsh hv (.inr ⟨_, _, rfl, rfl, hp⟩)
            exact yields_val hw hy hr
          · simp [OpR.gives] at h
        · simp [OpR.gives] at h
    · simp [OpR.gives] at h
    · simp [OpR.gives] at h
  | store t x y => simp only [hop] at h; (repeat' split at h) <;> simp [OpR.gives] at h
  | nilCheck x =>
    simp only [hop] at h
    have hv := ev_rel hF x
    split at h <;> simp only [OpR.gives] at h <;> (try subst h)
    · rename_i hx; rw [hx] at hv
      have := hv
      rw [relV_pt] at this
      obtain ⟨b, o, he, _⟩ := this
      exact Yields.same hw (by simp only [he]; rfl) (he ▸ hv)
    · rename_i hx; rw [hx] at hv
      have := hv
      simp only [RelV] at this
      exact Yields.same hw (by simp only [this]; rfl) (this ▸ hv)
    · rename_i hx; rw [hx] at hv
      have := hv
      simp only [RelV] at this
      obtain ⟨l, m, he, _⟩ := this
      exact Yields.same hw (by simp only [he]; rfl) (he ▸ hv)
    · rename_i hx; rw [hx] at hv
      have := hv
      simp only [RelV] at this
      exact Yields.same hw (by simp only [this]; rfl) (this ▸ hv)
    · rename_i hx; rw [hx] at hv
      have := hv
      simp only [RelV] at this
      obtain ⟨l, m, he, _⟩ := this
      exact Yields.same hw (by simp only [he]; rfl) (he ▸ hv)
  | binOp op t x y ty => simp only [hop] at h; exact g_bin hw (ev_rel hF x) (ev_rel hF y) h
  | unOp op t x =>
    simp only [hop] at h
    split at h
    · rename_i u hx
      have hv := ev_rel hF x
      rw [hx] at hv
      simp only [RelV] at hv
      split at h
      · rename_i r hr
        simp only [OpR.gives] at h; subst h
        exact yields_val hw (by rw [hv]; exact pureVal_run w hr) (by simp only [RelV])
      · simp [OpR.gives] at h
    · simp [OpR.gives] at h
  | convert src dst x =>
    simp only [hop] at h
    have hv := ev_rel hF x
    split at h
    · rename_i k k2 n hs hd hx; rw [hx] at hv
      simp only [RelV] at hv
      simp only [OpR.gives] at h; subst h
      exact yields_val hw (x := .int k (k.wrap n)) (by rw [hv]; simp [Go.convert, run_underlying hs, run_underlying hd, Conv.intToInt]) (by simp only [RelV])
    · rename_i s hs hd hx; rw [hx] at hv
      simp only [RelV] at hv
      simp only [OpR.gives] at h; subst h
      exact yields_val hw (x := .string s) (by rw [hv]; simp [Go.convert, run_underlying hs, run_underlying hd]) (by simp only [RelV])
    · rename_i e s hs hd hx; rw [hx] at hv
      simp only [RelV] at hv
      split at h
      · rename_i he
        split at h
        · split at h <;> simp [OpR.gives] at h
        · simp only [OpR.gives] at h; subst h
          obtain ⟨g', h1, h2⟩ := bytes_row hw e s
          exact ⟨_, g', _, run_v (by rw [hv]; exact Lib.run_convert_string_bytes w src dst e s hs hd he), h1, h2⟩
      · simp [OpR.gives] at h
    · rename_i e xs tok hs hd hx; rw [hx] at hv
      split at h
      · rename_i he
        simp only [OpR.gives] at h
        obtain ⟨hall, rfl⟩ := h
        exact yields_val hw (run_bytes_string hs he hd hall hv) (by simp only [RelV])
      · simp [OpR.gives] at h
    · split at h <;> simp [OpR.gives] at h
    · simp [OpR.gives] at h
  | makeInterface t x =>
    simp only [hop] at h
    have hv := ev_rel hF x
    split at h
    · simp [OpR.gives] at h
    · rename_i d c hni hd hx
      rw [hx] at hv
      simp only [RelV] at hv
      simp only [OpR.gives] at h; subst h
      refine yields_val hw ?_ (x := .iface t c) (by simp only [RelV])
      rw [hv]
      simp only [Instr.makeInterface, Sem.run_bind, run_underlying hd, Result.andThen_ok]
      try (cases d <;> first | rfl | (exfalso; simp_all))
    · rename_i d hni _ hd
      simp only [OpR.gives] at h; subst h
      refine yields_val hw ?_ (x := .iface t (a.eval x)) (by simp only [RelV]; exact ⟨_, rfl, hv⟩)
      simp only [Instr.makeInterface, Sem.run_bind, run_underlying (by assumption), Result.andThen_ok]
      try (cases d <;> first | rfl | (exfalso; simp_all))
    · simp [OpR.gives] at h
  | makeFunc f first caps =>
    simp only [hop, OpR.gives] at h; subst h
    refine yields_val hw (x := .func f (first.map a.eval) (caps.map a.eval)) rfl ?_
    simp only [RelV]
    exact ⟨_, _, rfl, by simpa using rel_map hF first.toList, by simpa using rel_map hF caps.toList⟩
  | slice t x lo hi mx =>
    simp only [hop] at h
    have hv := ev_rel hF x
    have hlo0 : ∀ {l : Int}, 0 ≤ l → ((l.toNat : Nat) : Int) = l := fun h => Int.toNat_of_nonneg h
    split at h
    · -- a string
      rename_i s ht hx
      rw [hx] at hv
      simp only [RelV] at hv
      have hsl : ∀ {lo' hi' : Option Value}, (Instr.sliceAt t (.string s) lo' hi' none).run P w = (Instr.slice t (.string s) lo' hi' none).run P w := by
        intro lo' hi'; simp [Instr.sliceAt, run_underlying ht]
      split at h
      · rename_i h1 h2
        simp only [OpR.gives] at h; subst h
        refine yields_val hw (x := .string s) ?_ (by simp only [RelV])
        rw [hv, opt_none h1, opt_none h2]
        simp only [Option.map_none]
        rw [hsl, g_slice_string ht (.inl ⟨rfl, rfl⟩) (.inl ⟨rfl, rfl⟩) (Nat.zero_le _) (Nat.le_refl _)]
        congr 2
        exact ByteArray.extract_zero_size
      · rename_i k l h1 h2
        simp only [OpR.gives] at h
        obtain ⟨⟨h0, hle⟩, rfl⟩ := h
        obtain ⟨k', hk'⟩ := opt_lo hF h1 h0
        refine yields_val hw (x := .string (s.extract l.toNat s.size)) ?_ (by simp only [RelV])
        rw [hv, opt_none h2, hk']
        simp only [Option.map_none]
        rw [hsl, g_slice_string ht (.inr ⟨_, rfl⟩) (.inl ⟨rfl, rfl⟩) (by omega) (Nat.le_refl _)]
      · rename_i k l h1 h2
        simp only [OpR.gives] at h
        obtain ⟨⟨h0, hle⟩, rfl⟩ := h
        obtain ⟨k', hk'⟩ := opt_lo hF h2 h0
        refine yields_val hw (x := .string (s.extract 0 l.toNat)) ?_ (by simp only [RelV])
        rw [hv, opt_none h1, hk']
        simp only [Option.map_none]
        rw [hsl, g_slice_string ht (.inl ⟨rfl, rfl⟩) (.inr ⟨_, rfl⟩) (by omega) (by omega)]
      · rename_i k l k2 l2 h1 h2
        simp only [OpR.gives] at h
        obtain ⟨⟨h0, hle, hle2⟩, rfl⟩ := h
        obtain ⟨k', hk'⟩ := opt_lo hF h1 h0
        obtain ⟨k2', hk2'⟩ := opt_lo hF h2 (by omega)
        refine yields_val hw (x := .string (s.extract l.toNat l2.toNat)) ?_ (by simp only [RelV])
        rw [hv, hk', hk2']
        simp only [Option.map_none]
        rw [hsl, g_slice_string ht (.inr ⟨_, rfl⟩) (.inr ⟨_, rfl⟩) (by omega) (by omega)]
      · simp [OpR.gives] at h
    · -- a slice
      rename_i e sh xs tok ht hx
      rw [hx] at hv
      have hsl : ∀ {y : Value} {lo' hi' : Option Value}, (Instr.sliceAt t y lo' hi' none).run P w = (Instr.slice t y lo' hi' none).run P w := by
        intro y lo' hi'; simp [Instr.sliceAt, run_underlying ht]
      split at h
      · rename_i hsh
        split at h
        · rename_i h1 h2
          simp only [OpR.gives] at h; subst h
          obtain ⟨y, hy, hr⟩ := g_slice_slice (P := P) hw ht hsh hv (.inl ⟨rfl, rfl⟩) (.inl ⟨rfl, rfl⟩) (Nat.zero_le _) (Nat.le_refl _)
          refine yields_val hw (x := y) ?_ (by simpa using hr)
          rw [opt_none h1, opt_none h2]
          simp only [Option.map_none]
          rw [hsl, hy]
        · rename_i k l h1 h2
          simp only [OpR.gives] at h
          obtain ⟨⟨h0, hle⟩, rfl⟩ := h
          obtain ⟨k', hk'⟩ := opt_lo hF h1 h0
          obtain ⟨y, hy, hr⟩ := g_slice_slice (P := P) hw ht hsh hv (lo := some (.int k' (l.toNat : Int))) (.inr ⟨_, rfl⟩) (.inl ⟨rfl, rfl⟩) (by omega) (Nat.le_refl _)
          refine yields_val hw (x := y) ?_ (by simpa using hr)
          rw [opt_none h2, hk']
          simp only [Option.map_none]
          rw [hsl, hy]
        · rename_i k l h1 h2
          simp only [OpR.gives] at h
          obtain ⟨⟨h0, hle⟩, rfl⟩ := h
          obtain ⟨k', hk'⟩ := opt_lo hF h2 h0
          obtain ⟨y, hy, hr⟩ := g_slice_slice (P := P) hw ht hsh hv (hi := some (.int k' (l.toNat : Int))) (.inl ⟨rfl, rfl⟩) (.inr ⟨_, rfl⟩) (by omega) (by omega)
          refine yields_val hw (x := y) ?_ (by simpa using hr)
          rw [opt_none h1, hk']
          simp only [Option.map_none]
          rw [hsl, hy]
        · rename_i k l k2 l2 h1 h2
          simp only [OpR.gives] at h
          obtain ⟨⟨h0, hle, hle2⟩, rfl⟩ := h
          obtain ⟨k', hk'⟩ := opt_lo hF h1 h0
          obtain ⟨k2', hk2'⟩ := opt_lo hF h2 (by omega)
          obtain ⟨y, hy, hr⟩ := g_slice_slice (P := P) hw ht hsh hv (lo := some (.int k' (l.toNat : Int))) (hi := some (.int k2' (l2.toNat : Int))) (.inr ⟨_, rfl⟩) (.inr ⟨_, rfl⟩) (by omega) (by omega)
          refine yields_val hw (x := y) ?_ hr
          rw [hk', hk2']
          simp only [Option.map_none]
          rw [hsl, hy]
        · simp [OpR.gives] at h
      · simp [OpR.gives] at h
    · -- a slice whose elements may change
      rename_i e sh b o n c ht hx
      rw [hx] at hv
      have hsl : ∀ {y : Value} {lo' hi' mx' : Option Value}, (Instr.sliceAt t y lo' hi' mx').run P w = (Instr.slice t y lo' hi' mx').run P w := by
        intro y lo' hi' mx'; simp [Instr.sliceAt, run_underlying ht]
      have hle := hv
      simp only [RelV] at hle
      obtain ⟨_, _, hle, _⟩ := hle
      split at h
      · rename_i hsh
        split at h
        · rename_i h1 h2 h3
          simp only [OpR.gives] at h; subst h
          obtain ⟨y, hy, hr⟩ := g_lslice (P := P) ht hsh hv (l := 0) (h := n) (m := c) (.inl ⟨rfl, rfl⟩) (.inl ⟨rfl, rfl, rfl⟩) (.inl ⟨rfl, rfl⟩) (Nat.zero_le _) hle (Nat.le_refl _)
          refine yields_val hw (x := y) ?_ (by simpa using hr)
          rw [opt_none h1, opt_none h2, opt_none h3, hsl, hy]
        · rename_i k l h1 h2 h3
          simp only [OpR.gives] at h
          obtain ⟨⟨h0, hl⟩, rfl⟩ := h
          obtain ⟨k', hk'⟩ := opt_lo hF h1 h0
          obtain ⟨y, hy, hr⟩ := g_lslice (P := P) ht hsh hv (l := l.toNat) (h := n) (m := c) (.inr ⟨k', rfl⟩) (.inl ⟨rfl, rfl, rfl⟩) (.inl ⟨rfl, rfl⟩) (by omega) hle (Nat.le_refl _)
          refine yields_val hw (x := y) ?_ hr
          rw [hk', opt_none h2, opt_none h3, hsl, hy]
        · rename_i k l h1 h2 h3
          simp only [OpR.gives] at h
          obtain ⟨⟨h0, hl⟩, rfl⟩ := h
          obtain ⟨k', hk'⟩ := opt_lo hF h2 h0
          obtain ⟨y, hy, hr⟩ := g_lslice (P := P) ht hsh hv (l := 0) (h := l.toNat) (m := c) (.inl ⟨rfl, rfl⟩) (.inr ⟨k', rfl⟩) (.inl ⟨rfl, rfl⟩) (by omega) (by omega) (Nat.le_refl _)
          refine yields_val hw (x := y) ?_ (by simpa using hr)
          rw [opt_none h1, hk', opt_none h3, hsl, hy]
        · rename_i k l k2 l2 h1 h2 h3
          simp only [OpR.gives] at h
          obtain ⟨⟨h0, hl, hl2⟩, rfl⟩ := h
          obtain ⟨k', hk'⟩ := opt_lo hF h1 h0
          obtain ⟨k2', hk2'⟩ := opt_lo hF h2 (by omega)
          obtain ⟨y, hy, hr⟩ := g_lslice (P := P) ht hsh hv (l := l.toNat) (h := l2.toNat) (m := c) (.inr ⟨k', rfl⟩) (.inr ⟨k2', rfl⟩) (.inl ⟨rfl, rfl⟩) (by omega) (by omega) (Nat.le_refl _)
          refine yields_val hw (x := y) ?_ hr
          rw [hk', hk2', opt_none h3, hsl, hy]
        · rename_i k k' h1 h2 h3
          simp only [OpR.gives] at h; subst h
          obtain ⟨k2, hk2⟩ := opt_lo hF h2 (Int.le_refl 0)
          obtain ⟨k3, hk3⟩ := opt_lo hF h3 (Int.le_refl 0)
          obtain ⟨y, hy, hr⟩ := g_lzero (P := P) ht hsh hv (.inl rfl) k2 k3
          refine yields_val hw (x := y) ?_ hr
          rw [opt_none h1, hk2, hk3, hsl]; exact hy
        · rename_i k0 k k' h1 h2 h3
          simp only [OpR.gives] at h; subst h
          obtain ⟨k1, hk1⟩ := opt_lo hF h1 (Int.le_refl 0)
          obtain ⟨k2, hk2⟩ := opt_lo hF h2 (Int.le_refl 0)
          obtain ⟨k3, hk3⟩ := opt_lo hF h3 (Int.le_refl 0)
          obtain ⟨y, hy, hr⟩ := g_lzero (P := P) ht hsh hv (.inr ⟨k1, rfl⟩) k2 k3
          refine yields_val hw (x := y) ?_ hr
          rw [hk1, hk2, hk3, hsl]; exact hy
        · rename_i k l k2 l2 _ h1 h2 h3
          simp only [OpR.gives] at h
          obtain ⟨⟨h0, hl, hl2⟩, rfl⟩ := h
          obtain ⟨k', hk'⟩ := opt_lo hF h2 h0
          obtain ⟨k2', hk2'⟩ := opt_lo hF h3 (by omega)
          obtain ⟨y, hy, hr⟩ := g_lslice (P := P) ht hsh hv (l := 0) (h := l.toNat) (m := l2.toNat) (.inl ⟨rfl, rfl⟩) (.inr ⟨k', rfl⟩) (.inr ⟨k2', rfl⟩) (by omega) (by omega) (by omega)
          refine yields_val hw (x := y) ?_ (by simpa using hr)
          rw [opt_none h1, hk', hk2', hsl, hy]
        · simp [OpR.gives] at h
      · simp [OpR.gives] at h
    · rename_i e sh xs tok m ht hx
      rw [hx] at hv
      split at h
      · rename_i j hj _
        have hsl : ∀ {y : Value} {lo' hi' mx' : Option Value}, (Instr.sliceAt t y lo' hi' mx').run P w = (Instr.slice t y lo' hi' mx').run P w := by
          intro y lo' hi' mx'; simp [Instr.sliceAt, run_underlying ht]
        split at h
        · rename_i k k' h1 h2 h3
          simp only [OpR.gives] at h; subst h
          obtain ⟨k2, hk2⟩ := opt_lo hF h2 (Int.le_refl 0)
          have hm := ev_rel hF m
          rw [h3] at hm
          simp only [RelV] at hm
          obtain ⟨y, hy, hr⟩ := g_slice_zero (P := P) ht hj hv (.inl rfl) k2 k'
          refine yields_val hw (x := y) ?_ hr
          rw [opt_none h1, hk2]
          simp only [Option.map_some, hm]
          rw [hsl]
          exact hy
        · rename_i k0 k k' h1 h2 h3
          simp only [OpR.gives] at h; subst h
          obtain ⟨k1, hk1⟩ := opt_lo hF h1 (Int.le_refl 0)
          obtain ⟨k2, hk2⟩ := opt_lo hF h2 (Int.le_refl 0)
          have hm := ev_rel hF m
          rw [h3] at hm
          simp only [RelV] at hm
          obtain ⟨y, hy, hr⟩ := g_slice_zero (P := P) ht hj hv (.inr ⟨k1, rfl⟩) k2 k'
          refine yields_val hw (x := y) ?_ hr
          rw [hk1, hk2]
          simp only [Option.map_some, hm]
          rw [hsl]
          exact hy
        · simp [OpR.gives] at h
      · rename_i j hj _
        have hsl : ∀ {y : Value} {lo' hi' mx' : Option Value}, (Instr.sliceAt t y lo' hi' mx').run P w = (Instr.slice t y lo' hi' mx').run P w := by
          intro y lo' hi' mx'; simp [Instr.sliceAt, run_underlying ht]
        split at h
        · rename_i hsh
          split at h
          · rename_i k l k' l' h1 h2 h3
            simp only [OpR.gives] at h
            obtain ⟨⟨h0, hle, hle2⟩, rfl⟩ := h
            obtain ⟨k2, hk2⟩ := opt_lo hF h2 h0
            have hm := ev_rel hF m
            rw [h3] at hm
            simp only [RelV] at hm
            obtain ⟨m', rfl⟩ : ∃ m' : Nat, l' = m' := ⟨l'.toNat, by omega⟩
            obtain ⟨y, hy, hr⟩ := g_slice3 (P := P) hw ht hsh hv (l := 0) (h := l.toNat) (m := m') (.inl ⟨rfl, rfl⟩) k2 k' (Nat.zero_le _) (by omega) (by omega)
            refine yields_val hw (x := y) ?_ (by simpa using hr)
            rw [opt_none h1, hk2]
            simp only [Option.map_some, hm]
            rw [hsl]
            exact hy
          · rename_i k0 l0 k l k' l' h1 h2 h3
            simp only [OpR.gives] at h
            obtain ⟨⟨h0, hle0, hle, hle2⟩, rfl⟩ := h
            obtain ⟨k1, hk1⟩ := opt_lo hF h1 h0
            obtain ⟨k2, hk2⟩ := opt_lo hF h2 (by omega)
            have hm := ev_rel hF m
            rw [h3] at hm
            simp only [RelV] at hm
            obtain ⟨m', rfl⟩ : ∃ m' : Nat, l' = m' := ⟨l'.toNat, by omega⟩
            obtain ⟨y, hy, hr⟩ := g_slice3 (P := P) hw ht hsh hv (l := l0.toNat) (h := l.toNat) (m := m') (.inr ⟨k1, rfl⟩) k2 k' (by omega) (by omega) (by omega)
            refine yields_val hw (x := y) ?_ hr
            rw [hk1, hk2]
            simp only [Option.map_some, hm]
            rw [hsl]
            exact hy
          · simp [OpR.gives] at h
        · simp [OpR.gives] at h
      · simp [OpR.gives] at h
    · simp [OpR.gives] at h
  | fieldAddr s x f =>
    simp only [hop] at h
    have hv := ev_rel hF x
    split at h
    · rename_i fd sh u off hf hx
      rw [hx] at hv
      split at h
      · rename_i i hi
        split at h
        · simp [OpR.gives] at h
        · rename_i h0
          simp only [OpR.gives] at h; subst h
          rw [relV_pt] at hv
          obtain ⟨b, q, he, hle, hr⟩ := hv
          refine yields_val hw (x := .pointer (some ⟨b, q + off + fd.offset, none⟩)) ?_ ?_
          · rw [he]; exact g_fieldAddr hf hi h0 _ _
          · rw [relV_pt]; exact ⟨b, q, by rw [Nat.add_assoc], hle, hr⟩
      · simp [OpR.gives] at h
    · rename_i fd b off hf hx
      rw [hx] at hv
      split at h
      · rename_i i hi
        split at h
        · simp [OpR.gives] at h
        · rename_i h0
          simp only [OpR.gives] at h; subst h
          simp only [RelV] at hv
          exact yields_val hw (by rw [hv]; exact g_fieldAddr hf hi h0 _ _) (by simp only [RelV])
      · simp [OpR.gives] at h
    · simp [OpR.gives] at h
  | field s x f =>
    simp only [hop] at h
    have hv := ev_rel hF x
    split at h
    · rename_i fd cs hf hx
      rw [hx] at hv
      simp only [RelV] at hv
      obtain ⟨l, he, hl⟩ := hv
      split at h
      · rename_i sh hsh
        split at h
        · rename_i u hu
          simp only [OpR.gives] at h; subst h
          obtain ⟨y, hy, hr⟩ := run_part (P := P) (w := w) hsh hl hu
          unfold fieldOf at hf
          split at hf
          · rename_i fs hus
            refine yields_val hw (x := y) ?_ hr
            rw [he]
            simp [Instr.field, run_underlying hus, hf, asAgg, hy]
          · cases hf
        · simp [OpR.gives] at h
      · simp [OpR.gives] at h
    · simp [OpR.gives] at h
  | indexAddr t x i =>
    simp only [hop] at h
    have hv := ev_rel hF x
    have hi := ev_rel hF i
    split at h
    · rename_i e sh xs tok k n ht hx hn
      rw [hx] at hv; rw [hn] at hi
      simp only [RelV] at hi
      split at h
      · rename_i hsh
        simp only [OpR.gives] at h
        obtain ⟨⟨h0, hlt⟩, rfl⟩ := h
        obtain ⟨j, hj, hs⟩ := shape_info hsh
        simp only [RelV] at hv
        obtain ⟨A, n', c, he, hn', hc, _, hr⟩ := hv
        rcases hr with rfl | ⟨b, q, rfl, hle, hr⟩
        · simp at hlt; omega
        · have hlt' : n.toNat < xs.length := by omega
          have hg := relXs_get hr (List.getElem?_eq_getElem hlt')
          have hmul : n.toNat * width sh + width sh ≤ n' * width sh := by
            rw [← Nat.succ_mul]; exact Nat.mul_le_mul_right _ (by omega)
          refine yields_val hw (x := .pointer (some ⟨b, q + n.toNat * width sh, none⟩)) ?_ ?_
          · rw [he, hi]
            simp [Instr.indexAt, asIntOf, run_underlying ht, run_sizeOf' hj, hs, Addr.add_lit]
            omega
          · rw [relV_pt]
            refine ⟨b, q + n.toNat * width sh, rfl, by omega, ?_⟩
            rw [List.getD_eq_getElem?_getD, List.getElem?_eq_getElem hlt', Option.getD_some]
            exact relE_congr hg fun j _ => by rw [Nat.add_assoc]
      · simp [OpR.gives] at h
    · rename_i e sh b q c cap k n ht hx hn
      rw [hx] at hv; rw [hn] at hi
      simp only [RelV] at hi
      split at h
      · rename_i hsh
        simp only [OpR.gives] at h
        obtain ⟨⟨h0, hlt⟩, rfl⟩ := h
        obtain ⟨j, hj, hs⟩ := shape_info hsh
        simp only [RelV] at hv
        obtain ⟨A, he, hc, hA⟩ := hv
        rcases hA with hA | rfl
        · omega
        · refine yields_val hw (x := .pointer (some ⟨b, q + n.toNat * width sh, none⟩)) ?_ (by simp only [RelV])
          rw [he, hi]
          simp [Instr.indexAt, asIntOf, run_underlying ht, run_sizeOf' hj, hs, Addr.add_lit]
          omega
      · simp [OpR.gives] at h
    · rename_i len e b off k n ht hx hn
      rw [hx] at hv; rw [hn] at hi
      simp only [RelV] at hi hv
      split at h
      · rename_i j hj
        simp only [OpR.gives] at h
        obtain ⟨⟨h0, hlt⟩, rfl⟩ := h
        refine yields_val hw (x := .pointer (some ⟨b, off + n.toNat * j.size, none⟩)) ?_ (by simp only [RelV])
        rw [hv, hi]
        simp [Instr.indexAt, asIntOf, run_underlying ht, run_sizeOf' hj, Addr.add_lit, Instr.sureAddr]
        intro h1
        omega
      · simp [OpR.gives] at h
    · simp [OpR.gives] at h
  | index t x i =>
    simp only [hop] at h
    have hv := ev_rel hF x
    have hi := ev_rel hF i
    split at h
    · rename_i s k n ht hx hn
      rw [hx] at hv; rw [hn] at hi
      simp only [RelV] at hi hv
      simp only [OpR.gives] at h
      obtain ⟨⟨h0, hlt⟩, rfl⟩ := h
      refine yields_val hw (x := .int .u8 (byteAt s n.toNat).toNat) ?_ (by simp only [RelV])
      rw [hv, hi]
      simp [Instr.index, asIntOf, run_underlying ht, h0, byteAt_get (show n.toNat < s.size by omega)]
    · rename_i len e cs k n ht hx hn
      rw [hx] at hv; rw [hn] at hi
      simp only [RelV] at hi hv
      obtain ⟨l, he, hl⟩ := hv
      split at h
      · rename_i hsh
        simp only [OpR.gives] at h
        obtain ⟨⟨h0, hlt, hle⟩, rfl⟩ := h
        obtain ⟨j, hj, hs⟩ := shape_info hsh
        have hlt' : n.toNat < cs.length := by omega
        obtain ⟨y, hy, hr⟩ := run_part (P := P) (w := w) hsh hl (off := n.toNat) (u := cs.getD n.toNat .undef) (by simp [partOf, List.getD_eq_getElem?_getD, List.getElem?_eq_getElem hlt'])
        refine yields_val hw (x := y) ?_ hr
        rw [he, hi]
        simp [Instr.index, asIntOf, run_underlying ht, h0, hlt, run_sizeOf' hj, hs, width, hy]
      · simp [OpR.gives] at h
    · simp [OpR.gives] at h
  | extract x i =>
    simp only [hop] at h
    have hv := ev_rel hF x
    split at h
    · rename_i vs hx
      rw [hx] at hv
      simp only [RelV] at hv
      obtain ⟨l, he, hl⟩ := hv
      split at h
      · rename_i u hu
        simp only [OpR.gives] at h; subst h
        obtain ⟨y, hy, hr⟩ := relL_get hl hu
        refine yields_val hw (x := y) ?_ hr
        rw [he]
        have hy' : l[i]? = some y := by simpa using hy
        simp [Instr.extract, hy']
      · simp [OpR.gives] at h
    · simp [OpR.gives] at h
  | build t parts =>
    simp only [hop] at h
    split at h
    · rename_i fs i ht hi
      split at h
      · rename_i z hz hall
        split at h
        · rename_i cs hcs
          simp only [OpR.gives] at h; subst h
          obtain ⟨l, hl1, hl2⟩ := run_build_struct (P := P) (w := w) hF ht hi hz hall hcs
          exact yields_val hw (x := .agg l) hl1 (by simp only [RelV]; exact ⟨l, rfl, hl2⟩)
        · simp [OpR.gives] at h
      · simp [OpR.gives] at h
    · rename_i len e i ht hi
      split at h
      · rename_i z j hz hj
        split at h
        · rename_i cs hcs
          simp only [OpR.gives] at h; subst h
          obtain ⟨l, hl1, hl2⟩ := run_build_array (P := P) (w := w) hF ht hi hz hj hcs
          exact yields_val hw (x := .agg l) hl1 (by simp only [RelV]; exact ⟨l, rfl, hl2⟩)
        · simp [OpR.gives] at h
      · simp [OpR.gives] at h
    · simp [OpR.gives] at h
  | buildSlice t n parts =>
    simp only [hop] at h
    split at h
    · rename_i e ht
      split at h
      · rename_i sh hsh
        split at h
        · rename_i hc
          obtain ⟨h1, h2, h3, h4, _⟩ := hc
          split at h
          · simp [OpR.gives] at h
          · simp only [OpR.gives] at h; subst h
            obtain ⟨cells, hr, hs, hn, hx⟩ := run_buildSlice (P := P) (w := w) (parts := parts.map fun (i, x) => (i, a.eval x)) ht hsh h4 (by simpa [List.map_map, Function.comp_def] using h1) h2 (by simpa [List.map_map, Function.comp_def] using parts_rel hF parts.toList) h3
            obtain ⟨g', he, hv⟩ := relV_row hw (e := e) hs hn hx
            refine ⟨_, g', _, run_v hr, he, ?_⟩
            by_cases hn0 : n = 0
            · rw [if_pos hn0]
              simp only [RelV] at hv ⊢
              obtain ⟨A, n', c', e1, e2, e3, _, e5⟩ := hv
              refine ⟨A, n', c', e1, e2, e3, ?_, e5⟩
              cases e1; exact hn0
            · rw [if_neg hn0]; exact hv
        · simp [OpR.gives] at h
      · simp [OpR.gives] at h
    · simp [OpR.gives] at h
  | call c =>
    simp only [hop] at h
    obtain ⟨callee, args, ats⟩ := c
    have hargs : ∀ {vs : List V}, args.toList.map (ev fr) = vs → RelL g w vs (args.map a.eval).toList := by
      intro vs h; subst h; simpa using rel_map hF args.toList
    split at h
    · -- len
      rename_i hc
      simp only at hc; subst hc
      split at h
      · rename_i s ht hx
        simp only [OpR.gives] at h; subst h
        obtain ⟨x, hx1, hx2⟩ := rel_one (hargs hx)
        simp only [RelV] at hx2; subst hx2
        obtain ⟨t, ts, hts, ht'⟩ := head_some ht
        refine ⟨.int .i64 s.size, g, w, ?_, Ext.refl _ hw, by simp only [RelV]⟩
        simp [resolve, invoke, builtin, arr_of hx1, Builtin.len_, arr_zero hts, run_underlying ht', goInt]
      · rename_i e sh xs tok ht hx
        simp only [OpR.gives] at h; subst h
        obtain ⟨x, hx1, hx2⟩ := rel_one (hargs hx)
        simp only [RelV] at hx2
        obtain ⟨A, n, c', rfl, hn, _⟩ := hx2
        subst hn
        obtain ⟨t, ts, hts, ht'⟩ := head_some ht
        refine ⟨.int .i64 xs.length, g, w, ?_, Ext.refl _ hw, by simp only [RelV]⟩
        simp [resolve, invoke, builtin, arr_of hx1, Builtin.len_, arr_zero hts, run_underlying ht', goInt]
      · rename_i e sh b o n c' ht hx
        simp only [OpR.gives] at h; subst h
        obtain ⟨x, hx1, hx2⟩ := rel_one (hargs hx)
        simp only [RelV] at hx2
        obtain ⟨A, rfl, _⟩ := hx2
        obtain ⟨t, ts, hts, ht'⟩ := head_some ht
        refine ⟨.int .i64 n, g, w, ?_, Ext.refl _ hw, by simp only [RelV]⟩
        simp [resolve, invoke, builtin, arr_of hx1, Builtin.len_, arr_zero hts, run_underlying ht', goInt]
      · rename_i n e u ht hx
        simp only [OpR.gives] at h; subst h
        obtain ⟨x, hx1, hx2⟩ := rel_one (hargs hx)
        obtain ⟨t, ts, hts, ht'⟩ := head_some ht
        refine ⟨.int .i64 n, g, w, ?_, Ext.refl _ hw, by simp only [RelV]⟩
        simp [resolve, invoke, builtin, arr_of hx1, Builtin.len_, arr_zero hts, run_underlying ht', goInt]
      · simp [OpR.gives] at h
    · -- cap
      rename_i hc
      simp only at hc; subst hc
      split at h
      · rename_i e sh b o n c' ht hx
        simp only [OpR.gives] at h; subst h
        obtain ⟨x, hx1, hx2⟩ := rel_one (hargs hx)
        simp only [RelV] at hx2
        obtain ⟨A, rfl, _⟩ := hx2
        obtain ⟨t, ts, hts, ht'⟩ := head_some ht
        refine ⟨.int .i64 c', g, w, ?_, Ext.refl _ hw, by simp only [RelV]⟩
        simp [resolve, invoke, builtin, arr_of hx1, Builtin.cap_, arr_zero hts, run_underlying ht', goInt]
      · rename_i e sh xs ht hx
        simp only [OpR.gives] at h; subst h
        obtain ⟨x, hx1, hx2⟩ := rel_one (hargs hx)
        simp only [RelV] at hx2
        obtain ⟨A, n, c', rfl, _, _, h0, _⟩ := hx2
        subst h0
        obtain ⟨t, ts, hts, ht'⟩ := head_some ht
        refine ⟨.int .i64 0, g, w, ?_, Ext.refl _ hw, by simp only [RelV]⟩
        simp [resolve, invoke, builtin, arr_of hx1, Builtin.cap_, arr_zero hts, run_underlying ht', goInt]
      · simp [OpR.gives] at h
    · (repeat' split at h) <;> simp [OpR.gives] at h
    · (repeat' split at h) <;> simp [OpR.gives] at h
    · rename_i hc
      (repeat' split at h) <;> simp [OpR.gives] at h
    · -- max
      rename_i hc
      simp only at hc; subst hc
      split at h
      · rename_i k p k' q hx
        simp only [OpR.gives] at h; subst h
        obtain ⟨x, y, hx1, hx2, hy2⟩ := rel_two (hargs hx)
        simp only [RelV] at hx2 hy2; subst hx2; subst hy2
        refine ⟨.int k (max p q), g, w, ?_, Ext.refl _ hw, by simp only [RelV]⟩
        simp [resolve, invoke, builtin, arr_of hx1, Builtin.max_, Builtin.max2]
        omega
      · simp [OpR.gives] at h
    · -- min
      rename_i hc
      simp only at hc; subst hc
      split at h
      · rename_i k p k' q hx
        simp only [OpR.gives] at h; subst h
        obtain ⟨x, y, hx1, hx2, hy2⟩ := rel_two (hargs hx)
        simp only [RelV] at hx2 hy2; subst hx2; subst hy2
        refine ⟨.int k (min p q), g, w, ?_, Ext.refl _ hw, by simp only [RelV]⟩
        simp [resolve, invoke, builtin, arr_of hx1, Builtin.min_, Builtin.min2]
        omega
      · simp [OpR.gives] at h
    · (repeat' split at h) <;> simp [OpR.gives] at h
    · simp [OpR.gives] at h
  | makeSlice t n c => simp only [hop] at h; (repeat' split at h) <;> simp [OpR.gives] at h
  | _ => simp [hop, OpR.gives] at h

end
end Go.Sv
