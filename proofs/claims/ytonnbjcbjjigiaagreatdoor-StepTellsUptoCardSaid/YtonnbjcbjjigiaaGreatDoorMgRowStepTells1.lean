/- Parts of the proof, one behind the other. -/
import Derived.Test.YtonnbjcbjjigiaaGreatDoorMgRowStepTells0
import Derived.Laws.StructEq
import Derived.Deep.Upon
namespace Go.Sv
open Go
section
variable {P : Program} {g : Gh} {w : World} {live : List Nat} {fr : Fr} {o : Oper} {a : Act} {N : Nat} {v : V}
theorem yields_val {s : Sem Value} {x : Value} (hw : Wf g w) (h : s.run P w = .ok x w) (hv : RelV g w v x) : Yields P (do pure (.value (← s))) g w v :=
  Yields.same hw (run_v h) hv
theorem scal_run {t : TypeId} {a b : V} {r : Bool} {x y : Value} (d : Nat) (h : eqScal P t a b = some r) (hx : RelV g w a x) (hy : RelV g w b y) : (isAgg t).run P w = .ok false w ∧ (Op.equalIn (d + 1) t x y).run P w = .ok r w := by
  unfold eqScal at h
  split at h
  · rename_i hu
    simp only [RelV] at hx hy
    subst hx; subst hy
    cases h
    exact ⟨by simp only [isAgg, Sem.run_bind, run_underlying hu, Result.andThen_ok]; rfl, run_equalIn_bool' w d t _ _ hu⟩
  · rename_i hu
    simp only [RelV] at hx hy
    subst hx; subst hy
    split at h
    · rename_i hk
      subst hk
      cases h
      exact ⟨by simp only [isAgg, Sem.run_bind, run_underlying hu, Result.andThen_ok]; rfl, run_equalIn_int w d t _ _ _ _ hu⟩
    · cases h
  · rename_i hu
    simp only [RelV] at hx hy
    subst hx; subst hy
    cases h
    exact ⟨by simp only [isAgg, Sem.run_bind, run_underlying hu, Result.andThen_ok]; rfl, run_equalIn_string w d t _ _ hu⟩
  · cases h
theorem eqFlds_run {as bs : List V} {l m : Array Value} (d : Nat) (hl : RelL g w as l.toList) (hm : RelL g w bs m.toList) : ∀ (fs : List Field) (r : Bool), eqFlds P as bs fs = some r → (fs.all fun f => decide (f.name ≠ "_")) = true → (Op.eqFields (d + 1) l m fs).run P w = .ok r w
  | [], r, h, _ => by cases h; rfl
  | f :: fs, r, h, hn => by
    rw [List.all_cons, Bool.and_eq_true] at hn
    unfold eqFlds at h
    split at h
    · rename_i a b ha hb
      split at h
      · rename_i x y hx hy
        cases h
        obtain ⟨u, hu, hru⟩ := relL_get hl ha
        obtain ⟨v, hv, hrv⟩ := relL_get hm hb
        obtain ⟨e1, e2⟩ := scal_run d hx hru hrv
        have ih := eqFlds_run d hl hm fs y hy hn.2
        have hu' : l[f.offset]? = some u := by simpa using hu
        have hv' : m[f.offset]? = some v := by simpa using hv
        have p1 : (part f.type l f.offset).run P w = .ok u w := by
          simp only [part, Sem.run_bind, e1, Result.andThen_ok, hu', Bool.false_eq_true, if_false]; rfl
        have p2 : (part f.type m f.offset).run P w = .ok v w := by
          simp only [part, Sem.run_bind, e1, Result.andThen_ok, hv', Bool.false_eq_true, if_false]; rfl
        rw [Op.eqFields, if_pos (of_decide_eq_true hn.1)]
        simp only [Sem.run_bind, p1, p2, e2, Result.andThen_ok]
        cases x with
        | false => simp
        | true => simpa using ih
      · cases h
    · cases h
theorem run_structs {t : TypeId} {fs : Array Field} {as bs : List V} {l m : Array Value} {r : Bool} (hB : structEqB P t = true) (hfs : P.underlying t = some (.struct fs)) (hr : eqFlds P as bs fs.toList = some r) (hl : RelL g w as l.toList) (hm : RelL g w bs m.toList) (op : BinOp) (x y : Operand) :
    (eqGuard op t x y (.agg l) (.agg m)).run P w = .ok () w ∧ (binOp .eql t (.agg l) (.agg m)).run P w = .ok (.bool r) w ∧ (binOp .neq t (.agg l) (.agg m)).run P w = .ok (.bool (!r)) w := by
  unfold structEqB at hB
  rw [hfs] at hB
  simp only [Bool.and_eq_true, Bool.not_eq_true'] at hB
  obtain ⟨⟨h1, h2⟩, h3⟩ := hB
  have hf : P.fieldsOf t = fs := by simp [Program.fieldsOf, hfs]
  have e := run_equalIn_agg w 9999 t l m (by rw [hf, hfs]) h1
  rw [hf, eqFlds_run 9998 hl hm fs.toList r hr h3] at e
  have e : (Op.equalIn 10000 t (.agg l) (.agg m)).run P w = .ok r w := e
  refine ⟨run_eqGuard_agg w op t x y l m h2, ?_, ?_⟩
  · rw [run_eql_struct, e]; rfl
  · rw [run_neq_struct, e]; rfl
theorem g_bin (hw : Wf g w) {op : BinOp} {t : TypeId} {x y : Operand} {u u' : V} {p q : Value} (hp : RelV g w u p) (hq : RelV g w u' q) (h : (sBin P op t x y u u').gives v) :
    Yields P (do pure (.value (← (do eqGuard op t x y p q; binOp op t p q)))) g w v := by
  unfold sBin at h
  split at h
  · split at h <;> simp [OpR.gives] at h
  · split at h <;> simp [OpR.gives] at h
  · split at h <;> simp [OpR.gives] at h
  · split at h <;> simp [OpR.gives] at h
  · -- loc eql nil
    simp only [RelV] at hp hq
    subst hp; subst hq
    split at h
    · rename_i d hd
      simp only [OpR.gives] at h; subst h
      exact yields_val hw (x := .bool false) (by simpa [eqGuard] using run_eql_pointer_nil (P := P) w t (some _) (by rw [hd]; simp [Program.pointee, hd])) (by simp only [RelV])
    · simp [OpR.gives] at h
  · -- loc neq nil
    simp only [RelV] at hp hq
    subst hp; subst hq
    split at h
    · rename_i d hd
      simp only [OpR.gives] at h; subst h
      exact yields_val hw (x := .bool true) (by simpa [eqGuard] using run_neq_pointer_nil (P := P) w t (some _) (by rw [hd]; simp [Program.pointee, hd])) (by simp only [RelV])
    · simp [OpR.gives] at h
  · -- pt eql nil
    simp only [RelV] at hq
    rw [relV_pt] at hp
    obtain ⟨b, o, rfl, _⟩ := hp
    subst hq
    split at h
    · rename_i d hd
      simp only [OpR.gives] at h; subst h
      exact yields_val hw (x := .bool false) (by simpa [eqGuard] using run_eql_pointer_nil (P := P) w t (some _) (by rw [hd]; simp [Program.pointee, hd])) (by simp only [RelV])
    · simp [OpR.gives] at h
  · -- pt neq nil
    simp only [RelV] at hq
    rw [relV_pt] at hp
    obtain ⟨b, o, rfl, _⟩ := hp
    subst hq
    split at h
    · rename_i d hd
      simp only [OpR.gives] at h; subst h
      exact yields_val hw (x := .bool true) (by simpa [eqGuard] using run_neq_pointer_nil (P := P) w t (some _) (by rw [hd]; simp [Program.pointee, hd])) (by simp only [RelV])
    · simp [OpR.gives] at h
  · -- ifc eql nil
    simp only [RelV] at hp hq
    obtain ⟨z, rfl, _⟩ := hp
    subst hq
    split at h
    · rename_i d hd
      simp only [OpR.gives] at h; subst h
      exact yields_val hw (x := .bool false) (by simpa [eqGuard] using run_eql_held_nil (P := P) w t _ _ (by rw [hd]; simp [Program.methodsAt, hd])) (by simp only [RelV])
    · simp [OpR.gives] at h
  · -- ifc neq nil
    simp only [RelV] at hp hq
    obtain ⟨z, rfl, _⟩ := hp
    subst hq
    split at h
    · rename_i d hd
      simp only [OpR.gives] at h; subst h
      exact yields_val hw (x := .bool true) (by simpa [eqGuard] using run_neq_held_nil (P := P) w t _ _ (by rw [hd]; simp [Program.methodsAt, hd])) (by simp only [RelV])
    · simp [OpR.gives] at h
  · -- <<
    simp only [RelV] at hp hq
    subst hp; subst hq
    split at h
    · split at h
      · rename_i r hr
        simp only [OpR.gives] at h; subst h
        exact yields_val hw (by simpa [eqGuard] using pureVal_run w hr) (by simp only [RelV])
      · simp [OpR.gives] at h
    · rename_i k p k' q _ _
      simp only [OpR.gives] at h
      obtain ⟨h0, rfl⟩ := h
      refine yields_val hw (x := .int k (k.wrap (p * 2 ^ min q.toNat k.bits))) ?_ (by simp only [RelV])
      simp [eqGuard, binOp, Op.shift]
      omega
  · -- >>
    simp only [RelV] at hp hq
    subst hp; subst hq
    split at h
    · split at h
      · rename_i r hr
        simp only [OpR.gives] at h; subst h
        exact yields_val hw (by simpa [eqGuard] using pureVal_run w hr) (by simp only [RelV])
      · simp [OpR.gives] at h
    · rename_i k p k' q _ _
      simp only [OpR.gives] at h
      obtain ⟨h0, rfl⟩ := h
      refine yields_val hw (x := .int k (p.fdiv (2 ^ min q.toNat k.bits))) ?_ (by simp only [RelV])
      simp [eqGuard, binOp, Op.shift]
      omega
  · -- /
    simp only [RelV] at hp hq
    subst hp; subst hq
    split at h
    · split at h
      · rename_i r hr
        simp only [OpR.gives] at h; subst h
        exact yields_val hw (by simpa [eqGuard] using pureVal_run w hr) (by simp only [RelV])
      · simp [OpR.gives] at h
    · rename_i k p k' q _ _
      split at h
      · rename_i hk; subst hk
        simp only [OpR.gives] at h
        obtain ⟨h0, rfl⟩ := h
        refine yields_val hw (x := .int k (k.wrap (p.tdiv q))) ?_ (by simp only [RelV])
        simp [eqGuard, binOp, Op.intDiv, h0]
      · simp [OpR.gives] at h
  · -- %
    simp only [RelV] at hp hq
    subst hp; subst hq
    split at h
    · split at h
      · rename_i r hr
        simp only [OpR.gives] at h; subst h
        exact yields_val hw (by simpa [eqGuard] using pureVal_run w hr) (by simp only [RelV])
      · simp [OpR.gives] at h
    · rename_i k p k' q _ _
      split at h
      · rename_i hk; subst hk
        simp only [OpR.gives] at h
        obtain ⟨h0, rfl⟩ := h
        refine yields_val hw (x := .int k (p.tmod q)) ?_ (by simp only [RelV])
        simp [eqGuard, binOp, Op.intDiv, h0]
      · simp [OpR.gives] at h
  · -- strings added
    rename_i s u
    simp only [RelV] at hp hq
    subst hp; subst hq
    simp only [OpR.gives] at h
    obtain ⟨hle, rfl⟩ := h
    refine yields_val hw ?_ (x := .string (s ++ u)) (by simp only [RelV])
    simp only [eqGuard, binOp, Op.stringOp]
    simp [IntKind.max, IntKind.signed, IntKind.bits]
    omega
  · -- structs
    simp only [RelV] at hp hq
    obtain ⟨l, rfl, hl⟩ := hp
    obtain ⟨m, rfl, hm⟩ := hq
    split at h
    · rename_i fs hfs
      split at h
      · rename_i r hr
        simp only [OpR.gives] at h
        obtain ⟨hB, rfl⟩ := h
        obtain ⟨e1, e2, _⟩ := run_structs hB hfs hr hl hm .eql x y
        refine yields_val hw (x := .bool r) ?_ (by simp only [RelV])
        simp only [Sem.run_bind, e1, e2, Result.andThen_ok]
      · simp [OpR.gives] at h
    · simp [OpR.gives] at h
  · -- structs
    simp only [RelV] at hp hq
    obtain ⟨l, rfl, hl⟩ := hp
    obtain ⟨m, rfl, hm⟩ := hq
    split at h
    · rename_i fs hfs
      split at h
      · rename_i r hr
        simp only [OpR.gives] at h
        obtain ⟨hB, rfl⟩ := h
        obtain ⟨e1, _, e2⟩ := run_structs hB hfs hr hl hm .neq x y
        refine yields_val hw (x := .bool (!r)) ?_ (by simp only [RelV])
        simp only [Sem.run_bind, e1, e2, Result.andThen_ok]
      · simp [OpR.gives] at h
    · simp [OpR.gives] at h
  · rename_i c d _ _ _
    simp only [RelV] at hp hq
    subst hp; subst hq
    split at h
    · rename_i r hr
      simp only [OpR.gives] at h
      subst h
      exact yields_val hw (pureVal_run w hr) (by simp [RelV])
    · simp [OpR.gives] at h
  · simp [OpR.gives] at h
theorem relV_cut {sh : Option Nat} {xs : List V} {tok : Tk} {A : Option Addr} {n c l h : Nat} {size : Nat} (hs : size = width sh) (hx : RelV g w (.sl sh xs tok) (.slice A n c)) (hl : l ≤ h) (hh : h ≤ xs.length) :
    RelV g w (.sl sh ((xs.take h).drop l) .no) (.slice (if c = l then A else A.map (·.add (l * size))) (h - l) (c - l)) := by
  subst hs
  simp only [RelV] at hx ⊢
  obtain ⟨A', n', c', he, hn, hc, _, hr⟩ := hx
  injection he with e1 e2 e3
  subst e1; subst e2; subst e3
  refine ⟨_, _, _, rfl, by simp; omega, by omega, trivial, ?_⟩
  rcases hr with rfl | ⟨b, o, rfl, hle, hr⟩
  · left; simp
  · by_cases hlh : l = h
    · left
      subst hlh
      simp
    · right
      have hcl : ¬ c = l := by omega
      rw [if_neg hcl]
      have hm : l * width sh + (h - l) * width sh = h * width sh := by rw [← Nat.add_mul]; congr 1; omega
      have hm2 : h * width sh ≤ n * width sh := Nat.mul_le_mul_right _ (by omega)
      refine ⟨b, o + l * width sh, by simp [Addr.add_lit], by omega, ?_⟩
      refine relXs_of_get fun i v hv => ?_
      rw [List.getElem?_drop, List.getElem?_take] at hv
      split at hv
      · have := relXs_get hr hv
        refine relE_congr this fun j _ => ?_
        congr 1
        rw [Nat.add_mul]; omega
      · cases hv
theorem run_sliceBound {y l : Nat} {code : BoundsCode} {k : IntKind} (h : l ≤ y) : (Instr.sliceBound (.int k (l : Int)) y code).run P w = .ok l w := by
  simp [Instr.sliceBound, asIntOf]
  omega
theorem g_slice_slice (_ : Wf g w) {t e : TypeId} {sh : Option Nat} {xs : List V} {tok : Tk} {x : Value} (ht : P.underlying t = some (.slice e)) (hsh : shapeOf P e = some sh) (hx : RelV g w (.sl sh xs tok) x)
    {lo hi : Option Value} {l h : Nat} (hlo : (lo = none ∧ l = 0) ∨ ∃ k, lo = some (.int k (l : Int))) (hhi : (hi = none ∧ h = xs.length) ∨ ∃ k, hi = some (.int k (h : Int))) (hl : l ≤ h) (hh : h ≤ xs.length) :
    ∃ y, (Instr.slice t x lo hi none).run P w = .ok y w ∧ RelV g w (.sl sh ((xs.take h).drop l) .no) y := by
  obtain ⟨i, hi', hs⟩ := shape_info hsh
  have hx' := hx
  simp only [RelV] at hx'
  obtain ⟨A, n, c, rfl, hn, hc, _, _⟩ := hx'
  refine ⟨_, ?_, relV_cut hs hx hl hh⟩
  have hb : (Instr.sliceBounds true n c lo hi none).run P w = .ok (l, h, c) w := by
    rcases hlo with ⟨rfl, rfl⟩ | ⟨k, rfl⟩ <;> rcases hhi with ⟨rfl, rfl⟩ | ⟨k', rfl⟩
    · simp [Instr.sliceBounds, hn]
    · simp [Instr.sliceBounds, run_sliceBound (P := P) (w := w) (show h ≤ c by omega)]
    · simp [Instr.sliceBounds, hn, run_sliceBound (P := P) (w := w) (show l ≤ xs.length by omega)]
    · simp [Instr.sliceBounds, run_sliceBound (P := P) (w := w) (show h ≤ c by omega), run_sliceBound (P := P) (w := w) hl]
  simp [Instr.slice, run_underlying ht, hb, run_sizeOf' hi']
theorem g_slice3 (_ : Wf g w) {t e : TypeId} {sh : Option Nat} {xs : List V} {tok : Tk} {x : Value} (ht : P.underlying t = some (.slice e)) (hsh : shapeOf P e = some sh) (hx : RelV g w (.sl sh xs tok) x)
    {lo : Option Value} {l h m : Nat} (hlo : (lo = none ∧ l = 0) ∨ ∃ k, lo = some (.int k (l : Int))) (k' k2 : IntKind) (hl : l ≤ h) (hh : h ≤ m) (hm : m ≤ xs.length) :
    ∃ y, (Instr.slice t x lo (some (.int k' (h : Int))) (some (.int k2 (m : Int)))).run P w = .ok y w ∧ RelV g w (.sl sh ((xs.take h).drop l) .no) y := by
  obtain ⟨i, hi', hs⟩ := shape_info hsh
  have hx' := hx
  simp only [RelV] at hx'
  obtain ⟨A, n, c, rfl, hn, hc, _, _⟩ := hx'
  have hb : (Instr.sliceBounds true n c lo (some (.int k' (h : Int))) (some (.int k2 (m : Int)))).run P w = .ok (l, h, m) w := by
    have hmc : m ≤ c := by omega
    rcases hlo with ⟨rfl, rfl⟩ | ⟨k, rfl⟩ <;>
      simp [Instr.sliceBounds, run_sliceBound (P := P) (w := w) hh, run_sliceBound (P := P) (w := w) hl, run_sliceBound (P := P) (w := w) hmc]
  refine ⟨_, by simp [Instr.slice, run_underlying ht, hb, run_sizeOf' hi']; rfl, ?_⟩
  have hcut := relV_cut hs hx hl (Nat.le_trans hh hm)
  simp only [RelV] at hcut ⊢
  obtain ⟨a, n', c', e1, e2, e3, _, e5⟩ := hcut
  injection e1 with e6 e7 e8
  refine ⟨_, _, _, rfl, by rw [e7]; exact e2, by omega, trivial, ?_⟩
  by_cases hml : m = l
  · left
    have : h = l := by omega
    subst this
    simp
  · rw [if_neg hml]
    rw [if_neg (by omega)] at e6
    rw [e6, e7]
    exact e5
theorem g_lslice {t e : TypeId} {sh : Option Nat} {b o n c : Nat} {x : Value} (ht : P.underlying t = some (.slice e)) (hsh : shapeOf P e = some sh) (hx : RelV g w (.lsl sh b o n c) x)
    {lo hi mx : Option Value} {l h m : Nat} (hlo : (lo = none ∧ l = 0) ∨ ∃ k, lo = some (.int k (l : Int))) (hhi : (hi = none ∧ mx = none ∧ h = n) ∨ ∃ k, hi = some (.int k (h : Int))) (hmx : (mx = none ∧ m = c) ∨ ∃ k, mx = some (.int k (m : Int))) (hl : l ≤ h) (hh : h ≤ m) (hm : m ≤ c) :
    ∃ y, (Instr.slice t x lo hi mx).run P w = .ok y w ∧ RelV g w (.lsl sh b (o + l * width sh) (h - l) (m - l)) y := by
  obtain ⟨i, hi', hs⟩ := shape_info hsh
  simp only [RelV] at hx
  obtain ⟨A, rfl, hc, hA⟩ := hx
  have hb : (Instr.sliceBounds true n c lo hi mx).run P w = .ok (l, h, m) w := by
    rcases hlo with ⟨rfl, rfl⟩ | ⟨k, rfl⟩ <;> rcases hhi with ⟨rfl, rfl, rfl⟩ | ⟨k', rfl⟩ <;> rcases hmx with ⟨e1, rfl⟩ | ⟨k2, e1⟩ <;> (try cases e1) <;>
      simp [Instr.sliceBounds, run_sliceBound (P := P) (w := w) hh, run_sliceBound (P := P) (w := w) hl, run_sliceBound (P := P) (w := w) hm]
  refine ⟨_, by simp [Instr.slice, run_underlying ht, hb, run_sizeOf' hi']; rfl, ?_⟩
  simp only [RelV]
  refine ⟨_, rfl, by omega, ?_⟩
  by_cases hml : m = l
  · left; omega
  · right
    rw [if_neg hml]
    rcases hA with hA | rfl
    · omega
    · simp [Addr.add_lit, hs]
theorem g_lzero {t e : TypeId} {sh : Option Nat} {b o n c : Nat} {x : Value} (ht : P.underlying t = some (.slice e)) (hsh : shapeOf P e = some sh) (hx : RelV g w (.lsl sh b o n c) x)
    {lo : Option Value} (hlo : lo = none ∨ ∃ k, lo = some (.int k 0)) (k k' : IntKind) :
    ∃ y, (Instr.slice t x lo (some (.int k 0)) (some (.int k' 0))).run P w = .ok y w ∧ RelV g w (.sl sh [] .zero) y := by
  obtain ⟨y, h1, h2⟩ := g_lslice (P := P) (l := 0) (h := 0) (m := 0) ht hsh hx (lo := lo) (hi := some (.int k 0)) (mx := some (.int k' 0)) (by
    rcases hlo with h | ⟨k, h⟩
    · exact .inl ⟨h, rfl⟩
    · exact .inr ⟨k, h⟩) (.inr ⟨k, rfl⟩) (.inr ⟨k', rfl⟩) (Nat.le_refl _) (Nat.le_refl _) (Nat.zero_le _)
  refine ⟨y, h1, ?_⟩
  simp only [RelV] at h2 ⊢
  obtain ⟨a, rfl, _⟩ := h2
  exact ⟨a, 0, 0, rfl, rfl, Nat.le_refl _, rfl, .inl (by trivial)⟩
theorem g_slice_string {t : TypeId} {s : ByteArray} (ht : P.underlying t = some .string)
    {lo hi : Option Value} {l h : Nat} (hlo : (lo = none ∧ l = 0) ∨ ∃ k, lo = some (.int k (l : Int))) (hhi : (hi = none ∧ h = s.size) ∨ ∃ k, hi = some (.int k (h : Int))) (hl : l ≤ h) (hh : h ≤ s.size) :
    (Instr.slice t (.string s) lo hi none).run P w = .ok (.string (s.extract l h)) w := by
  have hb : (Instr.sliceBounds false s.size s.size lo hi none).run P w = .ok (l, h, s.size) w := by
    rcases hlo with ⟨rfl, rfl⟩ | ⟨k, rfl⟩ <;> rcases hhi with ⟨rfl, rfl⟩ | ⟨k', rfl⟩
    · simp [Instr.sliceBounds]
    · simp [Instr.sliceBounds, run_sliceBound (P := P) (w := w) hh]
    · simp [Instr.sliceBounds, run_sliceBound (P := P) (w := w) hl]
    · simp [Instr.sliceBounds, run_sliceBound (P := P) (w := w) hh, run_sliceBound (P := P) (w := w) hl]
  simp [Instr.slice, run_underlying ht, hb]
theorem g_slice_zero {t e : TypeId} {sh : Option Nat} {xs : List V} {tok : Tk} {x : Value} (ht : P.underlying t = some (.slice e)) {j : TypeInfo} (hj : P.info? e = some j) (hx : RelV g w (.sl sh xs tok) x)
    {lo : Option Value} (hlo : lo = none ∨ ∃ k, lo = some (.int k 0)) (k k' : IntKind) :
    ∃ y, (Instr.slice t x lo (some (.int k 0)) (some (.int k' 0))).run P w = .ok y w ∧ RelV g w (.sl sh [] .zero) y := by
  simp only [RelV] at hx
  obtain ⟨A, n, c, rfl, hn, hc, _, _⟩ := hx
  have hb : (Instr.sliceBounds true n c lo (some (.int k 0)) (some (.int k' 0))).run P w = .ok (0, 0, 0) w := by
    rcases hlo with rfl | ⟨k, rfl⟩ <;> simp [Instr.sliceBounds, Instr.sliceBound, asIntOf]
  refine ⟨_, by simp [Instr.slice, run_underlying ht, hb, run_sizeOf' hj]; rfl, ?_⟩
  simp only [RelV]
  exact ⟨_, _, _, rfl, rfl, Nat.le_refl _, rfl, .inl (by trivial)⟩
theorem byteAt_get {s : ByteArray} {n : Nat} (h : n < s.size) : s[n]? = some (byteAt s n) := by
  unfold byteAt
  have h' : n < s.data.toList.length := by simpa using h
  rw [List.getD_eq_getElem?_getD, List.getElem?_eq_getElem h', getElem?_pos s n h]
  rfl
theorem g_fieldAddr {s : TypeId} {f : Nat} {fd : Field} (hf : fieldOf P s f = some fd) {i : TypeInfo} (hi : P.info? fd.type = some i) (h0 : i.size ≠ 0) (b o : Nat) :
    (Instr.fieldAt s (.pointer (some ⟨b, o, none⟩)) f).run P w = .ok (.pointer (some ⟨b, o + fd.offset, none⟩)) w := by
  unfold fieldOf at hf
  split at hf
  · rename_i fs hu
    simp [Instr.fieldAt, run_underlying hu, hf, Instr.sureAddr, fieldPlace, run_sizeOf' hi, h0, Addr.add_lit]
  · cases hf
theorem rel_map (hF : RelF N g w fr a.tmps) (l : List Operand) : RelL g w (l.map (ev fr)) (l.map a.eval) :=
  relL_map (ev fr) a.eval l fun x _ => ev_rel hF x
theorem opt_lo (hF : RelF N g w fr a.tmps) {lo : Option Operand} {k : IntKind} {l : Int} (h : lo.map (ev fr) = some (.c (.int k l))) (h0 : 0 ≤ l) : ∃ k', lo.map a.eval = some (.int k' (l.toNat : Int)) := by
  cases lo with
  | none => simp at h
  | some x =>
    simp at h
    have := ev_rel hF x
    rw [h] at this
    simp only [RelV] at this
    exact ⟨k, by simp [this, Int.toNat_of_nonneg h0]⟩
theorem opt_none {lo : Option Operand} (h : lo.map (ev fr) = none) : lo.map a.eval = none := by
  cases lo with
  | none => rfl
  | some x => simp at h
theorem rel_one {vs : V} {xs : List Value} (h : RelL g w [vs] xs) : ∃ x, xs = [x] ∧ RelV g w vs x := by
  simp only [RelL] at h
  obtain ⟨x, ys, rfl, h1, rfl⟩ := h
  exact ⟨x, rfl, h1⟩
theorem rel_two {u v : V} {xs : List Value} (h : RelL g w [u, v] xs) : ∃ x y, xs = [x, y] ∧ RelV g w u x ∧ RelV g w v y := by
  simp only [RelL] at h
  obtain ⟨x, ys, rfl, h1, y, zs, rfl, h2, rfl⟩ := h
  exact ⟨x, y, rfl, h1, h2⟩
theorem head_some {ats : Array TypeId} {d : TypeDesc} (h : (ats.toList.head?).bind P.underlying = some d) : ∃ t ts, ats.toList = t :: ts ∧ P.underlying t = some d := by
  cases hl : ats.toList with
  | nil => simp [hl] at h
  | cons t ts => simp [hl] at h; exact ⟨t, ts, rfl, h⟩
theorem arr_of {args : Array Operand} {l : List Value} (h : (args.map a.eval).toList = l) : args.map a.eval = l.toArray := by
  apply Array.ext'; simpa using h
theorem arr_zero {ats : Array TypeId} {t : TypeId} {ts : List TypeId} (h : ats.toList = t :: ts) : ats[0]? = some t := by
  rw [← Array.getElem?_toList, h]; rfl
theorem parts_rel (hF : RelF N g w fr a.tmps) : ∀ l : List (Nat × Operand), RelL g w (l.map fun p => ev fr p.2) (l.map fun p => a.eval p.2)
  | l => relL_map (fun p : Nat × Operand => ev fr p.2) (fun p => a.eval p.2) l fun p _ => ev_rel hF p.2
theorem bytes_row (hw : Wf g w) (e : TypeId) (s : ByteArray) : ∃ g', Ext [] g w g' (Lib.bytesWorld w e s) ∧
    RelV g' (Lib.bytesWorld w e s) (.sl none (s.data.toList.map fun b => .c (.int .u8 b.toNat)) .no) (.slice (some ⟨w.heap.size, 0, none⟩) s.size (grownCap w s.size 0 e)) := by
  have hcell : ∀ j, j < s.size → cell (Lib.bytesWorld w e s) w.heap.size j = some (.int .u8 (s.data.toList.getD j 0).toNat) := fun j hj => Lib.bytesWorld_cell w e s j hj
  refine ⟨g.with w.heap.size s.size, ?_, ?_⟩
  · exact {
      cmle := fun b => by
        simp only [Gh.with]; split
        · rename_i h; subst h; rw [hw.cm _ (Nat.le_refl _)]; omega
        · exact Nat.le_refl _
      com := fun b o ho => Lib.bytesWorld_old w e s ⟨b, o, none⟩ (by
        rcases Nat.lt_or_ge b w.heap.size with h | h
        · exact h
        · rw [hw.cm b h] at ho; omega)
      nt := Nat.le_refl _
      th := fun _ _ => rfl
      dm := fun b o h0 => congrArg Option.isSome (Lib.bytesWorld_old w e s ⟨b, o, none⟩ (hw.lt h0))
      os := rfl
      tape := rfl
      output := rfl
      drawn := fun _ => Nat.le_of_lt (Nat.lt_succ_of_le (Nat.le_refl _))
      size := by rw [Lib.bytesWorld_size]; omega
      frame := fun b hb _ => Lib.bytesWorld_at_old w e s b hb
      cmeq := fun b hb _ => by simp only [Gh.with]; rw [if_neg (by omega)]
      wf := ⟨fun b hb => by
          rw [Lib.bytesWorld_size] at hb
          simp only [Gh.with]; rw [if_neg (by omega)]; exact hw.cm b (by omega),
        fun b o ho => by
          simp only [Gh.with] at ho
          split at ho
          · rename_i h; subst h; rw [hcell o ho]; rfl
          · have := hw.ex b o ho
            have hb : b < w.heap.size := by
              rcases Nat.lt_or_ge b w.heap.size with h | h
              · exact h
              · rw [hw.cm b h] at ho; omega
            have e1 : cell (Lib.bytesWorld w e s) b o = cell w b o := Lib.bytesWorld_old w e s ⟨b, o, none⟩ hb
            rw [e1]; exact this,
        StOk.keep hw fun c hc => ⟨by simp only [Gh.with]; rw [if_neg (fun h => by have := hw.lt hc; omega)], fun o => Lib.bytesWorld_old w e s ⟨c, o, none⟩ (hw.lt hc)⟩⟩ }
  · simp only [RelV]
    refine ⟨_, _, _, rfl, by simp, grownCap_ge w s.size 0 e, trivial, .inr ⟨w.heap.size, 0, rfl, by simp [Gh.with, width], ?_⟩⟩
    refine relXs_of_get fun i v hv => ?_
    have hi := (List.getElem?_eq_some_iff.1 hv).1
    simp at hi
    refine ⟨.int .u8 (s.data.toList.getD i 0).toNat, by simpa [width] using hcell i hi, ?_⟩
    have hi' : i < s.data.toList.length := by simpa using hi
    rw [List.getElem?_map, List.getElem?_eq_getElem hi'] at hv
    simp only [Option.map_some, Option.some.injEq] at hv
    subst hv
    simp only [RelV, List.getD_eq_getElem?_getD, List.getElem?_eq_getElem hi', Option.getD_some]
theorem run_bytes_string {src dst e : TypeId} {xs : List V} {tok : Tk} {x : Value} (hs : P.underlying src = some (.slice e)) (he : P.underlying e = some (.int .u8)) (hd : P.underlying dst = some .string)
    (hall : ∀ v ∈ xs, ∃ n : UInt8, v = .c (.int .u8 n.toNat)) (hx : RelV g w (.sl none xs tok) x) :
    (convert src dst x).run P w = .ok (.string ⟨(xs.map byteOf).toArray⟩) w := by
  simp only [RelV] at hx
  obtain ⟨A, n, c, rfl, hn, hc, _, hr⟩ := hx
  rcases hr with rfl | ⟨b, o, rfl, hle, hr⟩
  · simp at hn; subst hn
    rw [run_convert_bytes_string w src dst e _ 0 c hs he hd]
    cases A <;> simp [Conv.bytesToString, loadCells, loadCellsFrom]
    all_goals rfl
  · have hget : ∀ i (hi : i < xs.length), ∃ u : UInt8, xs[i] = .c (.int .u8 u.toNat) ∧ cell w b (o + i) = some (.int .u8 u.toNat) := by
      intro i hi
      obtain ⟨u, hu⟩ := hall xs[i] (List.getElem_mem _)
      have := relXs_get hr (List.getElem?_eq_getElem hi)
      rw [hu] at this
      obtain ⟨y, hy, hv⟩ := this
      simp only [RelV] at hv
      subst hv
      exact ⟨u, hu, by simpa [width] using hy⟩
    have := run_convert_bytes_arg (P := P) w src e hs he b o n c (xs.map fun v => ((byteOf v).toNat : Int)) (by simp [hn]) (fun i hi => by
      obtain ⟨u, h1, h2⟩ := hget i (by omega)
      have hi' : i < xs.length := by omega
      simp only [cell] at h2
      rw [h2]
      simp [List.getD_eq_getElem?_getD, List.getElem?_eq_getElem hi', h1, byteOf]) dst hd
    rw [this]
    congr 2
    simp [strOfNums, List.map_map, Function.comp_def]
theorem run_places {P : Program} {w : World} {fs : Array Field} (hall : fs.toList.all (fun f => (P.info? f.type).isSome) = true) :
    ∃ places : Array (Nat × Nat), Sem.run P (fs.mapM fun (f : Field) => Prod.mk f.offset <$> sizeOf f.type) w = .ok places w ∧
      ∀ k : Nat, places[k]? = (fs[k]?).bind fun (f : Field) => (P.info? f.type).map fun j => (f.offset, j.size) := by
  have key : ∀ (l : List Field), l.all (fun f => (P.info? f.type).isSome) = true → ∃ ps : List (Nat × Nat), Sem.run P (l.mapM fun (f : Field) => Prod.mk f.offset <$> sizeOf f.type) w = .ok ps w ∧
      ∀ k : Nat, ps[k]? = (l[k]?).bind fun (f : Field) => (P.info? f.type).map fun j => (f.offset, j.size) := by
    intro l
    induction l with
    | nil => intro _; exact ⟨[], by simp, by simp⟩
    | cons f l ih =>
      intro h
      simp only [List.all_cons, Bool.and_eq_true] at h
      obtain ⟨j, hj⟩ := Option.isSome_iff_exists.1 h.1
      obtain ⟨ps, h1, h2⟩ := ih h.2
      refine ⟨(f.offset, j.size) :: ps, ?_, ?_⟩
      · simp [List.mapM_cons, run_sizeOf' hj, h1]
      · intro k
        cases k with
        | zero => simp [hj]
        | succ k => simp [h2]
  obtain ⟨ps, h1, h2⟩ := key fs.toList hall
  refine ⟨ps.toArray, ?_, fun k => by simp [h2]⟩
  rw [Array.mapM_eq_mapM_toList]
  simp [h1]
theorem run_build_struct (hF : RelF N g w fr a.tmps) {t : TypeId} {fs : Array Field} {i : TypeInfo} {z : Value} {parts : Array (Nat × Operand)} {cs : List V} (ht : P.underlying t = some (.struct fs)) (hi : P.info? t = some i) (hz : i.zero = some z)
    (hall : fs.toList.all (fun f => (P.info? f.type).isSome) = true) (hcs : fillV (fun k => (fs[k]?).bind fun f => (P.info? f.type).map fun j => (f.offset, j.size)) ((cellsO (ofC z)).getD []) (parts.toList.map fun (k, x) => (k, ev fr x)) = some cs) :
    ∃ l, (Instr.build t (parts.map fun (i, x) => (i, a.eval x))).run P w = .ok (.agg l) w ∧ RelL g w cs l.toList := by
  obtain ⟨places, h1, h2⟩ := run_places (P := P) (w := w) hall
  have hzc : RelL g w ((cellsO (ofC z)).getD []) z.cells.toList := zero_rel z
  obtain ⟨l, h3, h4⟩ := fillV_rel (place := (places[·]?)) (parts.toList.map fun (k, x) => (k, ev fr x)) (parts.toList.map fun (k, x) => (k, a.eval x)) _ cs z.cells hzc (by simp [List.map_map, Function.comp_def]) (by simpa [List.map_map, Function.comp_def] using parts_rel hF parts.toList)
    (by rw [← hcs]; congr 1; funext k; exact (h2 k))
  refine ⟨l, ?_, h4⟩
  simp [Instr.build, zeroValue, typeInfo, hi, hz, run_underlying ht, h1, h3]
theorem run_build_array (hF : RelF N g w fr a.tmps) {t e : TypeId} {len : Nat} {i j : TypeInfo} {z : Value} {parts : Array (Nat × Operand)} {cs : List V} (ht : P.underlying t = some (.array len e)) (hi : P.info? t = some i) (hz : i.zero = some z)
    (hj : P.info? e = some j) (hcs : fillV (fun k => some (k * j.size, j.size)) ((cellsO (ofC z)).getD []) (parts.toList.map fun (k, x) => (k, ev fr x)) = some cs) :
    ∃ l, (Instr.build t (parts.map fun (i, x) => (i, a.eval x))).run P w = .ok (.agg l) w ∧ RelL g w cs l.toList := by
  have hzc : RelL g w ((cellsO (ofC z)).getD []) z.cells.toList := zero_rel z
  obtain ⟨l, h3, h4⟩ := fillV_rel (place := fun k => some (k * j.size, j.size)) (parts.toList.map fun (k, x) => (k, ev fr x)) (parts.toList.map fun (k, x) => (k, a.eval x)) _ cs z.cells hzc (by simp [List.map_map, Function.comp_def]) (by simpa [List.map_map, Function.comp_def] using parts_rel hF parts.toList) hcs
  refine ⟨l, ?_, h4⟩
  simp [Instr.build, zeroValue, typeInfo, hi, hz, run_underlying ht, run_sizeOf' hj, h3]
set_option maxHeartbeats 1000000 in
theorem sOp_gives (hw : Wf g w) (hF : RelF N g w fr a.tmps) (h : (sOp P live fr o).gives v) : Yields P (execOp a.eval o) g w v := by
  unfold sOp at h
  unfold execOp
  cases hop : o.op with
  | move x => simp only [hop, OpR.gives] at h; subst h; exact Yields.same hw rfl (ev_rel hF x)
  | assign x => simp only [hop, OpR.gives] at h; subst h; exact Yields.same hw rfl (ev_rel hF x)
  | pick c x y =>
    simp only [hop] at h
    split at h
    · rename_i t hc
      have := ev_rel hF c
      rw [hc] at this
      simp only [RelV] at this
      cases t <;> simp only [OpR.gives] at h <;> subst h
      · exact Yields.same hw (by simp [this, asBool]) (ev_rel hF y)
      · exact Yields.same hw (by simp [this, asBool]) (ev_rel hF x)
    · simp [OpR.gives] at h
  | alloc t => simp only [hop] at h; (repeat' split at h) <;> simp [OpR.gives] at h
  | box t x =>
    simp only [hop] at h
    split at h
    · rename_i sh hsh
      split at h
      · split at h <;> simp [OpR.gives] at h
      · split at h
        · rename_i hf
          simp only [OpR.gives] at h
          subst h
          obtain ⟨g', y, hr, he, hv⟩ := y_box (P := P) hw (t := t) hf (ev_rel hF x)
          exact ⟨y, g', _, run_v hr, he, hv⟩
        · simp [OpR.gives] at h
    · simp [OpR.gives] at h
  | load t x =>
    simp only [hop] at h
    split at h
    · rename_i sh sh' u off hsh hx
      have hv := ev_rel hF x
      rw [hx] at hv
      split at h
      · rename_i he
        simp only [OpR.gives] at h
        obtain ⟨y, hy, hr⟩ := y_load (P := P) hsh hv (u := v) (.inl ⟨he.1, he.2, h.symm⟩)
        exact yields_val hw hy hr
      · split at h
        · rename_i k cs
          split at h
          · rename_i u hp
            simp only [OpR.gives] at h; subst h
            obtain ⟨y, hy, hr⟩ := y_load (P := P) hsh hv (.inr ⟨_, _, rfl, rfl, hp⟩)
            exact yields_val hw hy hr
          · simp [OpR.gives] at h
        · simp [OpR.gives] at h
    · simp [OpR.gives] at h
    · simp [OpR.gives] at h
  | store t x y => simp only [hop] at h; (repeat' split at h) <;> simp [OpR.gives] at h
  | nilCheck x =>
    simp only [hop] at h
    have hv := ev_rel hF x
    split at h <;> simp only [OpR.gives] at h <;> (try subst h)
    · rename_i hx; rw [hx] at hv
      have := hv
      rw [relV_pt] at this
      obtain ⟨b, o, he, _⟩ := this
      exact Yields.same hw (by simp only [he]; rfl) (he ▸ hv)
    · rename_i hx; rw [hx] at hv
      have := hv
      simp only [RelV] at this
      exact Yields.same hw (by simp only [this]; rfl) (this ▸ hv)
    · rename_i hx; rw [hx] at hv
      have := hv
      simp only [RelV] at this
      obtain ⟨l, m, he, _⟩ := this
      exact Yields.same hw (by simp only [he]; rfl) (he ▸ hv)
    · rename_i hx; rw [hx] at hv
      have := hv
      simp only [RelV] at this
      exact Yields.same hw (by simp only [this]; rfl) (this ▸ hv)
    · rename_i hx; rw [hx] at hv
      have := hv
      simp only [RelV] at this
      obtain ⟨l, m, he, _⟩ := this
      exact Yields.same hw (by simp only [he]; rfl) (he ▸ hv)
  | binOp op t x y ty => simp only [hop] at h; exact g_bin hw (ev_rel hF x) (ev_rel hF y) h
  | unOp op t x =>
    simp only [hop] at h
    split at h
    · rename_i u hx
      have hv := ev_rel hF x
      rw [hx] at hv
      simp only [RelV] at hv
      split at h
      · rename_i r hr
        simp only [OpR.gives] at h; subst h
        exact yields_val hw (by rw [hv]; exact pureVal_run w hr) (by simp only [RelV])
      · simp [OpR.gives] at h
    · simp [OpR.gives] at h
  | convert src dst x =>
    simp only [hop] at h
    have hv := ev_rel hF x
    split at h
    · rename_i k k2 n hs hd hx; rw [hx] at hv
      simp only [RelV] at hv
      simp only [OpR.gives] at h; subst h
      exact yields_val hw (x := .int k (k.wrap n)) (by rw [hv]; simp [Go.convert, run_underlying hs, run_underlying hd, Conv.intToInt]) (by simp only [RelV])
    · rename_i s hs hd hx; rw [hx] at hv
      simp only [RelV] at hv
      simp only [OpR.gives] at h; subst h
      exact yields_val hw (x := .string s) (by rw [hv]; simp [Go.convert, run_underlying hs, run_underlying hd]) (by simp only [RelV])
    · rename_i e s hs hd hx; rw [hx] at hv
      simp only [RelV] at hv
      split at h
      · rename_i he
        split at h
        · split at h <;> simp [OpR.gives] at h
        · simp only [OpR.gives] at h; subst h
          obtain ⟨g', h1, h2⟩ := bytes_row hw e s
          exact ⟨_, g', _, run_v (by rw [hv]; exact Lib.run_convert_string_bytes w src dst e s hs hd he), h1, h2⟩
      · simp [OpR.gives] at h
    · rename_i e xs tok hs hd hx; rw [hx] at hv
      split at h
      · rename_i he
        simp only [OpR.gives] at h
        obtain ⟨hall, rfl⟩ := h
        exact yields_val hw (run_bytes_string hs he hd hall hv) (by simp only [RelV])
      · simp [OpR.gives] at h
    · split at h <;> simp [OpR.gives] at h
    · simp [OpR.gives] at h
  | makeInterface t x =>
    simp only [hop] at h
    have hv := ev_rel hF x
    split at h
    · simp [OpR.gives] at h
    · rename_i d c hni hd hx
      rw [hx] at hv
      simp only [RelV] at hv
      simp only [OpR.gives] at h; subst h
      refine yields_val hw ?_ (x := .iface t c) (by simp only [RelV])
      rw [hv]
      simp only [Instr.makeInterface, Sem.run_bind, run_underlying hd, Result.andThen_ok]
      try (cases d <;> first | rfl | (exfalso; simp_all))
    · rename_i d hni _ hd
      simp only [OpR.gives] at h; subst h
      refine yields_val hw ?_ (x := .iface t (a.eval x)) (by simp only [RelV]; exact ⟨_, rfl, hv⟩)
      simp only [Instr.makeInterface, Sem.run_bind, run_underlying (by assumption), Result.andThen_ok]
      try (cases d <;> first | rfl | (exfalso; simp_all))
    · simp [OpR.gives] at h
  | makeFunc f first caps =>
    simp only [hop, OpR.gives] at h; subst h
    refine yields_val hw (x := .func f (first.map a.eval) (caps.map a.eval)) rfl ?_
    simp only [RelV]
    exact ⟨_, _, rfl, by simpa using rel_map hF first.toList, by simpa using rel_map hF caps.toList⟩
  | slice t x lo hi mx =>
    simp only [hop] at h
    have hv := ev_rel hF x
    have hlo0 : ∀ {l : Int}, 0 ≤ l → ((l.toNat : Nat) : Int) = l := fun h => Int.toNat_of_nonneg h
    split at h
    · -- a string
      rename_i s ht hx
      rw [hx] at hv
      simp only [RelV] at hv
      have hsl : ∀ {lo' hi' : Option Value}, (Instr.sliceAt t (.string s) lo' hi' none).run P w = (Instr.slice t (.string s) lo' hi' none).run P w := by
        intro lo' hi'; simp [Instr.sliceAt, run_underlying ht]
      split at h
      · rename_i h1 h2
        simp only [OpR.gives] at h; subst h
        refine yields_val hw (x := .string s) ?_ (by simp only [RelV])
        rw [hv, opt_none h1, opt_none h2]
        simp only [Option.map_none]
        rw [hsl, g_slice_string ht (.inl ⟨rfl, rfl⟩) (.inl ⟨rfl, rfl⟩) (Nat.zero_le _) (Nat.le_refl _)]
        congr 2
        exact ByteArray.extract_zero_size
      · rename_i k l h1 h2
        simp only [OpR.gives] at h
        obtain ⟨⟨h0, hle⟩, rfl⟩ := h
        obtain ⟨k', hk'⟩ := opt_lo hF h1 h0
        refine yields_val hw (x := .string (s.extract l.toNat s.size)) ?_ (by simp only [RelV])
        rw [hv, opt_none h2, hk']
        simp only [Option.map_none]
        rw [hsl, g_slice_string ht (.inr ⟨_, rfl⟩) (.inl ⟨rfl, rfl⟩) (by omega) (Nat.le_refl _)]
      · rename_i k l h1 h2
        simp only [OpR.gives] at h
        obtain ⟨⟨h0, hle⟩, rfl⟩ := h
        obtain ⟨k', hk'⟩ := opt_lo hF h2 h0
        refine yields_val hw (x := .string (s.extract 0 l.toNat)) ?_ (by simp only [RelV])
        rw [hv, opt_none h1, hk']
        simp only [Option.map_none]
        rw [hsl, g_slice_string ht (.inl ⟨rfl, rfl⟩) (.inr ⟨_, rfl⟩) (by omega) (by omega)]
      · rename_i k l k2 l2 h1 h2
        simp only [OpR.gives] at h
        obtain ⟨⟨h0, hle, hle2⟩, rfl⟩ := h
        obtain ⟨k', hk'⟩ := opt_lo hF h1 h0
        obtain ⟨k2', hk2'⟩ := opt_lo hF h2 (by omega)
        refine yields_val hw (x := .string (s.extract l.toNat l2.toNat)) ?_ (by simp only [RelV])
        rw [hv, hk', hk2']
        simp only [Option.map_none]
        rw [hsl, g_slice_string ht (.inr ⟨_, rfl⟩) (.inr ⟨_, rfl⟩) (by omega) (by omega)]
      · simp [OpR.gives] at h
    · -- a slice
      rename_i e sh xs tok ht hx
      rw [hx] at hv
      have hsl : ∀ {y : Value} {lo' hi' : Option Value}, (Instr.sliceAt t y lo' hi' none).run P w = (Instr.slice t y lo' hi' none).run P w := by
        intro y lo' hi'; simp [Instr.sliceAt, run_underlying ht]
      split at h
      · rename_i hsh
        split at h
        · rename_i h1 h2
          simp only [OpR.gives] at h; subst h
          obtain ⟨y, hy, hr⟩ := g_slice_slice (P := P) hw ht hsh hv (.inl ⟨rfl, rfl⟩) (.inl ⟨rfl, rfl⟩) (Nat.zero_le _) (Nat.le_refl _)
          refine yields_val hw (x := y) ?_ (by simpa using hr)
          rw [opt_none h1, opt_none h2]
          simp only [Option.map_none]
          rw [hsl, hy]
        · rename_i k l h1 h2
          simp only [OpR.gives] at h
          obtain ⟨⟨h0, hle⟩, rfl⟩ := h
          obtain ⟨k', hk'⟩ := opt_lo hF h1 h0
          obtain ⟨y, hy, hr⟩ := g_slice_slice (P := P) hw ht hsh hv (lo := some (.int k' (l.toNat : Int))) (.inr ⟨_, rfl⟩) (.inl ⟨rfl, rfl⟩) (by omega) (Nat.le_refl _)
          refine yields_val hw (x := y) ?_ (by simpa using hr)
          rw [opt_none h2, hk']
          simp only [Option.map_none]
          rw [hsl, hy]
        · rename_i k l h1 h2
          simp only [OpR.gives] at h
          obtain ⟨⟨h0, hle⟩, rfl⟩ := h
          obtain ⟨k', hk'⟩ := opt_lo hF h2 h0
          obtain ⟨y, hy, hr⟩ := g_slice_slice (P := P) hw ht hsh hv (hi := some (.int k' (l.toNat : Int))) (.inl ⟨rfl, rfl⟩) (.inr ⟨_, rfl⟩) (by omega) (by omega)
          refine yields_val hw (x := y) ?_ (by simpa using hr)
          rw [opt_none h1, hk']
          simp only [Option.map_none]
          rw [hsl, hy]
        · rename_i k l k2 l2 h1 h2
          simp only [OpR.gives] at h
          obtain ⟨⟨h0, hle, hle2⟩, rfl⟩ := h
          obtain ⟨k', hk'⟩ := opt_lo hF h1 h0
          obtain ⟨k2', hk2'⟩ := opt_lo hF h2 (by omega)
          obtain ⟨y, hy, hr⟩ := g_slice_slice (P := P) hw ht hsh hv (lo := some (.int k' (l.toNat : Int))) (hi := some (.int k2' (l2.toNat : Int))) (.inr ⟨_, rfl⟩) (.inr ⟨_, rfl⟩) (by omega) (by omega)
          refine yields_val hw (x := y) ?_ hr
          rw [hk', hk2']
          simp only [Option.map_none]
          rw [hsl, hy]
        · simp [OpR.gives] at h
      · simp [OpR.gives] at h
    · -- a slice whose elements may change
      rename_i e sh b o n c ht hx
      rw [hx] at hv
      have hsl : ∀ {y : Value} {lo' hi' mx' : Option Value}, (Instr.sliceAt t y lo' hi' mx').run P w = (Instr.slice t y lo' hi' mx').run P w := by
        intro y lo' hi' mx'; simp [Instr.sliceAt, run_underlying ht]
      have hle := hv
      simp only [RelV] at hle
      obtain ⟨_, _, hle, _⟩ := hle
      split at h
      · rename_i hsh
        split at h
        · rename_i h1 h2 h3
          simp only [OpR.gives] at h; subst h
          obtain ⟨y, hy, hr⟩ := g_lslice (P := P) ht hsh hv (l := 0) (h := n) (m := c) (.inl ⟨rfl, rfl⟩) (.inl ⟨rfl, rfl, rfl⟩) (.inl ⟨rfl, rfl⟩) (Nat.zero_le _) hle (Nat.le_refl _)
          refine yields_val hw (x := y) ?_ (by simpa using hr)
          rw [opt_none h1, opt_none h2, opt_none h3, hsl, hy]
        · rename_i k l h1 h2 h3
          simp only [OpR.gives] at h
          obtain ⟨⟨h0, hl⟩, rfl⟩ := h
          obtain ⟨k', hk'⟩ := opt_lo hF h1 h0
          obtain ⟨y, hy, hr⟩ := g_lslice (P := P) ht hsh hv (l := l.toNat) (h := n) (m := c) (.inr ⟨k', rfl⟩) (.inl ⟨rfl, rfl, rfl⟩) (.inl ⟨rfl, rfl⟩) (by omega) hle (Nat.le_refl _)
          refine yields_val hw (x := y) ?_ hr
          rw [hk', opt_none h2, opt_none h3, hsl, hy]
        · rename_i k l h1 h2 h3
          simp only [OpR.gives] at h
          obtain ⟨⟨h0, hl⟩, rfl⟩ := h
          obtain ⟨k', hk'⟩ := opt_lo hF h2 h0
          obtain ⟨y, hy, hr⟩ := g_lslice (P := P) ht hsh hv (l := 0) (h := l.toNat) (m := c) (.inl ⟨rfl, rfl⟩) (.inr ⟨k', rfl⟩) (.inl ⟨rfl, rfl⟩) (by omega) (by omega) (Nat.le_refl _)
          refine yields_val hw (x := y) ?_ (by simpa using hr)
          rw [opt_none h1, hk', opt_none h3, hsl, hy]
        · rename_i k l k2 l2 h1 h2 h3
          simp only [OpR.gives] at h
          obtain ⟨⟨h0, hl, hl2⟩, rfl⟩ := h
          obtain ⟨k', hk'⟩ := opt_lo hF h1 h0
          obtain ⟨k2', hk2'⟩ := opt_lo hF h2 (by omega)
          obtain ⟨y, hy, hr⟩ := g_lslice (P := P) ht hsh hv (l := l.toNat) (h := l2.toNat) (m := c) (.inr ⟨k', rfl⟩) (.inr ⟨k2', rfl⟩) (.inl ⟨rfl, rfl⟩) (by omega) (by omega) (Nat.le_refl _)
          refine yields_val hw (x := y) ?_ hr
          rw [hk', hk2', opt_none h3, hsl, hy]
        · rename_i k k' h1 h2 h3
          simp only [OpR.gives] at h; subst h
          obtain ⟨k2, hk2⟩ := opt_lo hF h2 (Int.le_refl 0)
          obtain ⟨k3, hk3⟩ := opt_lo hF h3 (Int.le_refl 0)
          obtain ⟨y, hy, hr⟩ := g_lzero (P := P) ht hsh hv (.inl rfl) k2 k3
          refine yields_val hw (x := y) ?_ hr
          rw [opt_none h1, hk2, hk3, hsl]; exact hy
        · rename_i k0 k k' h1 h2 h3
          simp only [OpR.gives] at h; subst h
          obtain ⟨k1, hk1⟩ := opt_lo hF h1 (Int.le_refl 0)
          obtain ⟨k2, hk2⟩ := opt_lo hF h2 (Int.le_refl 0)
          obtain ⟨k3, hk3⟩ := opt_lo hF h3 (Int.le_refl 0)
          obtain ⟨y, hy, hr⟩ := g_lzero (P := P) ht hsh hv (.inr ⟨k1, rfl⟩) k2 k3
          refine yields_val hw (x := y) ?_ hr
          rw [hk1, hk2, hk3, hsl]; exact hy
        · rename_i k l k2 l2 _ h1 h2 h3
          simp only [OpR.gives] at h
          obtain ⟨⟨h0, hl, hl2⟩, rfl⟩ := h
          obtain ⟨k', hk'⟩ := opt_lo hF h2 h0
          obtain ⟨k2', hk2'⟩ := opt_lo hF h3 (by omega)
          obtain ⟨y, hy, hr⟩ := g_lslice (P := P) ht hsh hv (l := 0) (h := l.toNat) (m := l2.toNat) (.inl ⟨rfl, rfl⟩) (.inr ⟨k', rfl⟩) (.inr ⟨k2', rfl⟩) (by omega) (by omega) (by omega)
          refine yields_val hw (x := y) ?_ (by simpa using hr)
          rw [opt_none h1, hk', hk2', hsl, hy]
        · simp [OpR.gives] at h
      · simp [OpR.gives] at h
    · rename_i e sh xs tok m ht hx
      rw [hx] at hv
      split at h
      · rename_i j hj _
        have hsl : ∀ {y : Value} {lo' hi' mx' : Option Value}, (Instr.sliceAt t y lo' hi' mx').run P w = (Instr.slice t y lo' hi' mx').run P w := by
          intro y lo' hi' mx'; simp [Instr.sliceAt, run_underlying ht]
        split at h
        · rename_i k k' h1 h2 h3
          simp only [OpR.gives] at h; subst h
          obtain ⟨k2, hk2⟩ := opt_lo hF h2 (Int.le_refl 0)
          have hm := ev_rel hF m
          rw [h3] at hm
          simp only [RelV] at hm
          obtain ⟨y, hy, hr⟩ := g_slice_zero (P := P) ht hj hv (.inl rfl) k2 k'
          refine yields_val hw (x := y) ?_ hr
          rw [opt_none h1, hk2]
          simp only [Option.map_some, hm]
          rw [hsl]
          exact hy
        · rename_i k0 k k' h1 h2 h3
          simp only [OpR.gives] at h; subst h
          obtain ⟨k1, hk1⟩ := opt_lo hF h1 (Int.le_refl 0)
          obtain ⟨k2, hk2⟩ := opt_lo hF h2 (Int.le_refl 0)
          have hm := ev_rel hF m
          rw [h3] at hm
          simp only [RelV] at hm
          obtain ⟨y, hy, hr⟩ := g_slice_zero (P := P) ht hj hv (.inr ⟨k1, rfl⟩) k2 k'
          refine yields_val hw (x := y) ?_ hr
          rw [hk1, hk2]
          simp only [Option.map_some, hm]
          rw [hsl]
          exact hy
        · simp [OpR.gives] at h
      · rename_i j hj _
        have hsl : ∀ {y : Value} {lo' hi' mx' : Option Value}, (Instr.sliceAt t y lo' hi' mx').run P w = (Instr.slice t y lo' hi' mx').run P w := by
          intro y lo' hi' mx'; simp [Instr.sliceAt, run_underlying ht]
        split at h
        · rename_i hsh
          split at h
          · rename_i k l k' l' h1 h2 h3
            simp only [OpR.gives] at h
            obtain ⟨⟨h0, hle, hle2⟩, rfl⟩ := h
            obtain ⟨k2, hk2⟩ := opt_lo hF h2 h0
            have hm := ev_rel hF m
            rw [h3] at hm
            simp only [RelV] at hm
            obtain ⟨m', rfl⟩ : ∃ m' : Nat, l' = m' := ⟨l'.toNat, by omega⟩
            obtain ⟨y, hy, hr⟩ := g_slice3 (P := P) hw ht hsh hv (l := 0) (h := l.toNat) (m := m') (.inl ⟨rfl, rfl⟩) k2 k' (Nat.zero_le _) (by omega) (by omega)
            refine yields_val hw (x := y) ?_ (by simpa using hr)
            rw [opt_none h1, hk2]
            simp only [Option.map_some, hm]
            rw [hsl]
            exact hy
          · rename_i k0 l0 k l k' l' h1 h2 h3
            simp only [OpR.gives] at h
            obtain ⟨⟨h0, hle0, hle, hle2⟩, rfl⟩ := h
            obtain ⟨k1, hk1⟩ := opt_lo hF h1 h0
            obtain ⟨k2, hk2⟩ := opt_lo hF h2 (by omega)
            have hm := ev_rel hF m
            rw [h3] at hm
            simp only [RelV] at hm
            obtain ⟨m', rfl⟩ : ∃ m' : Nat, l' = m' := ⟨l'.toNat, by omega⟩
            obtain ⟨y, hy, hr⟩ := g_slice3 (P := P) hw ht hsh hv (l := l0.toNat) (h := l.toNat) (m := m') (.inr ⟨k1, rfl⟩) k2 k' (by omega) (by omega) (by omega)
            refine yields_val hw (x := y) ?_ hr
            rw [hk1, hk2]
            simp only [Option.map_some, hm]
            rw [hsl]
            exact hy
          · simp [OpR.gives] at h
        · simp [OpR.gives] at h
      · simp [OpR.gives] at h
    · simp [OpR.gives] at h
  | fieldAddr s x f =>
    simp only [hop] at h
    have hv := ev_rel hF x
    split at h
    · rename_i fd sh u off hf hx
      rw [hx] at hv
      split at h
      · rename_i i hi
        split at h
        · simp [OpR.gives] at h
        · rename_i h0
          simp only [OpR.gives] at h; subst h
          rw [relV_pt] at hv
          obtain ⟨b, q, he, hle, hr⟩ := hv
          refine yields_val hw (x := .pointer (some ⟨b, q + off + fd.offset, none⟩)) ?_ ?_
          · rw [he]; exact g_fieldAddr hf hi h0 _ _
          · rw [relV_pt]; exact ⟨b, q, by rw [Nat.add_assoc], hle, hr⟩
      · simp [OpR.gives] at h
    · rename_i fd b off hf hx
      rw [hx] at hv
      split at h
      · rename_i i hi
        split at h
        · simp [OpR.gives] at h
        · rename_i h0
          simp only [OpR.gives] at h; subst h
          simp only [RelV] at hv
          exact yields_val hw (by rw [hv]; exact g_fieldAddr hf hi h0 _ _) (by simp only [RelV])
      · simp [OpR.gives] at h
    · simp [OpR.gives] at h
  | field s x f =>
    simp only [hop] at h
    have hv := ev_rel hF x
    split at h
    · rename_i fd cs hf hx
      rw [hx] at hv
      simp only [RelV] at hv
      obtain ⟨l, he, hl⟩ := hv
      split at h
      · rename_i sh hsh
        split at h
        · rename_i u hu
          simp only [OpR.gives] at h; subst h
          obtain ⟨y, hy, hr⟩ := run_part (P := P) (w := w) hsh hl hu
          unfold fieldOf at hf
          split at hf
          · rename_i fs hus
            refine yields_val hw (x := y) ?_ hr
            rw [he]
            simp [Instr.field, run_underlying hus, hf, asAgg, hy]
          · cases hf
        · simp [OpR.gives] at h
      · simp [OpR.gives] at h
    · simp [OpR.gives] at h
  | indexAddr t x i =>
    simp only [hop] at h
    have hv := ev_rel hF x
    have hi := ev_rel hF i
    split at h
    · rename_i e sh xs tok k n ht hx hn
      rw [hx] at hv; rw [hn] at hi
      simp only [RelV] at hi
      split at h
      · rename_i hsh
        simp only [OpR.gives] at h
        obtain ⟨⟨h0, hlt⟩, rfl⟩ := h
        obtain ⟨j, hj, hs⟩ := shape_info hsh
        simp only [RelV] at hv
        obtain ⟨A, n', c, he, hn', hc, _, hr⟩ := hv
        rcases hr with rfl | ⟨b, q, rfl, hle, hr⟩
        · simp at hlt; omega
        · have hlt' : n.toNat < xs.length := by omega
          have hg := relXs_get hr (List.getElem?_eq_getElem hlt')
          have hmul : n.toNat * width sh + width sh ≤ n' * width sh := by
            rw [← Nat.succ_mul]; exact Nat.mul_le_mul_right _ (by omega)
          refine yields_val hw (x := .pointer (some ⟨b, q + n.toNat * width sh, none⟩)) ?_ ?_
          · rw [he, hi]
            simp [Instr.indexAt, asIntOf, run_underlying ht, run_sizeOf' hj, hs, Addr.add_lit]
            omega
          · rw [relV_pt]
            refine ⟨b, q + n.toNat * width sh, rfl, by omega, ?_⟩
            rw [List.getD_eq_getElem?_getD, List.getElem?_eq_getElem hlt', Option.getD_some]
            exact relE_congr hg fun j _ => by rw [Nat.add_assoc]
      · simp [OpR.gives] at h
    · rename_i e sh b q c cap k n ht hx hn
      rw [hx] at hv; rw [hn] at hi
      simp only [RelV] at hi
      split at h
      · rename_i hsh
        simp only [OpR.gives] at h
        obtain ⟨⟨h0, hlt⟩, rfl⟩ := h
        obtain ⟨j, hj, hs⟩ := shape_info hsh
        simp only [RelV] at hv
        obtain ⟨A, he, hc, hA⟩ := hv
        rcases hA with hA | rfl
        · omega
        · refine yields_val hw (x := .pointer (some ⟨b, q + n.toNat * width sh, none⟩)) ?_ (by simp only [RelV])
          rw [he, hi]
          simp [Instr.indexAt, asIntOf, run_underlying ht, run_sizeOf' hj, hs, Addr.add_lit]
          omega
      · simp [OpR.gives] at h
    · rename_i len e b off k n ht hx hn
      rw [hx] at hv; rw [hn] at hi
      simp only [RelV] at hi hv
      split at h
      · rename_i j hj
        simp only [OpR.gives] at h
        obtain ⟨⟨h0, hlt⟩, rfl⟩ := h
        refine yields_val hw (x := .pointer (some ⟨b, off + n.toNat * j.size, none⟩)) ?_ (by simp only [RelV])
        rw [hv, hi]
        simp [Instr.indexAt, asIntOf, run_underlying ht, run_sizeOf' hj, Addr.add_lit, Instr.sureAddr]
        intro h1
        omega
      · simp [OpR.gives] at h
    · rename_i len e sh u off k n ht hx hn
      rw [hx] at hv; rw [hn] at hi
      rw [relV_pt] at hv
      simp only [RelV] at hi
      split at h
      · rename_i j hj
        simp only [OpR.gives] at h
        obtain ⟨⟨h0, hlt⟩, rfl⟩ := h
        obtain ⟨b, q, he, hle, hr⟩ := hv
        refine yields_val hw (x := .pointer (some ⟨b, q + off + n.toNat * j.size, none⟩)) ?_ ?_
        · rw [he, hi]
          simp [Instr.indexAt, asIntOf, run_underlying ht, run_sizeOf' hj, Addr.add_lit, Instr.sureAddr]
          intro h1
          omega
        · rw [relV_pt]; exact ⟨b, q, by rw [Nat.add_assoc], hle, hr⟩
      · simp [OpR.gives] at h
    · simp [OpR.gives] at h
  | index t x i =>
    simp only [hop] at h
    have hv := ev_rel hF x
    have hi := ev_rel hF i
    split at h
    · rename_i s k n ht hx hn
      rw [hx] at hv; rw [hn] at hi
      simp only [RelV] at hi hv
      simp only [OpR.gives] at h
      obtain ⟨⟨h0, hlt⟩, rfl⟩ := h
      refine yields_val hw (x := .int .u8 (byteAt s n.toNat).toNat) ?_ (by simp only [RelV])
      rw [hv, hi]
      simp [Instr.index, asIntOf, run_underlying ht, h0, byteAt_get (show n.toNat < s.size by omega)]
    · rename_i len e cs k n ht hx hn
      rw [hx] at hv; rw [hn] at hi
      simp only [RelV] at hi hv
      obtain ⟨l, he, hl⟩ := hv
      split at h
      · rename_i hsh
        simp only [OpR.gives] at h
        obtain ⟨⟨h0, hlt, hle⟩, rfl⟩ := h
        obtain ⟨j, hj, hs⟩ := shape_info hsh
        have hlt' : n.toNat < cs.length := by omega
        obtain ⟨y, hy, hr⟩ := run_part (P := P) (w := w) hsh hl (off := n.toNat) (u := cs.getD n.toNat .undef) (by simp [partOf, List.getD_eq_getElem?_getD, List.getElem?_eq_getElem hlt'])
        refine yields_val hw (x := y) ?_ hr
        rw [he, hi]
        simp [Instr.index, asIntOf, run_underlying ht, h0, hlt, run_sizeOf' hj, hs, width, hy]
      · simp [OpR.gives] at h
    · simp [OpR.gives] at h
  | extract x i =>
    simp only [hop] at h
    have hv := ev_rel hF x
    split at h
    · rename_i vs hx
      rw [hx] at hv
      simp only [RelV] at hv
      obtain ⟨l, he, hl⟩ := hv
      split at h
      · rename_i u hu
        simp only [OpR.gives] at h; subst h
        obtain ⟨y, hy, hr⟩ := relL_get hl hu
        refine yields_val hw (x := y) ?_ hr
        rw [he]
        have hy' : l[i]? = some y := by simpa using hy
        simp [Instr.extract, hy']
      · simp [OpR.gives] at h
    · simp [OpR.gives] at h
  | build t parts =>
    simp only [hop] at h
    split at h
    · rename_i fs i ht hi
      split at h
      · rename_i z hz hall
        split at h
        · rename_i cs hcs
          simp only [OpR.gives] at h; subst h
          obtain ⟨l, hl1, hl2⟩ := run_build_struct (P := P) (w := w) hF ht hi hz hall hcs
          exact yields_val hw (x := .agg l) hl1 (by simp only [RelV]; exact ⟨l, rfl, hl2⟩)
        · simp [OpR.gives] at h
      · simp [OpR.gives] at h
    · rename_i len e i ht hi
      split at h
      · rename_i z j hz hj
        split at h
        · rename_i cs hcs
          simp only [OpR.gives] at h; subst h
          obtain ⟨l, hl1, hl2⟩ := run_build_array (P := P) (w := w) hF ht hi hz hj hcs
          exact yields_val hw (x := .agg l) hl1 (by simp only [RelV]; exact ⟨l, rfl, hl2⟩)
        · simp [OpR.gives] at h
      · simp [OpR.gives] at h
    · simp [OpR.gives] at h
  | buildSlice t n parts =>
    simp only [hop] at h
    split at h
    · rename_i e ht
      split at h
      · rename_i sh hsh
        split at h
        · rename_i hc
          obtain ⟨h1, h2, h3, h4, _⟩ := hc
          split at h
          · split at h <;> simp [OpR.gives] at h
          · simp only [OpR.gives] at h; subst h
            obtain ⟨cells, hr, hs, hn, hx⟩ := run_buildSlice (P := P) (w := w) (parts := parts.map fun (i, x) => (i, a.eval x)) ht hsh h4 (by simpa [List.map_map, Function.comp_def] using h1) h2 (by simpa [List.map_map, Function.comp_def] using parts_rel hF parts.toList) h3
            obtain ⟨g', he, hv⟩ := relV_row hw (e := e) hs hn hx
            refine ⟨_, g', _, run_v hr, he, ?_⟩
            by_cases hn0 : n = 0
            · rw [if_pos hn0]
              simp only [RelV] at hv ⊢
              obtain ⟨A, n', c', e1, e2, e3, _, e5⟩ := hv
              refine ⟨A, n', c', e1, e2, e3, ?_, e5⟩
              cases e1; exact hn0
            · rw [if_neg hn0]; exact hv
        · simp [OpR.gives] at h
      · simp [OpR.gives] at h
    · simp [OpR.gives] at h
  | call c =>
    simp only [hop] at h
    obtain ⟨callee, args, ats⟩ := c
    have hargs : ∀ {vs : List V}, args.toList.map (ev fr) = vs → RelL g w vs (args.map a.eval).toList := by
      intro vs h; subst h; simpa using rel_map hF args.toList
    split at h
    · -- len
      rename_i hc
      simp only at hc; subst hc
      split at h
      · rename_i s ht hx
        simp only [OpR.gives] at h; subst h
        obtain ⟨x, hx1, hx2⟩ := rel_one (hargs hx)
        simp only [RelV] at hx2; subst hx2
        obtain ⟨t, ts, hts, ht'⟩ := head_some ht
        refine ⟨.int .i64 s.size, g, w, ?_, Ext.refl _ hw, by simp only [RelV]⟩
        simp [resolve, invoke, builtin, arr_of hx1, Builtin.len_, arr_zero hts, run_underlying ht', goInt]
      · rename_i e sh xs tok ht hx
        simp only [OpR.gives] at h; subst h
        obtain ⟨x, hx1, hx2⟩ := rel_one (hargs hx)
        simp only [RelV] at hx2
        obtain ⟨A, n, c', rfl, hn, _⟩ := hx2
        subst hn
        obtain ⟨t, ts, hts, ht'⟩ := head_some ht
        refine ⟨.int .i64 xs.length, g, w, ?_, Ext.refl _ hw, by simp only [RelV]⟩
        simp [resolve, invoke, builtin, arr_of hx1, Builtin.len_, arr_zero hts, run_underlying ht', goInt]
      · rename_i e sh b o n c' ht hx
        simp only [OpR.gives] at h; subst h
        obtain ⟨x, hx1, hx2⟩ := rel_one (hargs hx)
        simp only [RelV] at hx2
        obtain ⟨A, rfl, _⟩ := hx2
        obtain ⟨t, ts, hts, ht'⟩ := head_some ht
        refine ⟨.int .i64 n, g, w, ?_, Ext.refl _ hw, by simp only [RelV]⟩
        simp [resolve, invoke, builtin, arr_of hx1, Builtin.len_, arr_zero hts, run_underlying ht', goInt]
      · rename_i n e u ht hx
        simp only [OpR.gives] at h; subst h
        obtain ⟨x, hx1, hx2⟩ := rel_one (hargs hx)
        obtain ⟨t, ts, hts, ht'⟩ := head_some ht
        refine ⟨.int .i64 n, g, w, ?_, Ext.refl _ hw, by simp only [RelV]⟩
        simp [resolve, invoke, builtin, arr_of hx1, Builtin.len_, arr_zero hts, run_underlying ht', goInt]
      · simp [OpR.gives] at h
    · -- cap
      rename_i hc
      simp only at hc; subst hc
      split at h
      · rename_i e sh b o n c' ht hx
        simp only [OpR.gives] at h; subst h
        obtain ⟨x, hx1, hx2⟩ := rel_one (hargs hx)
        simp only [RelV] at hx2
        obtain ⟨A, rfl, _⟩ := hx2
        obtain ⟨t, ts, hts, ht'⟩ := head_some ht
        refine ⟨.int .i64 c', g, w, ?_, Ext.refl _ hw, by simp only [RelV]⟩
        simp [resolve, invoke, builtin, arr_of hx1, Builtin.cap_, arr_zero hts, run_underlying ht', goInt]
      · rename_i e sh xs ht hx
        simp only [OpR.gives] at h; subst h
        obtain ⟨x, hx1, hx2⟩ := rel_one (hargs hx)
        simp only [RelV] at hx2
        obtain ⟨A, n, c', rfl, _, _, h0, _⟩ := hx2
        subst h0
        obtain ⟨t, ts, hts, ht'⟩ := head_some ht
        refine ⟨.int .i64 0, g, w, ?_, Ext.refl _ hw, by simp only [RelV]⟩
        simp [resolve, invoke, builtin, arr_of hx1, Builtin.cap_, arr_zero hts, run_underlying ht', goInt]
      · simp [OpR.gives] at h
    · (repeat' split at h) <;> simp [OpR.gives] at h
    · (repeat' split at h) <;> simp [OpR.gives] at h
    · rename_i hc
      (repeat' split at h) <;> simp [OpR.gives] at h
    · -- max
      rename_i hc
      simp only at hc; subst hc
      split at h
      · rename_i k p k' q hx
        simp only [OpR.gives] at h; subst h
        obtain ⟨x, y, hx1, hx2, hy2⟩ := rel_two (hargs hx)
        simp only [RelV] at hx2 hy2; subst hx2; subst hy2
        refine ⟨.int k (max p q), g, w, ?_, Ext.refl _ hw, by simp only [RelV]⟩
        simp [resolve, invoke, builtin, arr_of hx1, Builtin.max_, Builtin.max2]
        omega
      · simp [OpR.gives] at h
    · -- min
      rename_i hc
      simp only at hc; subst hc
      split at h
      · rename_i k p k' q hx
        simp only [OpR.gives] at h; subst h
        obtain ⟨x, y, hx1, hx2, hy2⟩ := rel_two (hargs hx)
        simp only [RelV] at hx2 hy2; subst hx2; subst hy2
        refine ⟨.int k (min p q), g, w, ?_, Ext.refl _ hw, by simp only [RelV]⟩
        simp [resolve, invoke, builtin, arr_of hx1, Builtin.min_, Builtin.min2]
        omega
      · simp [OpR.gives] at h
    · (repeat' split at h) <;> simp [OpR.gives] at h
    · simp [OpR.gives] at h
  | makeSlice t n c => simp only [hop] at h; (repeat' split at h) <;> simp [OpR.gives] at h
  | _ => simp [hop, OpR.gives] at h
end
end Go.Sv
namespace Go.Sv
open Go
structure Marks (n0 : Nat) (g : Gh) (w : World) (R : List Res) (ds : List Deferred) : Prop where
  ex : ∃ rs : List Nat, ds = rs.map (fun r => { target := .collected r, args := #[] }) ∧ rs.Nodup ∧ ∀ r ∈ rs, w.heap[r]? = some (.deferred (some [])) ∧ r ∉ blocks g R ∧ n0 ≤ r
theorem Marks.after {n0 : Nat} {g g' : Gh} {w w' : World} {R R' : List Res} {ds : List Deferred} (h : Marks n0 g w R ds) (ha : After g w R g' w' R') : Marks n0 g' w' R' ds := by
  obtain ⟨rs, h1, h2, h3⟩ := h.ex
  refine ⟨rs, h1, h2, fun r hr => ?_⟩
  obtain ⟨h4, h5, h6⟩ := h3 r hr
  have hlt := (Array.getElem?_eq_some_iff.1 h4).1
  refine ⟨by rw [ha.ext.frame r hlt h5]; exact h4, fun hm => ?_, h6⟩
  rcases ha.own r hm with h6 | h6
  · exact h5 h6
  · omega
structure St (N n0 : Nat) (g : Gh) (w : World) (R : List Res) (fr : Fr) (a : Act) : Prop where
  wf : Wf g w
  fr : RelF N g w fr a.tmps
  res : RelR g w R
  marks : Marks n0 g w R a.defers
def NextP (P : Program) (N n0 : Nat) (Q : Exit → Fr → List Res → Prop) (k : Fr → Tree) (g : Gh) (w : World) (R : List Res) (a' : Act) (w' : World) : Prop :=
  ∃ g' fr' R', (k fr').wp P R' Q ∧ After g w R g' w' R' ∧ RelF N g' w' fr' a'.tmps ∧ Marks n0 g' w' R' a'.defers
section
variable {P : Program} {N n0 : Nat} {Q : Exit → Fr → List Res → Prop} {k : Fr → Tree} {g : Gh} {w : World} {R : List Res} {fr : Fr} {a : Act}
theorem put_defers (a : Act) (d : Option Tmp) (v : Value) : (a.put d v).defers = a.defers := by cases d <;> rfl
theorem next_put (hs : St N n0 g w R fr a) {g' : Gh} {w' : World} {R' : List Res} (ha : After g w R g' w' R') {d : Option Nat} (hd : ∀ k, d = some k → k < N) {v : V} {x : Value} (hv : RelV g' w' v x)
    (hk : (k (putO fr d v)).wp P R' Q) : NextP P N n0 Q k g w R (a.put d x) w' :=
  ⟨g', _, R', hk, ha, (hs.fr.mono ha.ext.toPre).put hd hv, by rw [put_defers]; exact hs.marks.after ha⟩
theorem after_of_ext {g' : Gh} {w' : World} (hr : RelR g w R) (he : Ext [] g w g' w') : After g w R g' w' R :=
  ⟨he.mono (by simp), (hr.kept he (by simp)).1, fun b hb => .inl (by rw [← (hr.kept he (by simp)).2]; exact hb)⟩
theorem split_at {i : Nat} {r : Res} (h : R[i]? = some r) : ∃ A B, R = A ++ [r] ++ B ∧ ∀ x, R.set i x = A ++ [x] ++ B := by
  have hlt := (List.getElem?_eq_some_iff.1 h).1
  have hr := (List.getElem?_eq_some_iff.1 h).2
  refine ⟨R.take i, R.drop (i + 1), ?_, fun x => ?_⟩
  · have := List.take_append_drop i R
    rw [List.drop_eq_getElem_cons hlt, hr] at this
    simpa using this.symm
  · rw [List.set_eq_take_append_cons_drop, if_pos hlt]; simp
theorem obj_cell {b : Nat} {cs : List V} (h : RelRes g w (.obj b cs)) : ∃ vals : Array Value, RelL g w cs vals.toList ∧ ∀ o : Nat, o < cs.length → cell w b o = vals[o]? := by
  rcases h with rfl | ⟨vals, e, fz, hh, _, hl, _⟩
  · exact ⟨#[], by simp [RelL], by simp⟩
  refine ⟨vals, hl, fun o _ => ?_⟩
  simp [cell, World.cell?, hh]
theorem part_lt {sh : Option Nat} {cs : List V} {off : Nat} {v : V} (h : partOf sh cs off = some v) : off + width sh ≤ cs.length := by
  cases sh with
  | none =>
    simp only [partOf] at h
    have := (List.getElem?_eq_some_iff.1 h).1
    simp [width]; omega
  | some k =>
    simp only [partOf] at h
    split at h
    · simpa [width]
    · cases h
theorem e_load (hs : St N n0 g w R fr a) {t : TypeId} {sh : Option Nat} {b off i : Nat} {cs : List V} {v : V} {x : Value} (hsh : shapeOf P t = some sh) (hx : RelV g w (.loc b off) x)
    (hR : R[i]? = some (.obj b cs)) (hp : partOf sh cs off = some v) : ∃ y, (Instr.loadAt t x).run P w = .ok y w ∧ RelV g w v y := by
  simp only [RelV] at hx; subst hx
  obtain ⟨vals, hl, hc⟩ := obj_cell (hs.res.all _ (List.mem_of_getElem? hR))
  have hlt := part_lt hp
  have he : RelE g w sh v (fun i => cell w b (off + i)) := relE_congr (relE_part hl hp) fun j hj => hc _ (by omega)
  obtain ⟨y, hy, hr⟩ := run_loadVar hsh he
  exact ⟨y, by simpa [Instr.loadAt, Instr.sureAddr] using hy, hr⟩
theorem setRow_ext {b : Nat} {vals cs' : Array Value} {e : TypeId} {fz : Nat × Nat} (hw : Wf g w) (_hh : w.heap[b]? = some (.cells vals e fz)) (hcm : g.cm b = 0) : Ext [b] g w g (w.setRow b cs') where
  cmle _ := Nat.le_refl _
  com c o ho := by
    by_cases h : c = b
    · subst h; omega
    · exact World.cell?_of_block (w := w) (setRow_other w b c cs' h)
  dm c o h0 := congrArg Option.isSome (World.cell?_of_block (w := w) (setRow_other w b c cs' (fun h => by subst h; omega)))
  nt := Nat.le_refl _
  th _ _ := rfl
  os := rfl
  tape := rfl
  output := rfl
  drawn := fun _ => Nat.le_refl _
  size := by simp
  frame c _ hn := setRow_other w b c cs' (by simpa using hn)
  cmeq _ _ _ := rfl
  wf := ⟨fun c hc => hw.cm c (by simpa using hc), fun c o ho => by
    have hne : c ≠ b := fun h => by subst h; omega
    have : cell (w.setRow b cs') c o = cell w c o := World.cell?_of_block (w := w) (setRow_other w b c cs' hne)
    rw [this]; exact hw.ex c o ho, StOk.keep hw fun c hc => ⟨rfl, fun o => World.cell?_of_block (w := w) (setRow_other w b c cs' (fun h => by subst h; omega))⟩⟩
theorem blocks_obj {b : Nat} {cs : List V} (h : cs ≠ []) : blocks g [.obj b cs] = [b] := by
  cases cs with
  | nil => exact absurd rfl h
  | cons c cs => simp [blocks, Res.blocks]
theorem nodup_obj {b : Nat} {cs : List V} : (blocks g [.obj b cs]).Nodup := by
  cases cs <;> simp [blocks, Res.blocks]
theorem mem_obj {b c : Nat} {cs : List V} (h : c ∈ blocks g [.obj b cs]) : c = b := by
  cases cs <;> simp [blocks, Res.blocks] at h
  exact h
theorem obj_cons {b : Nat} {cs : List V} (hn : cs ≠ []) (h : RelRes g w (.obj b cs)) : ∃ vals e fz, w.heap[b]? = some (.cells vals e fz) ∧ fzOk fz vals.size ∧ RelL g w cs vals.toList ∧ g.cm b = 0 := h.resolve_left hn
theorem after_setRow {b : Nat} {cs cs2 : List V} {vals : Array Value} (hw : Wf g w) (hn : cs ≠ []) (h : RelRes g w (.obj b cs)) (hl : RelL g w cs2 vals.toList) (hlen : cs2.length = cs.length) : After g w [.obj b cs] g (w.setRow b vals) [.obj b cs2] := by
  obtain ⟨v0, e, fz, hh, hz, hl0, hcm⟩ := obj_cons hn h
  have hext := setRow_ext (cs' := vals) hw hh hcm
  refine ⟨by rw [blocks_obj hn]; exact hext, ⟨?_, nodup_obj⟩, fun c hc => .inl (by rw [blocks_obj hn]; simp [mem_obj hc])⟩
  intro r hr
  simp only [List.mem_singleton] at hr; subst hr
  have hs : vals.size = v0.size := by have h1 := relL_length hl; have h2 := relL_length hl0; simp at h1 h2; omega
  exact .inr ⟨vals, e, fz, setRow_heap w b v0 vals e _ hh, by rw [hs]; exact hz, RelL.mono hext.toPre _ _ hl, hcm⟩
theorem oneV_one {v : V} {x : Value} (h : oneV v = true) (hv : RelV g w v x) : x.oneCell' = true := by
  cases v with
  | c u => simp only [RelV] at hv; subst hv; exact h
  | agg _ => simp [oneV] at h
  | tup _ => simp [oneV] at h
  | undef => simp [oneV] at h
  | sl sh xs tok => simp only [RelV] at hv; obtain ⟨a, n, cap, rfl, _⟩ := hv; rfl
  | lsl sh b o n cap => simp only [RelV] at hv; obtain ⟨a, rfl, _⟩ := hv; rfl
  | pt sh v off => rw [relV_pt] at hv; obtain ⟨a, n, rfl, _⟩ := hv; rfl
  | loc b off => simp only [RelV] at hv; subst hv; rfl
  | fn f a b => simp only [RelV] at hv; obtain ⟨l, m, rfl, _⟩ := hv; rfl
  | ifc t v => simp only [RelV] at hv; obtain ⟨y, rfl, _⟩ := hv; rfl
theorem cells_of_one {x : Value} (h : x.oneCell' = true) : x.cells = #[x] := by cases x <;> first | rfl | simp [Value.oneCell'] at h
theorem take_set1 {α : Type} {l : List α} {o : Nat} {v : α} (h : o < l.length) : (l.set o v).take (o + 1) = l.take o ++ [v] := by
  rw [List.set_eq_take_append_cons_drop, if_pos h, List.take_append]
  simp [Nat.min_eq_left (Nat.le_of_lt h), show o + 1 - o = 1 by omega, List.take_of_length_le]
theorem setCells_row {b : Nat} {e : TypeId} {fz : Nat × Nat} : ∀ (vs : List Value) (o : Nat) (cur : Array Value) (w : World), w.heap[b]? = some (.cells cur e fz) → o + vs.length ≤ cur.size →
    w.setCells b o vs = w.setRow b (cur.toList.take o ++ vs ++ cur.toList.drop (o + vs.length)).toArray
  | [], o, cur, w, hh, _ => by
    simp only [World.setCells, List.append_nil, List.length_nil, Nat.add_zero, List.take_append_drop, Array.toArray_toList]
    exact (setRow_self w b cur e fz hh).symm
  | v :: vs, o, cur, w, hh, hle => by
    have ho : o < cur.size := by simp at hle; omega
    have h1 : w.setCell ⟨b, o, none⟩ v = w.setRow b (cur.setIfInBounds o v) := by
      unfold World.setCell World.setRow
      congr 1
      apply Array.ext
      · simp
      · intro i h1 h2
        simp only [Array.size_modify] at h1 h2
        rw [Array.getElem_modify, Array.getElem_modify]
        split
        · rename_i hb
          have : w.heap[i] = .cells cur e fz := by
            have := (Array.getElem?_eq_some_iff.1 hh).2
            subst hb; exact this
          rw [this]; simp
        · rfl
    rw [World.setCells, h1, setCells_row vs (o + 1) (cur.setIfInBounds o v) _ (setRow_heap w b cur _ e fz hh) (by simp at hle ⊢; omega)]
    unfold World.setRow
    simp only [World.mk.injEq, and_true]
    apply Array.ext
    · simp
    · intro i h1 h2
      simp only [Array.size_modify] at h1 h2
      rw [Array.getElem_modify, Array.getElem_modify, Array.getElem_modify]
      split
      · rename_i hb
        have : w.heap[i] = .cells cur e fz := by
          have := (Array.getElem?_eq_some_iff.1 hh).2
          subst hb; exact this
        rw [this]
        simp only [Obj.cells.injEq, and_true]
        apply Array.ext'
        simp only [Array.toList_setIfInBounds, List.length_cons]
        have ho' : o < cur.toList.length := by simpa using ho
        rw [take_set1 ho', List.drop_set_of_lt (by omega)]
        simp [show o + 1 + vs.length = o + (vs.length + 1) by omega]
      · rfl
theorem frozen_cells {b i : Nat} {cur : Array Value} {e : TypeId} {fz : Nat × Nat} (hh : w.heap[b]? = some (.cells cur e fz)) (hz : fzOk fz cur.size) (hi : i < cur.size) : w.frozen? ⟨b, i, none⟩ = false := by
  have := hz i hi
  simp only [World.frozen?, hh]
  simp; omega
theorem run_storeCells_row {b o : Nat} {vs : List Value} {cur : Array Value} {e : TypeId} {fz : Nat × Nat} (hh : w.heap[b]? = some (.cells cur e fz)) (hz : fzOk fz cur.size) (hle : o + vs.length ≤ cur.size) (h1 : ∀ v ∈ vs, v.oneCell' = true) :
    (storeCells ⟨b, o, none⟩ vs).run P w = .ok () (w.setRow b (cur.toList.take o ++ vs ++ cur.toList.drop (o + vs.length)).toArray) := by
  have := run_storeCells_cells (P := P) b o vs 0 w (fun j hj => by simp [World.cell?, hh]; omega) (fun j hj => frozen_cells hh hz (by omega)) h1
  simp only [Nat.add_zero] at this
  rw [this, setCells_row vs o cur w hh hle]
theorem run_storeVar {t : TypeId} {sh : Option Nat} (hsh : shapeOf P t = some sh) {b off : Nat} {vals : Array Value} {e : TypeId} {x : Value} (hx : x.cells.size = width sh) (h1 : ∀ u ∈ x.cells.toList, u.oneCell' = true)
    {fz : Nat × Nat} (hh : w.heap[b]? = some (.cells vals e fz)) (hz : fzOk fz vals.size) (hle : off + width sh ≤ vals.size) :
    (Instr.storeAt t (.pointer (some ⟨b, off, none⟩)) x).run P w = .ok () (w.setRow b (vals.toList.take off ++ x.cells.toList ++ vals.toList.drop (off + width sh)).toArray) := by
  obtain ⟨i, hi, hsz⟩ := shape_info hsh
  have hst := run_storeCells_row (P := P) (o := off) (vs := x.cells.toList) hh hz (by simp; omega) h1
  simp only [Array.length_toList] at hst
  simp only [Instr.storeAt, Instr.sureAddr, storeVar, Sem.run_bind, Sem.run_pure, Result.andThen_ok, run_sizeOf' hi, hsz]
  rw [if_neg (by simp [hx])]
  rw [hst, hx]
theorem e_store (hs : St N n0 g w R fr a) {t : TypeId} {sh : Option Nat} {b off i : Nat} {cs vs us : List V} {x y : Value} (hsh : shapeOf P t = some sh) (hx : RelV g w (.loc b off) x)
    (hvs : RelL g w vs y.cells.toList) (hy : y.cells.size = width sh) (hone : ∀ v ∈ vs, oneV v = true) (hle : VleL vs us) (hR : R[i]? = some (.obj b cs)) (hlen : off + us.length ≤ cs.length) :
    ∃ w', (Instr.storeAt t x y).run P w = .ok () w' ∧ After g w R g w' (R.set i (.obj b (splice cs off us))) := by
  simp only [RelV] at hx; subst hx
  obtain ⟨A, B, rfl, hset⟩ := split_at hR
  have hobj := hs.res.all (.obj b cs) (by simp)
  have hlu := hle.length
  have hly := relL_length hvs
  simp at hly
  by_cases hn : cs = []
  · subst hn
    have hu0 : us = [] := List.eq_nil_of_length_eq_zero (by have := hlen; rw [List.length_nil] at this; omega)
    have hv0 : vs.length = 0 := by rw [← hlu, hu0]; rfl
    have hw0 : y.cells.size = 0 := by omega
    subst hu0
    obtain ⟨i', hi', hsz⟩ := shape_info hsh
    refine ⟨w, ?_, ?_⟩
    · have hyc : y.cells.toList = [] := List.eq_nil_of_length_eq_zero (by rw [Array.length_toList]; exact hw0)
      simp only [Instr.storeAt, Instr.sureAddr, storeVar, Sem.run_bind, Sem.run_pure, Result.andThen_ok, run_sizeOf' hi', hsz]
      rw [if_neg (by simp [hy]), hyc]
      rfl
    · rw [hset]; simpa [splice] using After.refl hs.wf hs.res
  obtain ⟨vals, e, fz, hh, hz, hl, hcm⟩ := obj_cons hn hobj
  have hlv := relL_length hl
  simp at hlv
  have h1 : ∀ u ∈ y.cells.toList, u.oneCell' = true := by
    intro u hu
    obtain ⟨j, hj⟩ := List.getElem?_of_mem hu
    have hjlt := (List.getElem?_eq_some_iff.1 hj).1
    have hjv : vs[j]? = some vs[j] := List.getElem?_eq_getElem (by simp at hjlt; omega)
    obtain ⟨z, hz, hrel⟩ := relL_get hvs hjv
    rw [hj] at hz; cases hz
    exact oneV_one (hone _ (List.getElem_mem _)) hrel
  have hrun := run_storeVar (P := P) hsh hy h1 hh hz (off := off) (by omega)
  refine ⟨_, hrun, ?_⟩
  rw [hset]
  refine After.frame hs.res (after_setRow hs.wf hn (.inr ⟨vals, e, fz, hh, hz, hl, hcm⟩) ?_ (by simp [splice]; omega))
  have := relL_append (relL_append (relL_take hl off) (hle.rel hvs)) (relL_drop hl (off + us.length))
  have e1 : width sh = us.length := by omega
  rw [e1]
  simpa [splice] using this
theorem after_alloc_obj (hw : Wf g w) {cells : Array Value} {e : TypeId} {cs : List V} (hl : RelL g w cs cells.toList) : After g w [] g (w.alloc (.cells cells e)) [.obj w.heap.size cs] := by
  have hext := ext_alloc hw cells e 0 (Nat.zero_le _)
  have hg : g.with w.heap.size 0 = g := by
    have : (fun c => if c = w.heap.size then 0 else g.cm c) = g.cm := by
      funext c; split
      · rename_i h; subst h; exact (hw.cm _ (Nat.le_refl _)).symm
      · rfl
    cases g; simp only [Gh.with] at *; simp [this]
  rw [hg] at hext
  refine ⟨by simpa [blocks] using hext, ⟨?_, nodup_obj⟩, fun c hc => .inr (by rw [mem_obj hc]; omega)⟩
  intro r hr
  simp only [List.mem_singleton] at hr; subst hr
  exact .inr ⟨cells, e, (0, 0), heap_alloc_new w _, fun i _ h => by simp at h, RelL.mono hext.toPre _ _ hl, hw.cm _ (Nat.le_refl _)⟩
theorem relXs_cells {sh : Option Nat} : ∀ {vs : List V} {rd : Nat → Option Value}, RelXs g w sh vs rd → ∃ news : List Value, news.length = vs.length * width sh ∧ ∀ i, i < news.length → rd i = news[i]?
  | [], _, _ => ⟨[], by simp, by simp⟩
  | v :: vs, rd, h => by
    rw [relXs_cons] at h
    obtain ⟨news, h1, h2⟩ := relXs_cells h.2
    have he := h.1
    have : ∃ cells : List Value, cells.length = width sh ∧ ∀ i, i < width sh → rd i = cells[i]? := by
      cases sh with
      | none =>
        obtain ⟨y, hy, _⟩ := he
        exact ⟨[y], rfl, fun i hi => by simp [width] at hi; subst hi; simpa using hy⟩
      | some k =>
        obtain ⟨l, hl, hc, _⟩ := he
        exact ⟨l.toList, by simpa [width] using hl, fun i hi => by simpa using hc i hi⟩
    obtain ⟨cells, h3, h4⟩ := this
    refine ⟨cells ++ news, by simp [h1, h3, Nat.add_mul]; omega, fun i hi => ?_⟩
    rw [List.getElem?_append]
    split
    · exact h4 i (by omega)
    · have := h2 (i - cells.length) (by simp at hi; omega)
      rw [← this]; congr 1; omega
theorem relXs_append {sh : Option Nat} : ∀ {vs us : List V} {rd : Nat → Option Value}, RelXs g w sh vs rd → RelXs g w sh us (fun i => rd (i + vs.length * width sh)) → RelXs g w sh (vs ++ us) rd
  | [], us, rd, _, h => by simpa using h
  | v :: vs, us, rd, h, h' => by
    rw [relXs_cons] at h
    rw [List.cons_append, relXs_cons]
    refine ⟨h.1, relXs_append h.2 ?_⟩
    have e : (fun i => rd (i + (v :: vs).length * width sh)) = (fun i => rd (i + vs.length * width sh + width sh)) := by
      funext i; congr 1; simp [Nat.add_mul]; omega
    rw [e] at h'; exact h'
theorem okE_cells {sh : Option Nat} {v : V} {rd : Nat → Option Value} (hk : okE sh v) (h : RelE g w sh v rd) : ∀ i u, i < width sh → rd i = some u → u.oneCell' = true := by
  intro i u hi hu
  cases sh with
  | none =>
    obtain ⟨y, hy, hv⟩ := h
    simp [width] at hi; subst hi
    rw [hy] at hu; cases hu
    exact oneV_one hk hv
  | some k =>
    obtain ⟨l, hl, hc, hv⟩ := h
    obtain ⟨cs, rfl, hlen, hall⟩ := hk
    simp only [RelV] at hv
    obtain ⟨l', he, hr⟩ := hv
    cases he
    have := hc i hi
    rw [hu] at this
    have hlt : i < cs.length := by simp [width] at hi; omega
    obtain ⟨z, hz, hrel⟩ := relL_get hr (List.getElem?_eq_getElem hlt)
    simp at hz
    rw [hz] at this; cases this
    exact oneV_one (hall _ (List.getElem_mem _)) hrel
theorem okE_row {sh : Option Nat} {vs : List V} {rd : Nat → Option Value} (hk : ∀ y ∈ vs, okE sh y) (h : RelXs g w sh vs rd) : ∀ i u, i < vs.length * width sh → rd i = some u → u.oneCell' = true := by
  intro i u hi hu
  have hw : 0 < width sh := by
    rcases Nat.eq_zero_or_pos (width sh) with h0 | h0
    · rw [h0] at hi; simp at hi
    · exact h0
  have hq : i / width sh < vs.length := by rw [Nat.div_lt_iff_lt_mul hw]; exact hi
  have he := relXs_get h (List.getElem?_eq_getElem hq)
  refine okE_cells (hk _ (List.getElem_mem _)) he (i % width sh) u (Nat.mod_lt _ hw) ?_
  have : i / width sh * width sh + i % width sh = i := by rw [Nat.mul_comm]; exact Nat.div_add_mod _ _
  rw [this]; exact hu
structure Appended (P : Program) (g : Gh) (w : World) (sh : Option Nat) (size : Nat) (tx : TypeId) (y : Value) (ys : List V) where
  news : List Value
  src : Src P size tx y ys.length news w
  rel : RelXs g w sh ys (fun i => news[i]?)
theorem appended_slice {sh : Option Nat} {size : Nat} {tx e' : TypeId} {ys : List V} {tok : Tk} {y : Value} (hs : size = width sh) (hk : P.underlying tx = some (.slice e')) (hy : RelV g w (.sl sh ys tok) y) (hok : ∀ v ∈ ys, okE sh v) :
    Nonempty (Appended P g w sh size tx y ys) := by
  subst hs
  simp only [RelV] at hy
  obtain ⟨A, n, c, rfl, hn, hc, _, hr⟩ := hy
  subst hn
  rcases hr with rfl | ⟨b, o, rfl, hle, hr⟩
  · cases A with
    | none => exact ⟨⟨[], Src.ofNil w hk c, by simp [RelXs]⟩⟩
    | some ad => exact ⟨⟨[], Src.ofSlice w hk ad 0 c [] (by simp) (by simp) (by simp), by simp [RelXs]⟩⟩
  · obtain ⟨news, h1, h2⟩ := relXs_cells hr
    refine ⟨⟨news, Src.ofSlice w hk _ _ c news h1 (fun j u hj => ?_) (fun u hu => ?_), ?_⟩⟩
    · have hlt := (List.getElem?_eq_some_iff.1 hj).1
      rw [Addr.add_lit]
      exact (h2 j hlt).trans hj
    · obtain ⟨j, hj⟩ := List.getElem?_of_mem hu
      have hlt := (List.getElem?_eq_some_iff.1 hj).1
      exact okE_row hok hr j u (by omega) ((h2 j hlt).trans hj)
    · exact RelXs.mono (Pre.refl g w) sh ys _ _ (fun i hi => (h2 i (by omega)).symm) hr
theorem appended_nil {sh : Option Nat} {size : Nat} {tx e' : TypeId} {sh' : Option Nat} {tok : Tk} {y : Value} (hk : P.underlying tx = some (.slice e')) (hy : RelV g w (.sl sh' [] tok) y) :
    Nonempty (Appended P g w sh size tx y []) := by
  simp only [RelV] at hy
  obtain ⟨A, n, c, rfl, hn, hc, _, hr⟩ := hy
  simp at hn; subst hn
  cases A with
  | none => exact ⟨⟨[], Src.ofNil w hk c, by simp [RelXs]⟩⟩
  | some ad => exact ⟨⟨[], Src.ofSlice w hk ad 0 c [] (by simp) (by simp) (by simp), by simp [RelXs]⟩⟩
theorem appended_string {tx : TypeId} (hk : P.underlying tx = some .string) (s : ByteArray) : Nonempty (Appended P g w none 1 tx (.string s) (s.data.toList.map fun b => .c (.int .u8 b.toNat))) := by
  refine ⟨⟨byteCells s, by simpa using Src.ofString w hk s, ?_⟩⟩
  refine relXs_of_get fun i v hv => ?_
  have hi := (List.getElem?_eq_some_iff.1 hv).1
  simp at hi
  have hi' : i < s.data.toList.length := by simpa using hi
  rw [List.getElem?_map, List.getElem?_eq_getElem hi'] at hv
  simp only [Option.map_some, Option.some.injEq] at hv
  subst hv
  refine ⟨.int .u8 (s.data.toList[i]).toNat, ?_, by simp only [RelV]⟩
  simp [byteCells, width, List.getElem?_eq_getElem hi']
def Gh.mint (g : Gh) (b n : Nat) (h : Value) : Gh := { cm := fun c => if c = b then n else g.cm c, nt := g.nt + 1, th := fun t => if t = g.nt then h else g.th t }
theorem e_grow (hw : Wf g w) {e : TypeId} {sh : Option Nat} {z : Array Value} {olds news : List Value} {xs ys : List V} {newCap : Nat} {w1 : World} (hz : z.size = width sh)
    (ho : RelXs g w sh xs (fun i => olds[i]?)) (hn : RelXs g w sh ys (fun i => news[i]?)) (hlo : olds.length = xs.length * width sh) (hln : news.length = ys.length * width sh) (hge : xs.length + ys.length ≤ newCap) (hpos : 0 < newCap) (hm : newCap ≤ maxLen)
    (hw1 : w1 = w.drew.alloc (.cells ((olds ++ news).toArray ++ Builtin.zeroCells z (newCap - (xs.length + ys.length))) e)) :
    ∃ g', After g w [] g' w1 [.tok g.nt sh] ∧ RelV g' w1 (.sl sh (xs ++ ys) (.t g.nt)) (.slice (some ⟨w.heap.size, 0, none⟩) (xs.length + ys.length) newCap) := by
  obtain ⟨C, hC⟩ : ∃ C, C = (olds ++ news).toArray ++ Builtin.zeroCells z (newCap - (xs.length + ys.length)) := ⟨_, rfl⟩
  rw [← hC] at hw1
  subst hw1
  have hmul : (xs.length + ys.length) * width sh = olds.length + news.length := by rw [Nat.add_mul, hlo, hln]
  have hCs : C.size = newCap * width sh := by
    have : newCap * width sh = (xs.length + ys.length) * width sh + (newCap - (xs.length + ys.length)) * width sh := by rw [← Nat.add_mul]; congr 1; omega
    rw [hC, this, hmul, ← hz]
    simp [size_zeroCells]
  have hlt : olds.length + news.length ≤ C.size := by rw [hCs, ← hmul]; exact Nat.mul_le_mul_right _ hge
  have hwd : Wf g w.drew := ⟨hw.cm, hw.ex, hw.st⟩
  have hext0 := ext_alloc hwd C e (olds.length + news.length) hlt
  have hpre : Pre g w (g.mint w.heap.size (olds.length + news.length) (.slice (some ⟨w.heap.size, 0, none⟩) (xs.length + ys.length) newCap)) (w.drew.alloc (.cells C e)) :=
    ⟨hext0.cmle, hext0.com, Nat.le_succ _, fun t ht => by simp only [Gh.mint]; rw [if_neg (by omega)], hext0.dm⟩
  have hext : Ext [] g w (g.mint w.heap.size (olds.length + news.length) (.slice (some ⟨w.heap.size, 0, none⟩) (xs.length + ys.length) newCap)) (w.drew.alloc (.cells C e)) :=
    { hpre with os := rfl, tape := rfl, output := rfl, drawn := fun _ => by first | exact Nat.le_refl _ | exact Nat.le_succ _, size := hext0.size, frame := hext0.frame, cmeq := hext0.cmeq, wf := ⟨hext0.wf.cm, hext0.wf.ex, hpre.st hw⟩ }
  have hnew : ∀ i : Nat, cell (w.drew.alloc (.cells C e)) w.heap.size i = C[i]? := fun i => cell_alloc_new (w := w.drew)
  obtain ⟨cap, rfl⟩ : ∃ c, newCap = c + 1 := ⟨newCap - 1, by omega⟩
  refine ⟨_, ⟨by simpa [blocks] using hext, ⟨?_, ?_⟩, ?_⟩, ?_⟩
  · intro r hr
    simp only [List.mem_singleton] at hr; subst hr
    refine ⟨by simp [Gh.mint], .inr ⟨w.heap.size, xs.length + ys.length, cap, C, e, by simp [Gh.mint], heap_alloc_new w.drew _, hge, hm, hCs, by simp [Gh.mint, hmul]⟩⟩
  · simp [blocks, Res.blocks, Gh.mint, blockOf]
  · intro c hc
    simp [blocks, Res.blocks, Gh.mint, blockOf] at hc
    right; omega
  · simp only [RelV]
    refine ⟨_, _, _, rfl, by simp, hge, ⟨by simp [Gh.mint], by simp [Gh.mint]⟩, .inr ⟨w.heap.size, 0, rfl, by simp [Gh.mint, hmul], ?_⟩⟩
    have hold : RelXs (g.mint w.heap.size (olds.length + news.length) (.slice (some ⟨w.heap.size, 0, none⟩) (xs.length + ys.length) (cap + 1))) (w.drew.alloc (.cells C e)) sh xs (fun i => cell (w.drew.alloc (.cells C e)) w.heap.size (0 + i)) :=
      RelXs.mono hpre sh xs _ _ (fun i hi => by
        rw [Nat.zero_add, hnew, hC, Array.getElem?_append_left (by simp; omega)]
        simp
        rw [List.getElem?_append_left (by omega)]) ho
    refine relXs_append hold (RelXs.mono hpre sh ys _ _ (fun i hi => ?_) hn)
    rw [Nat.zero_add, hnew, hC, Array.getElem?_append_left (by simp; omega)]
    simp
    rw [List.getElem?_append_right (by omega)]
    congr 1; omega
end
end Go.Sv
namespace Go.Sv
open Go
section
variable {P : Program} {g : Gh} {w : World}
theorem setCells_setRow {P : Program} {b o : Nat} {vs : List Value} {cur : Array Value} {e : TypeId} (hh : w.heap[b]? = some (.cells cur e (0, 0))) (hle : o + vs.length ≤ cur.size) (h1 : ∀ v ∈ vs, v.oneCell' = true) :
    w.setCells b o vs = w.setRow b (cur.toList.take o ++ vs ++ cur.toList.drop (o + vs.length)).toArray := by
  have r1 := run_storeCells_at P b o e vs 0 cur w hh (by omega) h1
  have r2 := run_storeCells_cells (P := P) b o vs 0 w (fun j hj => by simp [World.cell?, hh]; omega) (fun j hj => by simp [World.frozen?, hh]) h1
  rw [r1] at r2
  simp only [Nat.add_zero] at r2
  injection r2 with _ h
  exact h.symm
theorem after_token {g' : Gh} {w' : World} {t : Nat} {sh : Option Nat} (hr : RelR g w [.tok t sh]) (h : After g w [] g' w' [.tok g.nt sh]) : After g w [.tok t sh] g' w' [.tok g.nt sh] := by
  have := After.frame (A := [.tok t sh]) (B := []) (R := []) (by simpa using hr) h
  simp only [List.append_nil] at this
  exact this.sub (by simp)
theorem e_mint (hw : Wf g w) {A : Option Addr} (sh : Option Nat) : After g w [] (g.mint w.heap.size 0 (.slice A 0 0)) w [.tok g.nt sh] ∧ RelV (g.mint w.heap.size 0 (.slice A 0 0)) w (.sl sh [] (.t g.nt)) (.slice A 0 0) := by
  have hcm : (g.mint w.heap.size 0 (.slice A 0 0)).cm = g.cm := by
    funext c; simp only [Gh.mint]; split
    · rename_i h; subst h; exact (hw.cm _ (Nat.le_refl _)).symm
    · rfl
  have hpre : Pre g w (g.mint w.heap.size 0 (.slice A 0 0)) w :=
    ⟨fun b => by rw [hcm]; exact Nat.le_refl _, fun _ _ _ => rfl, Nat.le_succ _, fun t ht => by simp only [Gh.mint]; rw [if_neg (by omega)], fun _ _ _ => rfl⟩
  have hb : blocks (g.mint w.heap.size 0 (.slice A 0 0)) [.tok g.nt sh] = [] := by cases A <;> simp [blocks, Res.blocks, Gh.mint, blockOf]
  refine ⟨⟨{ hpre with os := rfl, tape := rfl, output := rfl, drawn := fun _ => by first | exact Nat.le_refl _ | exact Nat.le_succ _, size := Nat.le_refl _, frame := fun _ _ _ => rfl, cmeq := fun _ _ _ => by rw [hcm], wf := ⟨by rw [hcm]; exact hw.cm, by rw [hcm]; exact hw.ex, hpre.st hw⟩ }, ⟨?_, by rw [hb]; simp⟩, by rw [hb]; simp⟩, ?_⟩
  · intro r hr
    simp only [List.mem_singleton] at hr; subst hr
    exact ⟨by simp [Gh.mint], .inl ⟨A, by simp [Gh.mint]⟩⟩
  · simp only [RelV]
    exact ⟨A, 0, 0, rfl, rfl, Nat.le_refl _, ⟨by simp [Gh.mint], by simp [Gh.mint]⟩, .inl (by trivial)⟩
theorem capOk {w : World} {need old : Nat} {e : TypeId} {n : Nat} (hb : need * n ≤ 140737488355328) (h0 : 0 < n) : need ≤ maxLen ∧ grownCap w need old e ≤ maxLen := by
  have : need ≤ need * n := Nat.le_mul_of_pos_right _ h0
  have h1 : need ≤ maxLen := by simp only [maxLen]; omega
  exact ⟨h1, grownCap_le_maxLen w need old e h1⟩
theorem e_append_zero (hw : Wf g w) {t tx ty e : TypeId} {i : TypeInfo} {sh sh' : Option Nat} {s y : Value} {ys : List V} (ht : P.underlying t = some (.slice e)) (hi : P.info? e = some i) (hsz : i.size = width sh)
    (hby : 0 < i.bytes) (hz : (i.zero.map fun z => z.cells.size) = some i.size) (hx : RelV g w (.sl sh' [] .zero) s) (ap : Appended P g w sh i.size tx y ys) (hle : ys.length * i.bytes ≤ 140737488355328) :
    ∃ v w' g', (Builtin.append_ #[t, tx] ty #[s, y]).run P w = .ok v w' ∧ After g w [] g' w' [.tok g.nt sh] ∧ RelV g' w' (.sl sh ys (.t g.nt)) v := by
  simp only [RelV] at hx
  obtain ⟨A, n, c, rfl, hn, hc, hcap, _⟩ := hx
  simp at hn; subst hn
  subst hcap
  obtain ⟨z, hz1, hz2⟩ := Option.map_eq_some_iff.1 hz
  by_cases h0 : ys.length = 0
  · obtain rfl : ys = [] := List.eq_nil_of_length_eq_zero h0
    have hnews : ap.news = [] := List.eq_nil_of_length_eq_zero (by simpa using ap.src.newsLen)
    have hsrc := ap.src
    rw [hnews] at hsrc
    obtain ⟨h1, h2⟩ := e_mint hw (A := A) sh
    exact ⟨_, w, _, run_append_nothing w t tx ty e i ht hi A 0 0 (Nat.le_refl _) y hsrc, h1, h2⟩
  · have hold : (Builtin.firstCells i.size 0 (.slice A 0 0)).run P w.drew = .ok ([] : List Value).toArray w.drew := by
      cases A <;> simp [Builtin.firstCells, loadCells, loadCellsFrom]
    have hrun := run_append_grow_src w t tx ty e i z ht hi hz1 A 0 0 [] hold y ys.length ap.news ap.src (by omega) (by
        have : ys.length ≤ ys.length * i.bytes := Nat.le_mul_of_pos_right _ hby
        omega) (growslice_fits (by omega) (by simpa using hle))
    simp only [Nat.zero_add] at hrun
    have hcapok := capOk (w := w) (old := 0) (e := e) hle hby
    have hge := grownCap_ge w ys.length 0 e
    obtain ⟨g', h1, h2⟩ := e_grow hw (xs := []) (olds := []) (newCap := grownCap w ys.length 0 e) (z := z.cells) (e := e) (by rw [hz2, hsz]) (by simp [RelXs]) ap.rel (by simp) (by rw [ap.src.newsLen, hsz]) (by simpa using hge) (by omega) hcapok.2 rfl
    simp only [List.length_nil, Nat.zero_add, List.nil_append] at h1 h2
    refine ⟨_, _, g', hrun, ?_, h2⟩
    simpa using h1
theorem e_append_tok (hw : Wf g w) {t tx ty e : TypeId} {i : TypeInfo} {sh : Option Nat} {k : Nat} {s y : Value} {xs ys : List V} (ht : P.underlying t = some (.slice e)) (hi : P.info? e = some i) (hsz : i.size = width sh)
    (hby : 0 < i.bytes) (hz : (i.zero.map fun z => z.cells.size) = some i.size) (hx : RelV g w (.sl sh xs (.t k)) s) (hR : RelR g w [.tok k sh]) (ap : Appended P g w sh i.size tx y ys) (hle : (xs.length + ys.length) * i.bytes ≤ 140737488355328) :
    ∃ v w' g', (Builtin.append_ #[t, tx] ty #[s, y]).run P w = .ok v w' ∧ After g w [.tok k sh] g' w' [.tok g.nt sh] ∧ RelV g' w' (.sl sh (xs ++ ys) (.t g.nt)) v := by
  obtain ⟨hk, htok⟩ := hR.all _ (List.mem_singleton.2 rfl)
  have hx0 := hx
  simp only [RelV] at hx
  obtain ⟨A, n, c, rfl, hn, hc, ⟨_, hth⟩, hrow⟩ := hx
  subst hn
  obtain ⟨z, hz1, hz2⟩ := Option.map_eq_some_iff.1 hz
  rcases htok with ⟨A', he⟩ | ⟨b, n', cap, cur, e', he, hh, hnc, hcm, hcs, hcmb⟩
  · rw [he] at hth
    injection hth with e1 e2 e3
    subst e1; subst e3
    obtain rfl : xs = [] := List.eq_nil_of_length_eq_zero e2
    obtain ⟨v, w', g', h1, h2, h3⟩ := e_append_zero (ty := ty) hw ht hi hsz hby hz (sh' := sh) (s := .slice A 0 0) (by
      simp only [RelV]; exact ⟨A, 0, 0, rfl, rfl, Nat.le_refl _, rfl, .inl (by trivial)⟩) ap (by simpa using hle)
    exact ⟨v, w', g', h1, after_token hR h2, by simpa using h3⟩
  · rw [he] at hth
    injection hth with e1 e2 e3
    subst e1; subst e3; subst e2
    -- the cells so far
    have hxs : RelXs g w sh xs (fun i => cell w b i) := by
      rcases hrow with rfl | ⟨b', o, hb', _, hr⟩
      · simp [RelXs]
      · simp only [Option.some.injEq, Addr.mk.injEq] at hb'
        obtain ⟨rfl, rfl, _⟩ := hb'
        simpa using hr
    obtain ⟨olds, hol, hoc⟩ := relXs_cells hxs
    have hoR : RelXs g w sh xs (fun i => olds[i]?) := RelXs.mono (Pre.refl g w) sh xs _ _ (fun i hi => (hoc i (by omega)).symm) hxs
    have hnl : ap.news.length = ys.length * width sh := by rw [ap.src.newsLen, hsz]
    by_cases hroom : xs.length + ys.length ≤ cap + 1
    · -- there is room
      have hmulle : (xs.length + ys.length) * width sh ≤ (cap + 1) * width sh := Nat.mul_le_mul_right _ hroom
      have hmul : (xs.length + ys.length) * width sh = xs.length * width sh + ap.news.length := by rw [Nat.add_mul, hnl]
      have hfit : xs.length * width sh + ap.news.length ≤ cur.size := by omega
      have hrun := run_append_room_src w t tx ty e i ht hi b 0 xs.length (cap + 1) y ys.length ap.news ap.src hroom (fun j hj => by rw [hsz]; simp [World.cell?, hh]; omega) (fun j hj => by simp [World.frozen?, hh])
      simp only [Nat.zero_add, hsz] at hrun
      rw [setCells_setRow (P := P) hh hfit ap.src.one] at hrun
      obtain ⟨cur', hcur'⟩ : ∃ c, c = (cur.toList.take (xs.length * width sh) ++ ap.news ++ cur.toList.drop (xs.length * width sh + ap.news.length)).toArray := ⟨_, rfl⟩
      rw [← hcur'] at hrun
      have hsz' : cur'.size = cur.size := by rw [hcur']; simp; omega
      have hcell : ∀ i : Nat, cell (w.setRow b cur') b i = cur'[i]? := fun i => by simp [cell, World.cell?, setRow_heap w b cur cur' e' _ hh]
      have hold : ∀ i, i < xs.length * width sh → cur'[i]? = cur[i]? := fun i hi => by
        rw [hcur']
        simp only [List.getElem?_toArray]
        rw [List.append_assoc, List.getElem?_append_left (by simp; omega), List.getElem?_take, if_pos hi]
        simp
      have hnew : ∀ i, i < ap.news.length → cur'[xs.length * width sh + i]? = ap.news[i]? := fun i hi => by
        rw [hcur']
        simp only [List.getElem?_toArray]
        rw [List.append_assoc, List.getElem?_append_right (by simp; omega), List.getElem?_append_left (by simp; omega)]
        congr 1
        simp; omega
      have hcold : ∀ i : Nat, cell w b i = cur[i]? := fun i => by simp [cell, World.cell?, hh]
      have hother : ∀ c o, c ≠ b → cell (w.setRow b cur') c o = cell w c o := fun c o h => World.cell?_of_block (w := w) (setRow_other w b c cur' h)
      have hpre : Pre g w (g.mint b (xs.length * width sh + ap.news.length) (.slice (some ⟨b, 0, none⟩) (xs.length + ys.length) (cap + 1))) (w.setRow b cur') :=
        ⟨fun c => by
            simp only [Gh.mint]; split
            · rename_i h; subst h; omega
            · exact Nat.le_refl _,
          fun c o ho => by
            by_cases h : c = b
            · subst h; rw [hcell, hold o (by omega), hcold]
            · exact hother c o h,
          Nat.le_succ _, fun t ht => by simp only [Gh.mint]; rw [if_neg (by omega)],
          fun c o _ => by
            by_cases h : c = b
            · subst h
              rw [hcell, hcold]
              by_cases ho : o < cur.size
              · rw [Array.getElem?_eq_getElem ho, Array.getElem?_eq_getElem (by omega)]; rfl
              · rw [Array.getElem?_eq_none (by omega), Array.getElem?_eq_none (by omega)]
            · rw [hother c o h]⟩
      have hbl : blocks g [.tok k sh] = [b] := by simp [blocks, Res.blocks, he, blockOf]
      have hbl' : blocks (g.mint b (xs.length * width sh + ap.news.length) (.slice (some ⟨b, 0, none⟩) (xs.length + ys.length) (cap + 1))) [.tok g.nt sh] = [b] := by simp [blocks, Res.blocks, Gh.mint, blockOf]
      refine ⟨_, _, g.mint b (xs.length * width sh + ap.news.length) (.slice (some ⟨b, 0, none⟩) (xs.length + ys.length) (cap + 1)), hrun, ⟨?_, ⟨?_, ?_⟩, ?_⟩, ?_⟩
      · rw [hbl]
        exact { hpre with
          os := rfl, tape := rfl, output := rfl, drawn := fun _ => by first | exact Nat.le_refl _ | exact Nat.le_succ _, size := by simp
          frame := fun c _ hn => setRow_other w b c cur' (by simpa using hn)
          cmeq := fun c _ hn => by simp only [Gh.mint]; rw [if_neg (by simpa using hn)]
          wf := ⟨fun c hc => by
              have hbs := (Array.getElem?_eq_some_iff.1 hh).1
              simp at hc
              simp only [Gh.mint]; rw [if_neg (by omega)]; exact hw.cm c hc,
            fun c o ho => by
              simp only [Gh.mint] at ho
              split at ho
              · rename_i h; subst h; rw [hcell]; simp; omega
              · rename_i h; rw [hother c o h]; exact hw.ex c o ho,
            hpre.st hw⟩ }
      · intro r hr
        simp only [List.mem_singleton] at hr; subst hr
        exact ⟨by simp [Gh.mint], .inr ⟨b, _, cap, cur', e', by simp [Gh.mint], setRow_heap w b cur cur' e' _ hh, hroom, hcm, by rw [hsz', hcs], by simp [Gh.mint, hmul]⟩⟩
      · rw [hbl']; simp
      · rw [hbl']; intro c hc; simp at hc; subst hc; left; rw [hbl]; simp
      · simp only [RelV]
        refine ⟨_, _, _, rfl, by simp, hroom, ⟨by simp [Gh.mint], by simp [Gh.mint]⟩, .inr ⟨b, 0, rfl, by simp [Gh.mint, hmul], ?_⟩⟩
        refine relXs_append (RelXs.mono hpre sh xs _ _ (fun i hi => ?_) hoR) (RelXs.mono hpre sh ys _ _ (fun i hi => ?_) ap.rel)
        · rw [Nat.zero_add, hcell, hold i hi, ← hcold, hoc i (by omega)]
        · rw [Nat.zero_add, hcell, Nat.add_comm, hnew i (by omega)]
    · -- a new row
      have hold : (Builtin.firstCells i.size xs.length (.slice (some ⟨b, 0, none⟩) xs.length (cap + 1))).run P w.drew = .ok olds.toArray w.drew :=
        run_firstCells_some w.drew i.size xs.length ⟨b, 0, none⟩ xs.length (cap + 1) olds (by rw [hol, hsz]) (fun j v hj => by
          have hjl := (List.getElem?_eq_some_iff.1 hj).1
          rw [Addr.add_lit, Nat.zero_add]
          exact (hoc j hjl).trans hj)
      have hrun := run_append_grow_src w t tx ty e i z ht hi hz1 (some ⟨b, 0, none⟩) xs.length (cap + 1) olds hold y ys.length ap.news ap.src (by omega) (by
          have : xs.length + ys.length ≤ (xs.length + ys.length) * i.bytes := Nat.le_mul_of_pos_right _ hby
          omega) (growslice_fits (by omega) hle)
      have hcapok := capOk (w := w) (old := cap + 1) (e := e) hle hby
      have hge := grownCap_ge w (xs.length + ys.length) (cap + 1) e
      obtain ⟨g', h1, h2⟩ := e_grow hw (xs := xs) (ys := ys) (olds := olds) (newCap := grownCap w (xs.length + ys.length) (cap + 1) e) (z := z.cells) (e := e) (by rw [hz2, hsz]) hoR ap.rel hol hnl hge (by omega) hcapok.2 rfl
      exact ⟨_, _, g', hrun, after_token hR h1, h2⟩
theorem e_made (hw : Wf g w) {e : TypeId} {sh : Option Nat} {n : Nat} {vs : List V} {cells : Array Value} (hs : cells.size = n * width sh) (hn : vs.length = n) (hr : RelXs g w sh vs (fun (i : Nat) => cells[i]?)) (hm : n ≤ maxLen) :
    ∃ g', After g w [] g' (w.alloc (.cells cells e)) [.tok g.nt sh] ∧ RelV g' (w.alloc (.cells cells e)) (.sl sh vs (.t g.nt)) (.slice (some ⟨w.heap.size, 0, none⟩) n n) := by
  have hext0 := ext_alloc hw cells e (n * width sh) (by omega)
  have hpre : Pre g w (g.mint w.heap.size (n * width sh) (.slice (some ⟨w.heap.size, 0, none⟩) n n)) (w.alloc (.cells cells e)) :=
    ⟨hext0.cmle, hext0.com, Nat.le_succ _, fun t ht => by simp only [Gh.mint]; rw [if_neg (by omega)], hext0.dm⟩
  have hext : Ext [] g w (g.mint w.heap.size (n * width sh) (.slice (some ⟨w.heap.size, 0, none⟩) n n)) (w.alloc (.cells cells e)) :=
    { hpre with os := rfl, tape := rfl, output := rfl, drawn := fun _ => by first | exact Nat.le_refl _ | exact Nat.le_succ _, size := hext0.size, frame := hext0.frame, cmeq := hext0.cmeq, wf := ⟨hext0.wf.cm, hext0.wf.ex, hpre.st hw⟩ }
  refine ⟨g.mint w.heap.size (n * width sh) (.slice (some ⟨w.heap.size, 0, none⟩) n n), ⟨by simpa [blocks] using hext, ⟨?_, ?_⟩, ?_⟩, ?_⟩
  · intro r hr
    simp only [List.mem_singleton] at hr; subst hr
    refine ⟨by simp [Gh.mint], ?_⟩
    cases n with
    | zero => exact .inl ⟨some ⟨w.heap.size, 0, none⟩, by simp only [Gh.mint, if_true]⟩
    | succ n => exact .inr ⟨w.heap.size, n + 1, n, cells, e, by simp only [Gh.mint, if_true], heap_alloc_new w _, Nat.le_refl _, hm, hs, by simp [Gh.mint]⟩
  · cases n <;> simp [blocks, Res.blocks, Gh.mint, blockOf]
  · intro c hc
    cases n with
    | zero => simp [blocks, Res.blocks, Gh.mint, blockOf] at hc
    | succ n => simp [blocks, Res.blocks, Gh.mint, blockOf] at hc; right; omega
  · simp only [RelV]
    refine ⟨_, _, _, rfl, hn.symm, Nat.le_refl _, ⟨by simp [Gh.mint], by simp [Gh.mint]⟩, .inr ⟨w.heap.size, 0, rfl, by simp [Gh.mint], ?_⟩⟩
    refine RelXs.mono hpre sh vs _ _ (fun i hi => ?_) hr
    rw [Nat.zero_add, cell_alloc_new]
end
end Go.Sv
