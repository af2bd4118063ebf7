/- What a run's tree must come to; contracts. -/
import Derived.Test.YtdkbdmfhidimmaaDoorSvRel
namespace Go.Sv
open Go

def Fw (r : Option Nat) : Fence := { Fence.wide with round := r }

/-- What a call answers: at once, or by a run. -/
def Answers (P : Program) (s : Sem Next) (w : World) (K : Value → World → Prop) : Prop :=
  (∃ x w', s.run P w = .ok (.value x) w' ∧ K x w') ∨
  (∃ f args w', s.run P w = .ok (.enter f args) w' ∧ CallsIn Fence.wide 0 P f args w' fun e w'' => ∃ x, e = .returned x ∧ K x w'') ∨
  (∃ row args w', s.run P w = .ok (.row row args) w' ∧ RowsIn Fence.wide 0 P row args w' K)

theorem Answers.mono {P : Program} {s : Sem Next} {w : World} {K K' : Value → World → Prop} (h : Answers P s w K) (hk : ∀ x w', K x w' → K' x w') : Answers P s w K' := by
  rcases h with ⟨x, w', h1, h2⟩ | ⟨f, args, w', h1, h2⟩ | ⟨row, args, w', h1, h2⟩
  · exact .inl ⟨x, w', h1, hk _ _ h2⟩
  · exact .inr (.inl ⟨f, args, w', h1, h2.mono fun e w'' ⟨x, he, hx⟩ => ⟨x, he, hk _ _ hx⟩⟩)
  · exact .inr (.inr ⟨row, args, w', h1, h2.mono fun x w'' hx => hk _ _ hx⟩)

/-- A call of function f: it returns, and K holds of its result and of what is owned then. -/
def SCall (P : Program) (f : FuncId) (args : List V) (R : List Res) (K : V → List Res → Prop) : Prop :=
  ∀ (g : Gh) (w : World) (xs : List Value), Wf g w → RelL g w args xs → RelR g w R →
    Answers P (callFunc f xs.toArray) w fun x w' => ∃ v g' R', K v R' ∧ After g w R g' w' R' ∧ RelV g' w' v x

/-- A call that owns nothing and leaves nothing behind. -/
def PCall (P : Program) (f : FuncId) (args : List V) (v : V) : Prop := SCall P f args [] fun u _ => u = v

/-- A call of the function that ranges' bodies are handed in as. -/
def YCall (P : Program) (l : Nat) (args : List V) (R : List Res) (K : Bool → List Res → Prop) : Prop :=
  ∀ (g : Gh) (w : World) (xs : List Value), Wf g w → RelL g w args xs → RelR g w R →
    ∃ f tmps assign body, (Instr.yield l xs.toArray).run P w = .ok (.round l f tmps assign body) w ∧
      RoundIn Fence.wide 0 P l f tmps assign body w fun e w' => ∃ b g' R', e = .returned (.bool b) ∧ K b R' ∧ After g w R g' w' R'

theorem SCall.mono {P : Program} {f : FuncId} {args : List V} {R : List Res} {K K' : V → List Res → Prop} (h : SCall P f args R K) (hk : ∀ v R', K v R' → K' v R') : SCall P f args R K' :=
  fun g w xs hw ha hr => (h g w xs hw ha hr).mono fun _ _ ⟨v, g', R', hK, hA, hv⟩ => ⟨v, g', R', hk _ _ hK, hA, hv⟩
theorem YCall.mono {P : Program} {l : Nat} {args : List V} {R : List Res} {K K' : Bool → List Res → Prop} (h : YCall P l args R K) (hk : ∀ b R', K b R' → K' b R') : YCall P l args R K' := by
  intro g w xs hw ha hr
  obtain ⟨f, tmps, assign, body, hy, hR⟩ := h g w xs hw ha hr
  exact ⟨f, tmps, assign, body, hy, hR.mono fun _ _ ⟨b, g', R', he, hK, hA⟩ => ⟨b, g', R', he, hk _ _ hK, hA⟩⟩

/-- Arguments that say more. -/
theorem SCall.vle {P : Program} {f : FuncId} {args args' : List V} {R : List Res} {K : V → List Res → Prop} (h : SCall P f args' R K) (ha : VleL args args') : SCall P f args R K :=
  fun g w xs hw hx hr => h g w xs hw (ha.rel hx) hr

theorem blocks_append {g : Gh} {R R' : List Res} : blocks g (R ++ R') = blocks g R ++ blocks g R' := by simp [blocks]

/-- A step on a part of what is owned leaves the rest as it was. -/
theorem After.frame {g g' : Gh} {w w' : World} {R R1 A B : List Res} (hr : RelR g w (A ++ R ++ B)) (hA : After g w R g' w' R1) : After g w (A ++ R ++ B) g' w' (A ++ R1 ++ B) := by
  have hAB : RelR g w (A ++ B) := hr.sub (by rw [List.append_assoc]; exact List.Sublist.append (List.Sublist.refl _) (List.sublist_append_right _ _))
  have hnd := hr.nodup
  rw [blocks_append, blocks_append] at hnd
  have hdis : ∀ b ∈ blocks g (A ++ B), b ∉ blocks g R := by
    intro b hb hm
    rw [blocks_append] at hb
    rw [List.nodup_append] at hnd
    obtain ⟨h1, h2, h3⟩ := hnd
    rw [List.nodup_append] at h1
    rcases List.mem_append.1 hb with hb | hb
    · exact h1.2.2 b hb b hm rfl
    · exact h3 b (List.mem_append.2 (.inr hm)) b hb rfl
  obtain ⟨hk1, hk2⟩ := hAB.kept hA.ext hdis
  have hkA : blocks g' A = blocks g A := (hAB.sub (R' := A) (by simp)).kept hA.ext (fun b hb => hdis b (by rw [blocks_append]; exact List.mem_append.2 (.inl hb))) |>.2
  have hkB : blocks g' B = blocks g B := (hAB.sub (R' := B) (by simp)).kept hA.ext (fun b hb => hdis b (by rw [blocks_append]; exact List.mem_append.2 (.inr hb))) |>.2
  have hlt : ∀ b ∈ blocks g (A ++ B), b < w.heap.size := fun b hb => by
    obtain ⟨r, hr1, hr2⟩ := mem_blocks.1 hb
    exact (hAB.all r hr1).blocks_lt hr2
  have hnew : ∀ b ∈ blocks g' R1, b ∉ blocks g (A ++ B) := fun b hb hm => by
    rcases hA.own b hb with h1 | h1
    · exact hdis b hm h1
    · have := hlt b hm; omega
  refine ⟨?_, ⟨?_, ?_⟩, ?_⟩
  · exact hA.ext.mono fun b hb => by rw [blocks_append, blocks_append]; simp [hb]
  · intro r hr'
    simp only [List.mem_append] at hr'
    rcases hr' with (h1 | h1) | h1
    · exact hk1.all r (by simp [h1])
    · exact hA.res.all r h1
    · exact hk1.all r (by simp [h1])
  · have n1 := hA.res.nodup
    have n2 := hk1.nodup
    rw [blocks_append] at n2
    rw [blocks_append, blocks_append, hkA, hkB]
    rw [hkA, hkB] at n2
    rw [List.nodup_append] at n2 ⊢
    rw [List.nodup_append]
    refine ⟨⟨n2.1, n1, fun a ha b hb e => ?_⟩, n2.2.1, fun a ha b hb e => ?_⟩
    · subst e; exact hnew a hb (by rw [blocks_append]; simp [ha])
    · subst e
      rcases List.mem_append.1 ha with ha | ha
      · exact n2.2.2 a ha a hb rfl
      · exact hnew a ha (by rw [blocks_append]; simp [hb])
  · intro b hb
    rw [blocks_append, blocks_append, hkA, hkB] at hb
    rw [blocks_append, blocks_append]
    simp only [List.mem_append] at hb ⊢
    rcases hb with (h1 | h1) | h1
    · exact .inl (.inl (.inl h1))
    · rcases hA.own b h1 with h2 | h2
      · exact .inl (.inl (.inr h2))
      · exact .inr h2
    · exact .inl (.inr h1)

/-- Of what is owned some may be left aside (ahead of it or behind it). -/
theorem SCall.frame {P : Program} {f : FuncId} {args : List V} {R A B : List Res} {K : V → List Res → Prop} (h : SCall P f args R K) :
    SCall P f args (A ++ R ++ B) fun v R' => ∃ R1, K v R1 ∧ R' = A ++ R1 ++ B := by
  intro g w xs hw hx hr
  refine (h g w xs hw hx (hr.sub (by simp))).mono ?_
  rintro x w' ⟨v, g', R1, hK, hA, hv⟩
  exact ⟨v, g', A ++ R1 ++ B, ⟨R1, hK, rfl⟩, After.frame hr hA, hv⟩

/-- A pure call, whatever is owned. -/
theorem PCall.any {P : Program} {f : FuncId} {args : List V} {v : V} (h : PCall P f args v) (R : List Res) : SCall P f args R fun u R' => u = v ∧ R' = R := by
  have := SCall.frame (A := R) (B := []) h
  simp only [List.append_nil] at this
  intro g w xs hw hx hr
  refine (this g w xs hw hx hr).mono ?_
  rintro x w' ⟨u, g', R', ⟨R1, hu, rfl⟩, hA, hv⟩
  exact ⟨u, g', R, ⟨hu, rfl⟩, hA.sub (by simp), hv⟩

/-- One cell. -/
def oneV : V → Bool
  | .c v => v.oneCell'
  | .agg _ | .tup _ | .undef => false
  | _ => true
/-- What may be an element of a row. -/
def okE (sh : Option Nat) (v : V) : Prop :=
  match sh with
  | none => oneV v = true
  | some k => ∃ cs, v = .agg cs ∧ cs.length = k ∧ ∀ c ∈ cs, oneV c = true

def splice (cs : List V) (off : Nat) (vs : List V) : List V := cs.take off ++ vs ++ cs.drop (off + vs.length)

/-- A frame that says less. -/
def Weak (fr fr' : Fr) : Prop := ∀ t, Vle (fr t) (fr' t)

/-- Less is said, less is owned, or what was owned never changes from here on. -/
def UpdF (fr : Fr) (R : List Res) (fr' : Fr) (R' : List Res) : Prop :=
  ∀ (g : Gh) (w : World) (x : Nat → Value), Wf g w → (∀ t, RelV g w (fr t) (x t)) → RelR g w R → ∃ g', After g w R g' w R' ∧ ∀ t, RelV g' w (fr' t) (x t)
def UpdV (v : V) (R : List Res) (v' : V) (R' : List Res) : Prop :=
  ∀ (g : Gh) (w : World) (x : Value), Wf g w → RelV g w v x → RelR g w R → ∃ g', After g w R g' w R' ∧ RelV g' w v' x
theorem UpdF.weak {fr fr' : Fr} {R R' : List Res} (h : Weak fr fr') (hs : R'.Sublist R) : UpdF fr R fr' R' :=
  fun g w x hw hx hr => ⟨g, (After.refl hw hr).sub hs, fun t => h t _ _ _ (hx t)⟩
theorem UpdV.vle {v v' : V} {R R' : List Res} (h : Vle v v') (hs : R'.Sublist R) : UpdV v R v' R' :=
  fun g w x hw hx hr => ⟨g, (After.refl hw hr).sub hs, h _ _ _ hx⟩
theorem UpdF.trans {fr fr' fr'' : Fr} {R R' R'' : List Res} (h : UpdF fr R fr' R') (h' : UpdF fr' R' fr'' R'') : UpdF fr R fr'' R'' := by
  intro g w x hw hx hr
  obtain ⟨g1, h1, h2⟩ := h g w x hw hx hr
  obtain ⟨g2, h3, h4⟩ := h' g1 w x h1.ext.wf h2 h1.res
  exact ⟨g2, h1.trans h3, h4⟩

/-- What a round of a loop must come to: its head again, or on with what is behind. -/
def loopPost (I : Nat → Fr → List Res → Prop) (n : Nat) (K : Exit → Fr → List Res → Prop) : Exit → Fr → List Res → Prop
  | .normal, fr', R' => ∃ (n' : Nat) (fr1 : Fr) (R1 : List Res), n' < n ∧ UpdF fr' R' fr1 R1 ∧ I n' fr1 R1
  | e, fr', R' => K e fr' R'

/-- The cells of a row. -/
def aggC : V → List V
  | .agg cs => cs
  | _ => []
def rowC (sh : Option Nat) (xs : List V) : List V :=
  match sh with
  | none => xs
  | some _ => xs.flatMap aggC

/-- So many things (their cells: src) behind a slice whose elements may change. -/
def AppW (sh : Option Nat) (by_ : Nat) (x : V) (m : Nat) (src : List V) (R : List Res) (Y : V → List Res → Prop) : Prop :=
  (∃ sh', x = .sl sh' [] .zero ∧ m * by_ ≤ 140737488355328 ∧ ∀ (b cap : Nat) (sp : List V), (src ++ sp).length = cap * width sh → m ≤ cap → Y (.lsl sh b 0 m cap) (R ++ [.obj b (src ++ sp)])) ∨
  (∃ (i b o n cap : Nat) (cs : List V), x = .lsl sh b o n cap ∧ R[i]? = some (.obj b cs) ∧ n + m ≤ cap ∧ o + cap * width sh ≤ cs.length ∧ Y (.lsl sh b o (n + m) cap) (R.set i (.obj b (splice cs (o + n * width sh) src)))) ∨
  (∃ (i b n cap : Nat) (cs : List V), x = .lsl sh b 0 n cap ∧ R[i]? = some (.obj b cs) ∧ cs.length = cap * width sh ∧ (n + m) * by_ ≤ 140737488355328 ∧
    ∀ (b' cap' : Nat) (sp : List V), (cs.take (n * width sh) ++ src ++ sp).length = cap' * width sh → n + m ≤ cap' → Y (.lsl sh b' 0 (n + m) cap') (R.set i (.obj b' (cs.take (n * width sh) ++ src ++ sp))))

/-- What such an operation asks, and what it makes. -/
def Eff.W (e : Eff) (R : List Res) (Y : V → List Res → Prop) : Prop :=
  match e with
  | .app sh by_ x ys => ∃ src, VleL (rowC sh ys) src ∧ (∀ y ∈ ys, okE sh y) ∧ AppW sh by_ x ys.length src R Y
  | .appL sh by_ x b o n => ∃ (j : Nat) (cs src : List V), R[j]? = some (.obj b cs) ∧ o + n * width sh ≤ cs.length ∧ src = (cs.drop o).take (n * width sh) ∧ (∀ v ∈ src, oneV v = true) ∧ AppW sh by_ x n src R Y
  | .appZ sh by_ x zero m => 0 ≤ m ∧ m * by_ ≤ 140737488355328 ∧ (∀ v ∈ zero, oneV v = true) ∧ AppW sh by_ x m.toNat (List.replicate m.toNat zero).flatten R Y
  | .copy sh b o n ys => ∃ (i : Nat) (cs src : List V), VleL (rowC sh (ys.take n)) src ∧ (∀ y ∈ ys, okE sh y) ∧ R[i]? = some (.obj b cs) ∧ o + n * width sh ≤ cs.length ∧ Y (.c (.int .i64 (min ys.length n : Nat))) (R.set i (.obj b (splice cs o src)))
  | .copyL sh b o n b' o' n' => ∃ (i j : Nat) (cs cs' src : List V), R[i]? = some (.obj b cs) ∧ R[j]? = some (.obj b' cs') ∧ o + n * width sh ≤ cs.length ∧ o' + n' * width sh ≤ cs'.length ∧
      src = (cs'.drop o').take (min n' n * width sh) ∧ (∀ v ∈ src, oneV v = true) ∧ Y (.c (.int .i64 (min n' n : Nat))) (R.set i (.obj b (splice cs o src)))
  | .clear sh b o n zero => ∃ (i : Nat) (cs : List V), R[i]? = some (.obj b cs) ∧ o + n * width sh ≤ cs.length ∧ (∀ v ∈ zero, oneV v = true) ∧ Y (.tup []) (R.set i (.obj b (splice cs o (List.replicate n zero).flatten)))
  | .make sh by_ zero n cap => 0 ≤ n ∧ n ≤ cap ∧ cap * by_ ≤ 140737488355328 ∧ ∀ b, Y (.lsl sh b 0 n.toNat cap.toNat) (R ++ [.obj b (List.replicate cap.toNat zero).flatten])
  | .bytes s => ∀ (b cap : Nat) (sp : List V), s.size + sp.length = cap → Y (.lsl none b 0 s.size cap) (R ++ [.obj b ((s.data.toList.map fun b => V.c (.int .u8 b.toNat)) ++ sp)])
  | .str b o n => ∃ (i : Nat) (cs : List V) (l : List UInt8), R[i]? = some (.obj b cs) ∧ VleL ((cs.drop o).take n) (l.map fun b => V.c (.int .u8 b.toNat)) ∧ l.length = n ∧ Y (.c (.string ⟨l.toArray⟩)) R
  | .isNil eq n => ∀ b : Bool, (b = true → n = 0) → Y (.c (.bool (bif eq then b else !b))) R

theorem AppW.mono {sh : Option Nat} {by_ : Nat} {x : V} {m : Nat} {src : List V} {R : List Res} {Y Y' : V → List Res → Prop} (hy : ∀ v R, Y v R → Y' v R) (h : AppW sh by_ x m src R Y) : AppW sh by_ x m src R Y' := by
  rcases h with ⟨sh', h1, h2, h3⟩ | ⟨i, b, o, n, cap, cs, h1, h2, h3, h4, h5⟩ | ⟨i, b, n, cap, cs, h1, h2, h3, h4, h5⟩
  · exact .inl ⟨sh', h1, h2, fun b cap sp e1 e2 => hy _ _ (h3 b cap sp e1 e2)⟩
  · exact .inr (.inl ⟨i, b, o, n, cap, cs, h1, h2, h3, h4, hy _ _ h5⟩)
  · exact .inr (.inr ⟨i, b, n, cap, cs, h1, h2, h3, h4, fun b' cap' sp e1 e2 => hy _ _ (h5 b' cap' sp e1 e2)⟩)

theorem Eff.W_mono {e : Eff} {R : List Res} {Y Y' : V → List Res → Prop} (hy : ∀ v R, Y v R → Y' v R) (h : e.W R Y) : e.W R Y' := by
  cases e with
  | app sh by_ x ys => obtain ⟨src, h1, h2, h3⟩ := h; exact ⟨src, h1, h2, h3.mono hy⟩
  | appL sh by_ x b o n => obtain ⟨j, cs, src, h1, h2, h3, h4, h5⟩ := h; exact ⟨j, cs, src, h1, h2, h3, h4, h5.mono hy⟩
  | appZ sh by_ x zero m => exact ⟨h.1, h.2.1, h.2.2.1, h.2.2.2.mono hy⟩
  | copy sh b o n ys => obtain ⟨i, cs, src, h1, h2, h3, h4, h5⟩ := h; exact ⟨i, cs, src, h1, h2, h3, h4, hy _ _ h5⟩
  | copyL sh b o n b' o' n' => obtain ⟨i, j, cs, cs', src, h1, h2, h3, h4, h5, h6, h7⟩ := h; exact ⟨i, j, cs, cs', src, h1, h2, h3, h4, h5, h6, hy _ _ h7⟩
  | clear sh b o n zero => obtain ⟨i, cs, h1, h2, h3, h4⟩ := h; exact ⟨i, cs, h1, h2, h3, hy _ _ h4⟩
  | make sh by_ zero n cap => exact ⟨h.1, h.2.1, h.2.2.1, fun b => hy _ _ (h.2.2.2 b)⟩
  | bytes s => exact fun b cap sp e => hy _ _ (h b cap sp e)
  | str b o n => obtain ⟨i, cs, l, h1, h2, h3, h4⟩ := h; exact ⟨i, cs, l, h1, h2, h3, hy _ _ h4⟩
  | isNil eq n => exact fun b hb => hy _ _ (h b hb)
theorem Eff.W_congr {e : Eff} {R : List Res} {Y Y' : V → List Res → Prop} (hy : ∀ v R, Y v R ↔ Y' v R) : e.W R Y ↔ e.W R Y' :=
  ⟨Eff.W_mono fun v R => (hy v R).1, Eff.W_mono fun v R => (hy v R).2⟩

/-- A function with a body. -/
def isFn (P : Program) (f : FuncId) : Prop := ∃ fn c, P.funcs[f]? = some fn ∧ fn.body = some c ∧ (fn.name == "runtime.NumGoroutine") = false

/-- A round that has left. -/
def jumpOf : Exit → Code
  | .exit id => .exit id
  | _ => .ret
def _root_.Go.Loop.left (lp : Loop) (e : Exit) : Loop := { lp with state := .done, pending := some (jumpOf e) }

/-- How a round may end: B: on to the next one; E: left. -/
def roundEnd (B : List Res → Prop) (E : Exit → List Res → Prop) : Exit → Fr → List Res → Prop
  | .normal, _, R' => B R'
  | .ret, _, R' => E .ret R'
  | .exit id, _, R' => E (.exit id) R'
  | _, _, _ => False

def yieldPost (l : Nat) (lp : Loop) (fr : Fr) (B : List Res → Prop) (E : Exit → List Res → Prop) : Bool → List Res → Prop := fun b R' =>
  (b = true ∧ ∃ R1, R' = R1 ++ [.lop l lp fr] ∧ B R1) ∨ (b = false ∧ ∃ e R1, (e = .ret ∨ ∃ id, e = .exit id) ∧ R' = R1 ++ [.lop l (lp.left e) fr] ∧ E e R1)

/-- No object that is owned lies in that block. -/
def Fresh (R : List Res) (b : Nat) : Prop := ∀ (i c : Nat) (cs : List V), R[i]? = some (.obj c cs) → cs ≠ [] → c ≠ b

/-- THE WEAKEST PRECONDITION OF A TREE. -/
def Tree.wp (P : Program) : Tree → List Res → (Exit → Fr → List Res → Prop) → Prop
  | .leaf e fr, R, Q => Q e fr R
  | .ite b t f, R, Q => (b = true → t.wp P R Q) ∧ (b = false → f.wp P R Q)
  | .need p t, R, Q => p ∧ t.wp P R Q
  | .load b off sh k, R, Q => ∃ (i : Nat) (cs : List V) (v : V), R[i]? = some (.obj b cs) ∧ partOf sh cs off = some v ∧ (k v).wp P R Q
  | .store b off vs t, R, Q => ∃ (i : Nat) (cs us : List V), R[i]? = some (.obj b cs) ∧ VleL vs us ∧ off + us.length ≤ cs.length ∧ (∀ v ∈ vs, oneV v = true) ∧ t.wp P (R.set i (.obj b (splice cs off us))) Q
  | .alloc v k, R, Q => ∀ b, Fresh R b → (k (.loc b 0)).wp P (R ++ [.obj b v]) Q
  | .append sh by_ x ys k, R, Q => ∃ zs, VleL ys zs ∧ (∀ y ∈ ys, okE sh y) ∧
      ((∃ sh', x = .sl sh' [] .zero ∧ zs.length * by_ ≤ 140737488355328 ∧ ∀ t, (k (.sl sh zs (.t t))).wp P (R ++ [.tok t sh]) Q) ∨
       (∃ (i t : Nat) (xs : List V), x = .sl sh xs (.t t) ∧ R[i]? = some (.tok t sh) ∧ (xs.length + zs.length) * by_ ≤ 140737488355328 ∧ ∀ t', (k (.sl sh (xs ++ zs) (.t t'))).wp P (R.set i (.tok t' sh)) Q))
  | .made sh xs k, R, Q => ∀ t, (k (.sl sh xs (.t t))).wp P (R ++ [.tok t sh]) Q
  | .call f args k, R, Q => ∃ args', VleL args args' ∧ SCall P f args' R fun v R' => (k v).wp P R' Q
  | .yld l args k, R, Q => ∃ args', VleL args args' ∧ YCall P l args' R fun b R' => (k (.c (.bool b))).wp P R' Q
  | .nilcmp e xs k, R, Q => ∀ b : Bool, (b = true → xs = []) → (k (.c (.bool (bif e then b else !b)))).wp P R Q
  | .elem sh xs n k, R, Q => ∃ (i : Nat) (u' u : V), n = i ∧ xs[i]? = some u' ∧ Vle u' u ∧ (k (.pt sh u 0)).wp P R Q
  | .eff e k, R, Q => e.W R fun v R' => (k v).wp P R' Q
  | .cut fr k, R, Q => ∃ fr1 R1, UpdF fr R fr1 R1 ∧ (k fr1).wp P R1 Q
  | .loop body fr k, R, Q => ∃ (I : Nat → Fr → List Res → Prop), (∃ n fr1 R1, UpdF fr R fr1 R1 ∧ I n fr1 R1) ∧
      ∀ n fr R, I n fr R → (body fr).wp P R (loopPost I n fun e fr' R' => (k e fr').wp P R' Q)
  | .pcall f args k, R, Q => ∃ args' v, VleL args args' ∧ PCall P f args' v ∧ (k v).wp P R Q
  | .range f ps body fr k, R, Q => ∃ (gf : FuncId) (first caps : List V), f = .fn (.func gf) first caps ∧ isFn P gf ∧ ∀ (l : Nat) (lp : Loop),
      (∀ (args : List V) (R1 : List Res) (B : List Res → Prop) (E : Exit → List Res → Prop), args.length = ps.length →
        (body (putAll fr ps args)).wp P R1 (roundEnd B E) → YCall P l args (R1 ++ [.lop l lp fr]) (yieldPost l lp fr B E)) →
      SCall P gf (first ++ [.fn (.yield l) [] []] ++ caps) (R ++ [.lop l lp fr]) fun _ R' =>
        (∃ R1, R' = R1 ++ [.lop l lp fr] ∧ (k .normal fr).wp P R1 Q) ∨ (∃ e R1, (e = .ret ∨ ∃ id, e = .exit id) ∧ R' = R1 ++ [.lop l (lp.left e) fr] ∧ (k e fr).wp P R1 Q)
  | .bad, _, _ => False

theorem Tree.wp_mono {P : Program} : ∀ (t : Tree) {R : List Res} {Q Q' : Exit → Fr → List Res → Prop}, (∀ e fr R, Q e fr R → Q' e fr R) → t.wp P R Q → t.wp P R Q'
  | .leaf _ _, _, _, _, hq, h => hq _ _ _ h
  | .ite _ t f, _, _, _, hq, h => ⟨fun hb => t.wp_mono hq (h.1 hb), fun hb => f.wp_mono hq (h.2 hb)⟩
  | .need _ t, _, _, _, hq, h => ⟨h.1, t.wp_mono hq h.2⟩
  | .load _ _ _ k, _, _, _, hq, h => by
    obtain ⟨i, cs, v, h1, h2, h3⟩ := h
    exact ⟨i, cs, v, h1, h2, (k v).wp_mono hq h3⟩
  | .store _ _ _ t, _, _, _, hq, h => by
    obtain ⟨i, cs, us, h1, h2, h3, h4, h5⟩ := h
    exact ⟨i, cs, us, h1, h2, h3, h4, t.wp_mono hq h5⟩
  | .alloc _ k, _, _, _, hq, h => fun b hb => (k _).wp_mono hq (h b hb)
  | .append _ _ _ _ k, _, _, _, hq, h => by
    obtain ⟨zs, h1, h2, h3⟩ := h
    refine ⟨zs, h1, h2, ?_⟩
    rcases h3 with ⟨sh', h4, h5, h6⟩ | ⟨i, t, xs, h4, h5, h6, h7⟩
    · exact .inl ⟨sh', h4, h5, fun t => (k _).wp_mono hq (h6 t)⟩
    · exact .inr ⟨i, t, xs, h4, h5, h6, fun t => (k _).wp_mono hq (h7 t)⟩
  | .made _ _ k, _, _, _, hq, h => fun t => (k _).wp_mono hq (h t)
  | .call _ _ k, _, _, _, hq, h => by
    obtain ⟨a, h1, h2⟩ := h
    exact ⟨a, h1, h2.mono fun v R' h3 => (k v).wp_mono hq h3⟩
  | .yld _ _ k, _, _, _, hq, h => by
    obtain ⟨a, h1, h2⟩ := h
    exact ⟨a, h1, h2.mono fun v R' h3 => (k _).wp_mono hq h3⟩
  | .nilcmp _ _ k, _, _, _, hq, h => fun b hb => (k _).wp_mono hq (h b hb)
  | .elem _ _ _ k, _, _, _, hq, h => by
    obtain ⟨i, u', u, h1, h2, h3, h4⟩ := h
    exact ⟨i, u', u, h1, h2, h3, (k _).wp_mono hq h4⟩
  | .eff _ k, _, _, _, hq, h => Eff.W_mono (fun v _ hv => (k v).wp_mono hq hv) h
  | .cut _ k, _, _, _, hq, h => by
    obtain ⟨fr1, R1, h1, h3⟩ := h
    exact ⟨fr1, R1, h1, (k fr1).wp_mono hq h3⟩
  | .loop body _ k, _, _, _, hq, h => by
    obtain ⟨I, h0, h1⟩ := h
    refine ⟨I, h0, fun n fr R hI => (body fr).wp_mono ?_ (h1 n fr R hI)⟩
    intro e fr' R' he
    cases e with
    | normal => exact he
    | _ => exact (k _ fr').wp_mono hq he
  | .pcall _ _ k, _, _, _, hq, h => by
    obtain ⟨a, v, h1, h2, h3⟩ := h
    exact ⟨a, v, h1, h2, (k v).wp_mono hq h3⟩
  | .range _ _ _ fr k, _, _, _, hq, h => by
    obtain ⟨gf, first, caps, h0, hf, h1⟩ := h
    refine ⟨gf, first, caps, h0, hf, fun l lp hY => (h1 l lp hY).mono fun _ R' h2 => ?_⟩
    rcases h2 with ⟨R1, he, h2⟩ | ⟨e, R1, he', he, h2⟩
    · exact .inl ⟨R1, he, (k _ fr).wp_mono hq h2⟩
    · exact .inr ⟨e, R1, he', he, (k _ fr).wp_mono hq h2⟩
  | .bad, _, _, _, _, h => h.elim

/-- Cut: what comes behind may be left for later. -/
theorem Tree.wp_bnd {P : Program} : ∀ (t : Tree) {k : Exit → Fr → Tree} {R : List Res} {Q : Exit → Fr → List Res → Prop}, (t.bnd k).wp P R Q ↔ t.wp P R fun e fr R' => (k e fr).wp P R' Q
  | .leaf _ _, _, _, _ => Iff.rfl
  | .ite _ t f, _, _, _ => and_congr (imp_congr Iff.rfl t.wp_bnd) (imp_congr Iff.rfl f.wp_bnd)
  | .need _ t, _, _, _ => and_congr Iff.rfl t.wp_bnd
  | .load _ _ _ f, _, _, _ => exists_congr fun _ => exists_congr fun _ => exists_congr fun v => and_congr Iff.rfl (and_congr Iff.rfl (f v).wp_bnd)
  | .store _ _ _ t, _, _, _ => exists_congr fun _ => exists_congr fun _ => exists_congr fun _ => and_congr Iff.rfl (and_congr Iff.rfl (and_congr Iff.rfl (and_congr Iff.rfl t.wp_bnd)))
  | .alloc _ f, _, _, _ => forall_congr' fun _ => forall_congr' fun _ => (f _).wp_bnd
  | .append _ _ _ _ f, _, _, _ => exists_congr fun _ => and_congr Iff.rfl (and_congr Iff.rfl (or_congr
      (exists_congr fun _ => and_congr Iff.rfl (and_congr Iff.rfl (forall_congr' fun _ => (f _).wp_bnd)))
      (exists_congr fun _ => exists_congr fun _ => exists_congr fun _ => and_congr Iff.rfl (and_congr Iff.rfl (and_congr Iff.rfl (forall_congr' fun _ => (f _).wp_bnd))))))
  | .made _ _ f, _, _, _ => forall_congr' fun _ => (f _).wp_bnd
  | .call _ _ f, _, _, _ => exists_congr fun _ => and_congr Iff.rfl ⟨fun h => h.mono fun v _ => (f v).wp_bnd.1, fun h => h.mono fun v _ => (f v).wp_bnd.2⟩
  | .yld _ _ f, _, _, _ => exists_congr fun _ => and_congr Iff.rfl ⟨fun h => h.mono fun _ _ => (f _).wp_bnd.1, fun h => h.mono fun _ _ => (f _).wp_bnd.2⟩
  | .nilcmp _ _ f, _, _, _ => forall_congr' fun _ => forall_congr' fun _ => (f _).wp_bnd
  | .elem _ _ _ f, _, _, _ => exists_congr fun _ => exists_congr fun _ => exists_congr fun u => and_congr Iff.rfl (and_congr Iff.rfl (and_congr Iff.rfl (f _).wp_bnd))
  | .eff _ f, _, _, _ => Eff.W_congr fun v _ => (f v).wp_bnd
  | .cut _ f, _, _, _ => exists_congr fun fr1 => exists_congr fun _ => and_congr Iff.rfl (f fr1).wp_bnd
  | .loop body fr f, k, R, Q => by
    simp only [Tree.bnd, Tree.wp, fun (e : Exit) (fr' : Fr) (R' : List Res) => propext ((f e fr').wp_bnd (P := P) (k := k) (R := R') (Q := Q))]
  | .pcall _ _ f, _, _, _ => exists_congr fun _ => exists_congr fun v => and_congr Iff.rfl (and_congr Iff.rfl (f v).wp_bnd)
  | .range g ps body fr f, k, R, Q => by
    simp only [Tree.bnd, Tree.wp, fun (e : Exit) (fr' : Fr) (R' : List Res) => propext ((f e fr').wp_bnd (P := P) (k := k) (R := R') (Q := Q))]
  | .bad, _, _, _ => Iff.rfl

end Go.Sv
