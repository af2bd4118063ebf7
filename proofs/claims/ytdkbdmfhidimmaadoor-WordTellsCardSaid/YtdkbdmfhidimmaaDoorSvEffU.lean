/- The rules of the operations on live slices, with their outcomes named by the user. -/
import Derived.Test.YtdkbdmfhidimmaaDoorSvFrz
namespace Go.Sv
open Go
theorem lates1 {fr : Fr} {o : Oper} {q : Nat} {t : TypeId} {x : Operand} (b o1 c o2 : Nat) (hop : o.op = .load t x) (h1 : ev fr x = .loc b o1) (h2 : fr q = .loc c o2) (hne : b ≠ c) : ∀ p ∈ [q], Apart fr o p := by
  intro p hp
  rw [List.mem_singleton.1 hp]
  unfold Apart
  rw [hop]
  exact ⟨b, o1, c, o2, h1, h2, hne⟩

section
variable {P : Program} {R : List Res} {Q : Exit → Fr → List Res → Prop}

theorem wp_makeE {sh : Option Nat} {by_ : Nat} {zero : List V} {n c : Int} {k : V → Tree} (n' c' : Nat) (zs : List V) (hn : n = n') (hc : c = c') (hle : n' ≤ c') (hb : (c' : Int) * by_ ≤ 140737488355328)
    (hz : (List.replicate c' zero).flatten = zs) (h : ∀ b, (k (.lsl sh b 0 n' c')).wp P (R ++ [.obj b zs]) Q) : (Tree.eff (.make sh by_ zero n c) k).wp P R Q := by
  subst hn; subst hc; subst hz
  exact ⟨by omega, by omega, hb, fun b => h b⟩

theorem wp_copyE {sh : Option Nat} {b o n : Nat} {ys : List V} {k : V → Tree} (i o' : Nat) {cs : List V} (src : List V) (cs' : List V) (m : Nat) {R' : List Res} (hR : R[i]? = some (.obj b cs)) (ho : o = o') (hs : VleL (rowC sh (ys.take n)) src) (hok : ∀ y ∈ ys, okE sh y)
    (hfit : o' + n * width sh ≤ cs.length) (hc : splice cs o' src = cs') (hm : min ys.length n = m) (hR' : R.set i (.obj b cs') = R') (h : (k (.c (.int .i64 (m : Nat)))).wp P R' Q) : (Tree.eff (.copy sh b o n ys) k).wp P R Q := by
  subst ho; subst hc; subst hm; subst hR'
  exact ⟨i, cs, src, hs, hok, hR, hfit, h⟩

theorem wp_copyLE {sh : Option Nat} {b o n b' o2 n2 : Nat} {k : V → Tree} (i j oa ob na nb : Nat) {cs cs2 : List V} (src : List V) (cs' : List V) (m : Nat) {R' : List Res} (hR : R[i]? = some (.obj b cs)) (hR2 : R[j]? = some (.obj b' cs2)) (ho : o = oa) (ho2 : o2 = ob) (hn : n = na) (hn2 : n2 = nb)
    (hfit : oa + na * width sh ≤ cs.length) (hfit2 : ob + nb * width sh ≤ cs2.length) (hs : (cs2.drop ob).take (min nb na * width sh) = src) (h1 : ∀ v ∈ src, oneV v = true) (hc : splice cs oa src = cs') (hm : min nb na = m) (hR' : R.set i (.obj b cs') = R') (h : (k (.c (.int .i64 (m : Nat)))).wp P R' Q) : (Tree.eff (.copyL sh b o n b' o2 n2) k).wp P R Q := by
  subst ho; subst ho2; subst hn; subst hn2; subst hc; subst hm; subst hR'
  exact ⟨i, j, cs, cs2, src, hR, hR2, hfit, hfit2, hs.symm, h1, h⟩

theorem wp_clearE {sh : Option Nat} {b o n : Nat} {zero : List V} {k : V → Tree} (i o' n' : Nat) {cs : List V} (cs' : List V) {R' : List Res} (hR : R[i]? = some (.obj b cs)) (ho : o = o') (hn : n = n') (hfit : o' + n' * width sh ≤ cs.length) (h1 : ∀ v ∈ zero, oneV v = true)
    (hc : splice cs o' (List.replicate n' zero).flatten = cs') (hR' : R.set i (.obj b cs') = R') (h : (k (.tup [])).wp P R' Q) : (Tree.eff (.clear sh b o n zero) k).wp P R Q := by
  subst ho; subst hn; subst hc; subst hR'
  exact ⟨i, cs, hR, hfit, h1, h⟩

theorem wp_bytesE {s : ByteArray} {k : V → Tree} (l : List UInt8) (hs : s = S l) (h : ∀ (b : Nat) (sp : List V), (k (.lsl none b 0 l.length (l.length + sp.length))).wp P (R ++ [.obj b (l.map byteV ++ sp)]) Q) : (Tree.eff (.bytes s) k).wp P R Q := by
  subst hs
  intro b cap sp e
  subst e
  exact h b sp

theorem wp_strE {b o n : Nat} {k : V → Tree} (i o' n' : Nat) {cs : List V} (l : List UInt8) (hR : R[i]? = some (.obj b cs)) (ho : o = o') (hn : n = n') (hv : VleL ((cs.drop o').take n') (l.map byteV)) (hl : l.length = n') (h : (k (str l)).wp P R Q) : (Tree.eff (.str b o n) k).wp P R Q := by
  subst ho; subst hn
  exact ⟨i, cs, l, hR, hv, hl, h⟩

/-- Appending to a live slice that begins its object: the object is either the same or a new one. -/
theorem wp_appE {sh : Option Nat} {by_ b n cap : Nat} {ys : List V} {k : V → Tree} (A : List Res) (xs : List V) (src : List V) (n' : Nat) (hn : n = n') (hR : ∃ sp, R = A ++ [.obj b (xs ++ sp)] ∧ (xs ++ sp).length = cap * width sh ∧ n' ≤ cap) (hx : xs.length = n' * width sh)
    (hs : VleL (rowC sh ys) src) (hok : ∀ y ∈ ys, okE sh y) (hle : (n' + ys.length) * by_ ≤ 140737488355328)
    (h : ∀ (b cap : Nat) (sp : List V), (xs ++ src ++ sp).length = cap * width sh → n' + ys.length ≤ cap → (k (.lsl sh b 0 (n' + ys.length) cap)).wp P (A ++ [.obj b (xs ++ src ++ sp)]) Q) : (Tree.eff (.app sh by_ (.lsl sh b 0 n cap) ys) k).wp P R Q := by
  subst hn
  obtain ⟨sp, rfl, hl, hc⟩ := hR
  have hg : (A ++ [Res.obj b (xs ++ sp)])[A.length]? = some (.obj b (xs ++ sp)) := by simp
  have hsl : src.length = ys.length * width sh := by rw [VleL.length hs, rowC_length hok]
  have hset : ∀ x, (A ++ [Res.obj b (xs ++ sp)]).set A.length x = A ++ [x] := by intro x; simp
  by_cases hroom : n + ys.length ≤ cap
  · refine ⟨src, hs, hok, .inr (.inl ⟨A.length, b, 0, n, cap, _, rfl, hg, hroom, by omega, ?_⟩)⟩
    have h1 : (n + ys.length) * width sh ≤ cap * width sh := Nat.mul_le_mul_right _ hroom
    rw [Nat.add_mul, ← hl, ← hx, ← hsl, List.length_append] at h1
    have h2 : splice (xs ++ sp) (0 + n * width sh) src = xs ++ src ++ sp.drop src.length := by
      rw [Nat.zero_add, ← hx, splice, List.take_left, show xs.length + src.length = xs.length + src.length from rfl, ← List.drop_drop, List.drop_left, List.append_assoc]
    rw [h2, hset]
    refine h b cap _ ?_ hroom
    rw [← hl]; simp; omega
  · refine ⟨src, hs, hok, .inr (.inr ⟨A.length, b, n, cap, _, rfl, hg, hl, hle, fun b' cap' sp' e1 e2 => ?_⟩)⟩
    rw [hset, ← hx, List.take_left]
    rw [← hx, List.take_left] at e1
    exact h b' cap' sp' e1 e2

/-- The same, to the slice that's nil. -/
theorem wp_appN {sh sh' : Option Nat} {by_ : Nat} {ys : List V} {k : V → Tree} (src : List V) (hs : VleL (rowC sh ys) src) (hok : ∀ y ∈ ys, okE sh y) (hle : ys.length * by_ ≤ 140737488355328)
    (h : ∀ (b cap : Nat) (sp : List V), (src ++ sp).length = cap * width sh → ys.length ≤ cap → (k (.lsl sh b 0 ys.length cap)).wp P (R ++ [.obj b (src ++ sp)]) Q) : (Tree.eff (.app sh by_ (.sl sh' [] .zero) ys) k).wp P R Q :=
  ⟨src, hs, hok, .inl ⟨sh', rfl, hle, h⟩⟩

end
end Go.Sv
