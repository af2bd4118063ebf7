/- Parts of the proof, one behind the other. -/
import Derived.Test.YtjmkgippihpkoaaGreatDoorMgRowPTells5
import Derived.Test.YtjmkgippihpkoaaGreatDoorMgRowPTells9
import Derived.Test.YtjmkgippihpkoaaGreatDoorMgRowPTells8
/- What is parsed is well formed. -/
namespace Go.Sv
open Go Go.Proofs

theorem thenE_ok {α β : Type} {r : Got α} {f : α → List Wd → Nat → Got β} {y : β × List Wd × Nat} (h : thenE r f = .ok y) : ∃ x l n, r = .ok (x, l, n) ∧ f x l n = .ok y := by
  unfold thenE at h
  split at h
  · cases h
  · exact ⟨_, _, _, rfl, h⟩
theorem mustE_ok {α : Type} {kind : Nat} {t : List UInt8} {x y : α} {l l' : List Wd} {n n' : Nat} (h : mustE kind t x l n = .ok (y, l', n')) : y = x ∧ l' = l.tail ∧ n' = n ∧ hdT kind t l = true := by
  unfold mustE at h
  split at h
  · rename_i hh; cases h; exact ⟨rfl, rfl, rfl, hh⟩
  · cases h
theorem takeE_ok {kind : Nat} {w : Wd} {l l' : List Wd} {n n' : Nat} (h : takeE kind l n = .ok (w, l', n')) : w = l.headD wd0 ∧ l' = l.tail ∧ n' = n ∧ hdK kind l = true := by
  unfold takeE at h
  split at h
  · rename_i hh; cases h; exact ⟨rfl, rfl, rfl, hh⟩
  · cases h
theorem osE_ok {o : Int} {l l' : List Wd} {n n' : Nat} (h : osE l n = .ok (o, l', n')) : o = osW (l.headD wd0) ∧ l' = l.tail ∧ n' = n ∧ o ≠ 0 := by
  unfold osE at h
  split at h
  · cases h
  · rename_i hh; cases h; exact ⟨rfl, rfl, rfl, hh⟩
theorem osW_range (w : Wd) : osW w = 0 ∨ (3 ≤ osW w ∧ osW w ≤ 11) := by
  unfold osW
  repeat' split
  all_goals omega
theorem hdK_mem {kind : Nat} {l : List Wd} (h : hdK kind l = true) : l.headD wd0 ∈ l ∧ (l.headD wd0).kind = kind := by
  cases l with
  | nil => cases h
  | cons w l => exact ⟨by simp, of_decide_eq_true h⟩
theorem hdT_mem {kind : Nat} {t : List UInt8} {l : List Wd} (h : hdT kind t l = true) : l.headD wd0 ∈ l ∧ (l.headD wd0).kind = kind ∧ (l.headD wd0).text = t := by
  cases l with
  | nil => cases h
  | cons w l =>
    simp only [hdT, Bool.and_eq_true] at h
    exact ⟨by simp, of_decide_eq_true h.1, of_decide_eq_true h.2⟩
def AllOk (m : Nat) (l : List Wd) : Prop := ∀ w ∈ l, WdOk m w
theorem AllOk.tail {m : Nat} {l : List Wd} (h : AllOk m l) : AllOk m l.tail := fun w hw => h w (List.mem_of_mem_tail hw)
theorem tail_suf (l : List Wd) : l.tail <:+ l := List.tail_suffix l
theorem AllOk.suf {m : Nat} {l l' : List Wd} (h : AllOk m l) (hs : l' <:+ l) : AllOk m l' := fun w hw => h w (hs.subset hw)

/-- Literals, fields, inner nodes are shaped. -/
theorem lit_shape {k : Nat} {v : Val} (h : valIs v = true) : shapedN (k + 1) (litX v) = true := by
  rw [litX, shapedN_lit (x := .mk 1 v [] [] []) (by show ¬ ((1 : Int) < 1 ∨ 12 < (1 : Int) ∨ 0 ≠ kidsN 1); rw [kidsN_0 (by omega) (by omega)]; omega) rfl]
  show (valIs v && !hasF (.mk 1 v [] [] [])) = true
  rw [h]; rfl
theorem fld_shape {k : Nat} {a f : List UInt8} (ha : isNm a = true) (hf : isNm f = true) : shapedN (k + 1) (.mk 2 val0 a f []) = true := by
  rw [shapedN_fld (x := .mk 2 val0 a f []) (by show ¬ ((2 : Int) < 1 ∨ 12 < (2 : Int) ∨ 0 ≠ kidsN 2); rw [kidsN_0 (by omega) (by omega)]; omega) rfl]
  show (!hasV (.mk 2 val0 a f []) && (isNm a && isNm f)) = true
  rw [ha, hf]; rfl
theorem not_shape {k : Nat} {x : Ex} (h : shapedN k x = true) : shapedN (k + 1) (.mk 12 val0 [] [] [x]) = true := by
  rw [shapedN_in (x := .mk 12 val0 [] [] [x]) (by show ¬ ((12 : Int) < 1 ∨ 12 < (12 : Int) ∨ 1 ≠ kidsN 12); rw [kidsN_12 rfl]; omega) (show (12 : Int) ≠ 1 by decide) (show (12 : Int) ≠ 2 by decide)]
  show ([x].all (shapedN k) && (!hasV (.mk 12 val0 [] [] [x]) && !hasF (.mk 12 val0 [] [] [x]))) = true
  rw [List.all_cons, h]; rfl
theorem two_shape {k : Nat} {o : Int} {x y : Ex} (h1 : 3 ≤ o) (h2 : o ≤ 11) (hx : shapedN k x = true) (hy : shapedN k y = true) : shapedN (k + 1) (.mk o val0 [] [] [x, y]) = true := by
  rw [shapedN_in (x := .mk o val0 [] [] [x, y]) (by show ¬ (o < 1 ∨ 12 < o ∨ 2 ≠ kidsN o); rw [kidsN_2 h1 h2]; omega) (by show o ≠ 1; omega) (by show o ≠ 2; omega)]
  show ([x, y].all (shapedN k) && (!hasV (.mk o val0 [] [] [x, y]) && !hasF (.mk o val0 [] [] [x, y]))) = true
  rw [List.all_cons, List.all_cons, hx, hy]; rfl
theorem shaped_size : ∀ (k : Nat) (x : Ex), shapedN k x = true → exSize x ≤ 2 ^ (6 + 2 * k)
  | 0, _, h => by cases h
  | k + 1, .mk o v a f l, hsh => by
    have hp : 2 ^ (6 + 2 * (k + 1)) = 4 * 2 ^ (6 + 2 * k) := by rw [show 6 + 2 * (k + 1) = (6 + 2 * k) + 2 by omega, Nat.pow_add]; omega
    have hq : 2 ^ 6 ≤ 2 ^ (6 + 2 * k) := Nat.pow_le_pow_right (by omega) (by omega)
    rcases shape_cases hsh with rfl | rfl | ⟨rfl, x, rfl, hx⟩ | ⟨h3, h11, x, y, rfl, hx, hy⟩
    · obtain ⟨b1, rfl, rfl, rfl⟩ := shape_1 hsh
      have := valIs_s b1
      simp only [exSize, exsSize, List.length_nil]; omega
    · obtain ⟨rfl, b2, b3, rfl⟩ := shape_2 hsh
      have := (isNm_all b2).2.2
      have := (isNm_all b3).2.2
      simp only [exSize, exsSize, val0, List.length_nil]; omega
    · obtain ⟨rfl, rfl, rfl⟩ := shape_3 hsh (by omega) (by omega)
      have := shaped_size k x hx
      simp only [exSize, exsSize, val0, List.length_nil]; omega
    · obtain ⟨rfl, rfl, rfl⟩ := shape_3 hsh (by omega) (by omega)
      have := shaped_size k x hx
      have := shaped_size k y hy
      simp only [exSize, exsSize, val0, List.length_nil]; omega
theorem I64_0 : I64 0 := by unfold I64; omega
theorem lit_rg {v : Val} (h : I64 v.n) : exRg (litX v) := by rw [litX, exRg, exsRg]; exact ⟨h, trivial⟩

/-- What nodeE makes. -/
theorem nodeE_ok {s : List UInt8} {m : Nat} : ∀ (k : Nat) (l : List Wd) (n : Nat) {x : Ex} {l' : List Wd} {n' : Nat}, AllOk m l → nodeE s k l n = .ok (x, l', n') → shapedN k x = true ∧ exRg x ∧ l' <:+ l
  | 0, l, n, x, l', n', _, h => by
    rw [nodeE] at h
    split at h <;> cases h
  | k + 1, l, n, x, l', n', hl, h => by
    rw [nodeE] at h
    split at h
    · cases h
    split at h
    · cases h
    split at h
    · rename_i hk
      obtain ⟨hm, hk⟩ := hdK_mem hk
      cases h
      have hw := (hl _ hm).nx
      exact ⟨lit_shape rfl, lit_rg hw.n, tail_suf l⟩
    split at h
    · rename_i hk
      obtain ⟨hm, hk⟩ := hdK_mem hk
      cases h
      have hw := (hl _ hm).nx
      refine ⟨lit_shape ?_, lit_rg I64_0, tail_suf l⟩
      rw [valIs, if_neg (show ¬ (2 : Int) = 1 by decide), if_pos rfl, decide_eq_true rfl, hw.text hk]; rfl
    split at h
    · cases h; exact ⟨lit_shape rfl, lit_rg (by unfold I64; decide), tail_suf l⟩
    split at h
    · cases h; exact ⟨lit_shape rfl, lit_rg I64_0, tail_suf l⟩
    split at h
    · rename_i hk
      obtain ⟨hm, hk⟩ := hdK_mem hk
      have hw := (hl _ hm).nx
      obtain ⟨_, l1, n1, h1, h⟩ := thenE_ok h
      obtain ⟨_, rfl, rfl, _⟩ := mustE_ok h1
      obtain ⟨f, l2, n2, h2, h⟩ := thenE_ok h
      obtain ⟨rfl, rfl, rfl, hf⟩ := takeE_ok h2
      obtain ⟨hfm, hfk⟩ := hdK_mem hf
      have hwf := (hl.tail.tail _ hfm).nx
      cases h
      refine ⟨fld_shape (hw.name hk) (hwf.name hfk), ?_, (tail_suf _).trans ((tail_suf _).trans (tail_suf l))⟩
      rw [exRg, exsRg]; exact ⟨I64_0, trivial⟩
    split at h
    · obtain ⟨y, l1, n1, h1, h⟩ := thenE_ok h
      obtain ⟨rfl, rfl, rfl, _⟩ := mustE_ok h
      obtain ⟨a1, a2, a3⟩ := nodeE_ok k _ _ hl.tail.tail h1
      refine ⟨not_shape a1, ?_, (tail_suf _).trans (a3.trans ((tail_suf _).trans (tail_suf l)))⟩
      rw [exRg, exsRg, exsRg]; exact ⟨I64_0, a2, trivial⟩
    · obtain ⟨y, l1, n1, h1, ha⟩ := thenE_ok h
      obtain ⟨a1, a2, a3⟩ := nodeE_ok k _ _ hl.tail h1
      obtain ⟨o, l2, n2, h2, hb⟩ := thenE_ok ha
      obtain ⟨ho, e1, e2, ho0⟩ := osE_ok h2
      obtain ⟨z, l3, n3, h3, hc⟩ := thenE_ok hb
      rw [e1, e2] at h3
      have hs1 : l1 <:+ l := a3.trans (tail_suf l)
      obtain ⟨b1, b2, b3⟩ := nodeE_ok k _ _ (hl.suf hs1).tail h3
      obtain ⟨e3, e4, e5, _⟩ := mustE_ok hc
      have hr := osW_range (l1.headD wd0)
      rw [← ho] at hr
      have hr := hr.resolve_left ho0
      rw [e3, e4]
      refine ⟨two_shape hr.1 hr.2 a1 b1, ?_, (tail_suf _).trans (b3.trans ((tail_suf _).trans hs1))⟩
      rw [exRg, exsRg, exsRg, exsRg]; exact ⟨I64_0, a2, b2, trivial⟩
end Go.Sv
/- What is parsed is bounded. -/
namespace Go.Sv
open Go Go.Proofs

theorem suf_len {l l' : List Wd} (h : l' <:+ l) : l'.length ≤ l.length := h.length_le
theorem tail_len {l : List Wd} {kind : Nat} {t : List UInt8} (h : hdT kind t l = true) : l.tail.length + 1 = l.length := by
  cases l with
  | nil => cases h
  | cons w l => rfl
theorem tail_lenK {l : List Wd} {kind : Nat} (h : hdK kind l = true) : l.tail.length + 1 = l.length := by
  cases l with
  | nil => cases h
  | cons w l => rfl
theorem optT_suf {kind : Nat} {t : List UInt8} (l : List Wd) : optT kind t l <:+ l := by
  unfold optT
  split
  · exact tail_suf l
  · exact List.suffix_refl l

theorem typesE_ok {m : Nat} : ∀ (k : Nat) (acc : List (List UInt8)) (l : List Wd) (n : Nat) {ty : List (List UInt8)} {l' : List Wd} {n' : Nat}, AllOk m l → (∀ t ∈ acc, isNm t = true) → typesE k acc l n = .ok (ty, l', n') →
    (∀ t ∈ ty, isNm t = true) ∧ ty.length + l'.length ≤ acc.length + l.length ∧ l' <:+ l
  | 0, acc, l, n, ty, l', n', _, ha, h => by
    cases h; exact ⟨ha, Nat.le_refl _, List.suffix_refl _⟩
  | k + 1, acc, l, n, ty, l', n', hl, ha, h => by
    rw [typesE] at h
    split at h
    · rename_i hb
      have h0 := tail_len hb
      obtain ⟨w, l1, n1, h1, hq1⟩ := thenE_ok h
      obtain ⟨rfl, rfl, rfl, hk⟩ := takeE_ok h1
      have h2 := tail_lenK hk
      obtain ⟨hm, hk⟩ := hdK_mem hk
      have hw := (hl.tail _ hm).nx.name hk
      obtain ⟨a1, a2, a3⟩ := typesE_ok k _ _ _ hl.tail.tail (fun t ht => by
        rcases List.mem_append.1 ht with ht | ht
        · exact ha t ht
        · rw [List.mem_singleton.1 ht]; exact hw) hq1
      refine ⟨a1, ?_, a3.trans ((tail_suf _).trans (tail_suf l))⟩
      rw [List.length_append, List.length_singleton] at a2
      omega
    · cases h; exact ⟨ha, Nat.le_refl _, List.suffix_refl _⟩
theorem condE_ok {s : List UInt8} {m : Nat} {l : List Wd} {n : Nat} {x : Ex} {l' : List Wd} {n' : Nat} (hl : AllOk m l) (h : condE s l n = .ok (x, l', n')) : (x = ex0 ∨ shapedN 5 x = true) ∧ exRg x ∧ exSize x ≤ 2 ^ 16 ∧ l' <:+ l := by
  unfold condE at h
  split at h
  · obtain ⟨y, l1, n1, h1, hq2⟩ := thenE_ok h
    obtain ⟨rfl, rfl, rfl, _⟩ := mustE_ok hq2
    obtain ⟨a1, a2, a3⟩ := nodeE_ok 5 _ _ hl.tail h1
    exact ⟨.inr a1, a2, shaped_size 5 _ a1, (tail_suf _).trans (a3.trans (tail_suf l))⟩
  · cases h
    refine ⟨.inl rfl, ?_, by decide, List.suffix_refl _⟩
    rw [ex0, exRg, exsRg]; exact ⟨I64_0, trivial⟩
theorem nm_sum : ∀ l : List (List UInt8), (∀ t ∈ l, isNm t = true) → (l.map fun s => s.length + 1).sum ≤ 9 * l.length
  | [], _ => by simp
  | x :: l, h => by
    have h1 := nm_sum l fun t ht => h t (by simp [ht])
    have h2 := (isNm_all (h x (by simp))).2.2
    simp only [List.map_cons, List.sum_cons, List.length_cons]; omega
structure ElFit (e : El) (k : Nat) : Prop where
  al : isNm e.al = true
  ty : ∀ t ∈ e.ty, isNm t = true
  tyn : 1 ≤ e.ty.length
  tyk : e.ty.length ≤ k
  cond : e.cond = ex0 ∨ shapedN 5 e.cond = true
  rg : exRg e.cond
  size : exSize e.cond ≤ 2 ^ 16
theorem ElFit.bd {e : El} {k : Nat} (h : ElFit e k) (hk : k ≤ 500) : elSize e ≤ 2 ^ 17 := by
  have h1 := nm_sum e.ty h.ty
  have h2 := (isNm_all h.al).2.2
  have h3 := h.tyk
  have h4 := h.size
  unfold elSize
  omega
theorem elemE_ok {s : List UInt8} {m : Nat} {l : List Wd} {n : Nat} {e : El} {l' : List Wd} {n' : Nat} (hl : AllOk m l) (h : elemE s l n = .ok (e, l', n')) : ElFit e l.length ∧ l' <:+ l ∧ l'.length + 3 ≤ l.length := by
  unfold elemE at h
  have s0 := optT_suf (kind := 5) (t := [33]) l
  have hl0 := hl.suf s0
  obtain ⟨a, l1, n1, h1, hq3⟩ := thenE_ok h
  obtain ⟨rfl, rfl, rfl, ka⟩ := takeE_ok h1
  have c1 := tail_lenK ka
  obtain ⟨ma, ka⟩ := hdK_mem ka
  obtain ⟨_, l2, n2, h2, hq4⟩ := thenE_ok hq3
  obtain ⟨_, rfl, rfl, kb⟩ := mustE_ok h2
  have c2 := tail_len kb
  obtain ⟨t, l3, n3, h3, hq5⟩ := thenE_ok hq4
  obtain ⟨rfl, rfl, rfl, kt⟩ := takeE_ok h3
  have c3 := tail_lenK kt
  obtain ⟨mt, kt⟩ := hdK_mem kt
  obtain ⟨ty, l4, n4, h4, hq6⟩ := thenE_ok hq5
  obtain ⟨b1, b2, b3⟩ := typesE_ok _ _ _ _ hl0.tail.tail.tail (fun u hu => by
    rw [List.mem_singleton.1 hu]; exact (hl0.tail.tail _ mt).nx.name kt) h4
  have b4 : 1 ≤ ty.length := by
    have key : ∀ (k : Nat) (acc : List (List UInt8)) (l : List Wd) (n : Nat) {ty : List (List UInt8)} {l' : List Wd} {n' : Nat}, typesE k acc l n = .ok (ty, l', n') → acc.length ≤ ty.length := by
      intro k
      induction k with
      | zero => intro acc l n ty l' n' hq6; cases hq6; exact Nat.le_refl _
      | succ k ih =>
        intro acc l n ty l' n' hq6
        rw [typesE] at hq6
        split at hq6
        · obtain ⟨w, l1, n1, _, hq7⟩ := thenE_ok hq6
          have := ih _ _ _ hq7
          rw [List.length_append, List.length_singleton] at this; omega
        · cases hq6; exact Nat.le_refl _
    exact key _ _ _ _ h4
  obtain ⟨x, l5, n5, h5, hq8⟩ := thenE_ok hq6
  have s4 := b3.trans ((tail_suf _).trans ((tail_suf _).trans ((tail_suf _).trans s0)))
  obtain ⟨d1, d2, d3, d4⟩ := condE_ok (hl.suf ((optT_suf l4).trans s4)) h5
  cases hq8
  have e0 := suf_len s0
  have e1 := suf_len (d4.trans (optT_suf l4))
  rw [List.length_singleton] at b2
  refine ⟨⟨(hl0 _ ma).nx.name ka, b1, b4, by show ty.length ≤ _; omega, d1, d2, d3⟩, d4.trans ((optT_suf l4).trans s4), by omega⟩
theorem elemsE_ok {s : List UInt8} {m K : Nat} : ∀ (k : Nat) (acc : List El) (l : List Wd) (n : Nat) {es : List El} {l' : List Wd} {n' : Nat}, AllOk m l → l.length ≤ K → (∀ e ∈ acc, ElFit e K) → elemsE s k acc l n = .ok (es, l', n') →
    (∀ e ∈ es, ElFit e K) ∧ es.length + l'.length ≤ acc.length + l.length ∧ l' <:+ l
  | 0, acc, l, n, es, l', n', _, _, ha, h => by
    cases h; exact ⟨ha, Nat.le_refl _, List.suffix_refl _⟩
  | k + 1, acc, l, n, es, l', n', hl, hK, ha, h => by
    rw [elemsE] at h
    split at h
    · rename_i hb
      have h0 := tail_len hb
      obtain ⟨e, l1, n1, h1, hq9⟩ := thenE_ok h
      obtain ⟨a1, a2, a3⟩ := elemE_ok hl.tail h1
      have hs := a2.trans (tail_suf l)
      obtain ⟨b1, b2, b3⟩ := elemsE_ok (K := K) k _ _ _ (hl.suf hs) (by have := suf_len hs; omega) (fun f hf => by
        rcases List.mem_append.1 hf with hf | hf
        · exact ha f hf
        · rw [List.mem_singleton.1 hf]
          exact { a1 with tyk := Nat.le_trans a1.tyk (by omega) }) hq9
      refine ⟨b1, ?_, b3.trans hs⟩
      rw [List.length_append, List.length_singleton] at b2
      omega
    · cases h; exact ⟨ha, Nat.le_refl _, List.suffix_refl _⟩
theorem sum_le_mul {α : Type} {f : α → Nat} {B : Nat} : ∀ l : List α, (∀ a ∈ l, f a ≤ B) → (l.map f).sum ≤ l.length * B
  | [], _ => by simp
  | x :: l, h => by
    have h1 := sum_le_mul l fun a ha => h a (by simp [ha])
    have h2 := h x (by simp)
    simp only [List.map_cons, List.sum_cons, List.length_cons, Nat.add_mul]; omega
theorem patE_ok {s : List UInt8} {m : Nat} {l : List Wd} {n : Nat} {p : Pa} {l' : List Wd} {n' : Nat} (hl : AllOk m l) (hlen : l.length ≤ 500) (h : patE s l n = .ok (p, l', n')) : PaBd p ∧ (∀ e ∈ p.els, ElFit e 500) ∧ p.els.length ≤ 500 ∧ l' <:+ l := by
  unfold patE at h
  obtain ⟨_, l1, n1, h1, hq10⟩ := thenE_ok h
  obtain ⟨_, rfl, rfl, _⟩ := mustE_ok h1
  obtain ⟨_, l2, n2, h2, hq11⟩ := thenE_ok hq10
  obtain ⟨_, rfl, rfl, _⟩ := mustE_ok h2
  obtain ⟨e, l3, n3, h3, hq12⟩ := thenE_ok hq11
  have s2 := (tail_suf l.tail).trans (tail_suf l)
  have c2 := suf_len s2
  obtain ⟨a1, a2, a3⟩ := elemE_ok hl.tail.tail h3
  have s3 := a2.trans s2
  have c3 := suf_len s3
  obtain ⟨es, l4, n4, h4, hq13⟩ := thenE_ok hq12
  obtain ⟨b1, b2, b3⟩ := elemsE_ok (K := 500) _ _ _ _ (hl.suf s3) (by omega) (fun f hf => by
    rw [List.mem_singleton.1 hf]
    exact { a1 with tyk := Nat.le_trans a1.tyk (by omega) }) h4
  have s4 := b3.trans s3
  obtain ⟨_, l5, n5, h5, hq14⟩ := thenE_ok hq13
  obtain ⟨_, rfl, rfl, _⟩ := mustE_ok h5
  obtain ⟨_, l6, n6, h6, hq15⟩ := thenE_ok hq14
  obtain ⟨_, rfl, rfl, _⟩ := mustE_ok h6
  obtain ⟨w, l7, n7, h7, hq16⟩ := thenE_ok hq15
  have s6 := (tail_suf l4.tail).trans ((tail_suf l4).trans s4)
  have hw : (0 ≤ w ∧ w ≤ 1000) ∧ l7 = l4.tail.tail.tail := by
    unfold withinE at h7
    split at h7
    · rename_i hh
      rw [Bool.and_eq_true, Bool.and_eq_true, Bool.and_eq_true] at hh
      cases h7
      exact ⟨⟨of_decide_eq_true hh.2.2.1, of_decide_eq_true hh.2.2.2⟩, rfl⟩
    · cases h7
  obtain ⟨hw, rfl⟩ := hw
  obtain ⟨b, l8, n8, h8, hq17⟩ := thenE_ok hq16
  have s7 := (tail_suf l4.tail.tail).trans s6
  have hb : b.length ≤ 8 ∧ l8 <:+ l4.tail.tail.tail := by
    unfold byE at h8
    split at h8
    · obtain ⟨w, l9, n9, h9, hq8⟩ := thenE_ok h8
      obtain ⟨rfl, rfl, rfl, kw⟩ := takeE_ok h9
      obtain ⟨mw, kw⟩ := hdK_mem kw
      have hw := ((hl.suf s7).tail _ mw).nx.name kw
      cases hq8
      exact ⟨(isNm_all hw).2.2, (tail_suf _).trans (tail_suf _)⟩
    · cases h8; exact ⟨by simp, List.suffix_refl _⟩
  cases hq17
  rw [List.length_singleton] at b2
  have hn : es.length ≤ 500 := by
    have := suf_len a2
    have := a3
    omega
  refine ⟨paBd_of ?_ (fun f hf => (b1 f hf).rg) (show I64 w from ⟨by omega, by omega⟩), b1, hn, (optT_suf l8).trans (hb.2.trans s7)⟩
  have h9 := sum_le_mul (f := elSize) (B := 2 ^ 17) es fun f hf => (b1 f hf).bd (Nat.le_refl _)
  have h10 : es.length * 2 ^ 17 ≤ 500 * 2 ^ 17 := Nat.mul_le_mul_right _ hn
  unfold paSize
  show b.length + (es.map elSize).sum ≤ _
  omega
end Go.Sv
/- The program's parser: numbers as show writes them; what begins a node; literals. -/
namespace Go.Sv
open Go Go.Proofs

theorem dg_iff (c : UInt8) : isDg c = (decide ((c.toNat : Int) ≥ 48) && decide ((c.toNat : Int) ≤ 57)) := by
  rw [isDg, decide_eq_decide.2 (show 48 ≤ c.toNat ↔ (c.toNat : Int) ≥ 48 by omega), decide_eq_decide.2 (show c.toNat ≤ 57 ↔ (c.toNat : Int) ≤ 57 by omega)]

set_option maxRecDepth 100000 in
theorem more_call (s : List UInt8) : PCall Tryz.prog 74 [str s] (bV (hdDg s)) := by
  refine scall_of (live := []) (ords := []) Tryz.func74 rfl (by kernel_rfl) (by kernel_rfl) (Nat.le_of_ble_eq_true rfl) ?_
  cases s with
  | nil =>
    (conv => arg 2; whnf); refine wp_ite (fun h => ?no) (fun _ => ?_)
    case no => have := (nilS_ne (l := ([] : List UInt8))).symm.trans h; cases this
    (repeat ((conv => arg 2; whnf); first | refine wp_ite (fun _ => ?_) (fun h => Bool.noConfusion h) | refine wp_ite (fun h => Bool.noConfusion h) (fun _ => ?_)))
    (conv => arg 2; whnf); refine w_retp rfl (.refl _)
  | cons c r =>
    have hne : (!((S (c :: r)).toList == (⟨#[]⟩ : ByteArray).toList)) = true := nilS_ne
    have hb : byteAt (S (c :: r)) (Int.toNat 0) = c := byte_at (s := c :: r) (i := 0) rfl
    have hd : hdDg (c :: r) = (decide ((c.toNat : Int) ≥ 48) && decide ((c.toNat : Int) ≤ 57)) := dg_iff c
    (conv => arg 2; whnf); refine wp_ite (fun _ => ?_) (fun h => Bool.noConfusion (hne.symm.trans h))
    (conv => arg 2; whnf); refine wp_need (by rw [S_size, List.length_cons]; omega) ?_
    rw [hb]
    (conv => arg 2; whnf); refine wp_ite (fun h1 => ?_) (fun h1 => ?_)
    · (conv => arg 2; whnf); refine wp_need (by rw [S_size, List.length_cons]; omega) ?_
      rw [hb]
      (conv => arg 2; whnf); refine w_retp rfl (Vle.eq (cBool ?_))
      rw [hd, h1]; rfl
    · (repeat ((conv => arg 2; whnf); first | refine wp_ite (fun _ => ?_) (fun h => Bool.noConfusion h) | refine wp_ite (fun h => Bool.noConfusion h) (fun _ => ?_)))
      (conv => arg 2; whnf); refine w_retp rfl (Vle.eq (cBool ?_))
      rw [hd, h1]; rfl

theorem isP_none {l : List Wd} {e : Option Nat} {kind : Nat} {t : List UInt8} (h : isP l e kind t = true) : e = none := by
  unfold isP at h
  rw [Bool.and_eq_true] at h
  exact of_decide_eq_true h.1
def plainP (s : List UInt8) (l : List Wd) (e : Option Nat) : Bool := isP l e 2 [] && plainW s (l.headD wd0)

set_option maxRecDepth 100000 in
theorem plain_call2 (b : Nat) (s : List UInt8) (l : List Wd) (e : Option Nat) (n : Nat) (_ : s.length < 2 ^ 40) (hl : e = none → AllOk s.length l) : SCall Tryz.prog 44 [.loc b 0] [.obj b (prL s l e n)] fun v R' => v = bV (plainP s l e) ∧ R' = [.obj b (prL s l e n)] := by
  refine scall_of (live := [11, 15]) (ords := [(4, [])]) Tryz.func44 rfl (by kernel_rfl) (by kernel_rfl) (Nat.le_of_ble_eq_true rfl) ?_
  (conv => arg 2; whnf); refine wp_call (pis_call b s l e n 2 []) ?_
  rintro v R1 ⟨rfl, rfl⟩
  (conv => arg 2; whnf); refine wp_ite (fun h1 => ?_) (fun h1 => ?_)
  · have h1 : isP l e 2 [] = false := by simpa using h1
    (conv => arg 2; whnf); refine w_ret1 rfl (Vle.refl _) (List.Sublist.refl _) ⟨cBool (by rw [plainP, h1]; rfl), rfl⟩
  · have h1 : isP l e 2 [] = true := by simpa using h1
    obtain ⟨w, r, rfl⟩ := isP_cons h1
    have hw := hl (isP_none h1) w (by simp)
    have hat := hw.at_
    have hn := hw.nx.n
    have fv := showvalue_call ⟨1, w.n, []⟩ ⟨by simp, hn.1, hn.2⟩
    rw [showV_1 rfl rfl, ← decF_eq w.n hn.1 hn.2] at fv
    have hx : (S s).extract (Int.toNat (w.at_ : Int)) (Int.toNat ((S s).size : Int)) = S (s.drop w.at_) := by
      rw [S_extract, S_size, Int.toNat_natCast, Int.toNat_natCast, List.take_length]
    (conv => arg 2; whnf); refine wp_load (cs := prL s (w :: r) e n) 0 rfl rfl ?_
    (conv => arg 2; whnf); refine wp_load (cs := prL s (w :: r) e n) 0 rfl rfl ?_
    (conv => arg 2; whnf); refine wp_elem 0 (wdV w) rfl rfl (Vle.refl _) ?_
    (conv => arg 2; whnf); refine wp_need (by rw [S_size]; omega) ?_
    (conv => arg 2; whnf); refine wp_cutR (frL [(0, .loc b 0), (3, str (s.drop w.at_))]) [.obj b (prL s (w :: r) e n)] (.cons (.refl _) (.cons (Vle.eq (congrArg (fun z => V.c (.string z)) hx)) (.nil _))) (List.Sublist.refl _) ?_
    (conv => arg 2; whnf); refine wp_load (cs := prL s (w :: r) e n) 0 rfl rfl ?_
    (conv => arg 2; whnf); refine wp_elem 0 (wdV w) rfl rfl (Vle.refl _) ?_
    (conv => arg 2; whnf); refine wp_pcall fv ?_
    (conv => arg 2; whnf); refine wp_pcall (hasprefix_call (s.drop w.at_) (decF w.n)) ?_
    have hp : plainP s (w :: r) e = plainW s w := by rw [plainP, h1]; rfl
    (conv => arg 2; whnf); refine wp_ite (fun h2 => ?_) (fun h2 => ?_)
    · have h2 : (decF w.n).isPrefixOf (s.drop w.at_) = true := h2
      have hlen := List.IsPrefix.length_le (List.isPrefixOf_iff_prefix.1 h2)
      have hx2 : (S (s.drop w.at_)).extract (Int.toNat ((S (decF w.n)).size : Int)) ((S (s.drop w.at_)).size) = S ((s.drop w.at_).drop (decF w.n).length) := by
        rw [S_extract, S_size, S_size, Int.toNat_natCast, List.take_length]
      (conv => arg 2; whnf); refine wp_need (by rw [S_size, S_size]; omega) ?_
      (conv => arg 2; whnf); refine wp_pcallV (.cons (Vle.eq (congrArg (fun z => V.c (.string z)) hx2)) .nil) (more_call _) ?_
      (conv => arg 2; whnf); refine w_ret1 rfl (Vle.refl _) (List.Sublist.refl _) ⟨cBool (by rw [hp, plainW, h2]; rfl), rfl⟩
    · have h2 : (decF w.n).isPrefixOf (s.drop w.at_) = false := h2
      (repeat ((conv => arg 2; whnf); first | refine wp_ite (fun _ => ?_) (fun h => Bool.noConfusion h) | refine wp_ite (fun h => Bool.noConfusion h) (fun _ => ?_)))
      (conv => arg 2; whnf); refine w_ret1 rfl (Vle.refl _) (List.Sublist.refl _) ⟨cBool (by rw [hp, plainW, h2]; rfl), rfl⟩

def beginsP (s : List UInt8) (l : List Wd) (e : Option Nat) : Bool := decide (e = none) && beginsW s l
theorem isP_hdK {l : List Wd} {kind : Nat} : isP l none kind [] = hdK kind l := rfl
theorem isP_hdT {l : List Wd} {kind : Nat} {t : List UInt8} (h : t ≠ []) : isP l none kind t = hdT kind t l := by
  unfold isP; rw [if_neg h]; rfl
theorem plainP_none {s : List UInt8} {l : List Wd} : plainP s l none = (hdK 2 l && plainW s (l.headD wd0)) := rfl
theorem plainP_some {s : List UInt8} {l : List Wd} {k : Nat} : plainP s l (some k) = false := rfl

set_option maxRecDepth 100000 in
theorem begins_call (b : Nat) (s : List UInt8) (l : List Wd) (e : Option Nat) (n : Nat) (hs : s.length < 2 ^ 40) (hl : e = none → AllOk s.length l) : SCall Tryz.prog 57 [.loc b 0] [.obj b (prL s l e n)] fun v R' => v = bV (beginsP s l e) ∧ R' = [.obj b (prL s l e n)] := by
  have c0 := plain_call2 b s l e n hs hl
  have c1 := pis_call b s l e n 3 []
  have c2 := pis_call b s l e n 1 []
  have c3 := pis_call b s l e n 4 trueL
  have c4 := pis_call b s l e n 4 falseL
  have c5 := pis_call b s l e n 5 [40]
  have hv : beginsP s l e = (plainP s l e || (isP l e 3 [] || (isP l e 1 [] || (isP l e 4 trueL || (isP l e 4 falseL || isP l e 5 [40]))))) := by
    cases e with
    | none => rw [plainP_none, isP_hdK, isP_hdK, isP_hdT (by decide), isP_hdT (by decide), isP_hdT (by decide)]; rfl
    | some k => rfl
  rw [hv]
  generalize plainP s l e = a0 at *
  generalize isP l e 3 [] = a1 at *
  generalize isP l e 1 [] = a2 at *
  generalize isP l e 4 trueL = a3 at *
  generalize isP l e 4 falseL = a4 at *
  generalize isP l e 5 [40] = a5 at *
  refine scall_of (live := []) (ords := []) Tryz.func57 rfl (by kernel_rfl) (by kernel_rfl) (Nat.le_of_ble_eq_true rfl) ?_
  (conv => arg 2; whnf); refine wp_call c0 ?_
  rintro v R1 ⟨rfl, rfl⟩
  cases a0 with
  | true =>
    (repeat ((conv => arg 2; whnf); first | refine wp_ite (fun _ => ?_) (fun h => Bool.noConfusion h) | refine wp_ite (fun h => Bool.noConfusion h) (fun _ => ?_)))
    (conv => arg 2; whnf); refine w_ret1 rfl (Vle.refl _) (List.Sublist.refl _) ⟨rfl, rfl⟩
  | false =>
    (repeat ((conv => arg 2; whnf); first | refine wp_ite (fun _ => ?_) (fun h => Bool.noConfusion h) | refine wp_ite (fun h => Bool.noConfusion h) (fun _ => ?_)))
    (conv => arg 2; whnf); refine wp_call c1 ?_
    rintro v R1 ⟨rfl, rfl⟩
    cases a1 with
    | true =>
      (repeat ((conv => arg 2; whnf); first | refine wp_ite (fun _ => ?_) (fun h => Bool.noConfusion h) | refine wp_ite (fun h => Bool.noConfusion h) (fun _ => ?_)))
      (conv => arg 2; whnf); refine w_ret1 rfl (Vle.refl _) (List.Sublist.refl _) ⟨rfl, rfl⟩
    | false =>
      (repeat ((conv => arg 2; whnf); first | refine wp_ite (fun _ => ?_) (fun h => Bool.noConfusion h) | refine wp_ite (fun h => Bool.noConfusion h) (fun _ => ?_)))
      (conv => arg 2; whnf); refine wp_call c2 ?_
      rintro v R1 ⟨rfl, rfl⟩
      cases a2 with
      | true =>
        (repeat ((conv => arg 2; whnf); first | refine wp_ite (fun _ => ?_) (fun h => Bool.noConfusion h) | refine wp_ite (fun h => Bool.noConfusion h) (fun _ => ?_)))
        (conv => arg 2; whnf); refine w_ret1 rfl (Vle.refl _) (List.Sublist.refl _) ⟨rfl, rfl⟩
      | false =>
        (repeat ((conv => arg 2; whnf); first | refine wp_ite (fun _ => ?_) (fun h => Bool.noConfusion h) | refine wp_ite (fun h => Bool.noConfusion h) (fun _ => ?_)))
        (conv => arg 2; whnf); refine wp_call c3 ?_
        rintro v R1 ⟨rfl, rfl⟩
        cases a3 with
        | true =>
          (repeat ((conv => arg 2; whnf); first | refine wp_ite (fun _ => ?_) (fun h => Bool.noConfusion h) | refine wp_ite (fun h => Bool.noConfusion h) (fun _ => ?_)))
          (conv => arg 2; whnf); refine w_ret1 rfl (Vle.refl _) (List.Sublist.refl _) ⟨rfl, rfl⟩
        | false =>
          (repeat ((conv => arg 2; whnf); first | refine wp_ite (fun _ => ?_) (fun h => Bool.noConfusion h) | refine wp_ite (fun h => Bool.noConfusion h) (fun _ => ?_)))
          (conv => arg 2; whnf); refine wp_call c4 ?_
          rintro v R1 ⟨rfl, rfl⟩
          cases a4 with
          | true =>
            (repeat ((conv => arg 2; whnf); first | refine wp_ite (fun _ => ?_) (fun h => Bool.noConfusion h) | refine wp_ite (fun h => Bool.noConfusion h) (fun _ => ?_)))
            (conv => arg 2; whnf); refine w_ret1 rfl (Vle.refl _) (List.Sublist.refl _) ⟨rfl, rfl⟩
          | false =>
            (repeat ((conv => arg 2; whnf); first | refine wp_ite (fun _ => ?_) (fun h => Bool.noConfusion h) | refine wp_ite (fun h => Bool.noConfusion h) (fun _ => ?_)))
            (conv => arg 2; whnf); refine wp_call c5 ?_
            rintro v R1 ⟨rfl, rfl⟩
            (conv => arg 2; whnf); refine w_ret1 rfl (Vle.refl _) (List.Sublist.refl _) ⟨rfl, rfl⟩
end Go.Sv
/- The program's parser: literals, signs between two kids, the end. -/
namespace Go.Sv
open Go Go.Proofs

/-- Two results, the first in a cell. -/
theorem w_ret2ck {P : Program} {R : List Res} {fn : Func} {K : V → List Res → Prop} {fr : Fr} {x y : Tmp} {ty : TypeId} {cs : List V} {v a u : V} {sh : Option Nat} {R' : List Res} (bl off i : Nat) (h : fn.results.toList = [.cell x ty, .tmp y]) (hx : fr x = .loc bl off) (hsh : shapeOf P ty = some sh)
    (hR : R[i]? = some (.obj bl cs)) (hp : partOf sh cs off = some v) (ha : Vle v a) (hy : Vle (fr y) u) (hs : R'.Sublist R) (hK : K (.tup [a, u]) R') : (Tree.leaf .ret fr).wp P R (Ends P fn K) :=
  ⟨.inr rfl, [v, fr y], .tup [a, u], R', by rw [h]; exact ⟨bl, off, sh, i, cs, v, _, hx, hsh, hR, hp, rfl, _, rfl, rfl⟩, UpdV.vle (Vle.tup (.cons ha (.cons hy .nil))) hs, hK⟩

def litP (l : List Wd) : Option Val :=
  if hdK 2 l then some ⟨1, (l.headD wd0).n, []⟩ else if hdK 3 l then some ⟨2, 0, (l.headD wd0).text⟩
  else if hdT 4 trueL l then some ⟨3, 1, []⟩ else if hdT 4 falseL l then some ⟨3, 0, []⟩ else none
theorem lit_vle (v : Val) : VleL [i64V 1, i64V v.kind, i64V v.n, str v.s, str [], str [], .sl none [] .zero] (exC (litX v)) :=
  .cons (.refl _) (.cons (.refl _) (.cons (.refl _) (.cons (.refl _) (.cons (.refl _) (.cons (.refl _) (.cons (Vle.nil _ _ _) .nil))))))
theorem ex0_vle : VleL [i64V 0, i64V 0, i64V 0, str [], str [], str [], .sl none [] .zero] (exC ex0) :=
  .cons (.refl _) (.cons (.refl _) (.cons (.refl _) (.cons (.refl _) (.cons (.refl _) (.cons (.refl _) (.cons (Vle.nil _ _ _) .nil))))))

set_option maxRecDepth 100000 in
theorem literal_call (b : Nat) (s : List UInt8) (l : List Wd) (n : Nat) : SCall Tryz.prog 58 [.loc b 0] [.obj b (prL s l none n)] fun v R' =>
    (∃ x, litP l = some x ∧ v = .tup [.agg (exC (litX x)), bV true] ∧ R' = [.obj b (prL s l.tail none n)]) ∨ (litP l = none ∧ v = .tup [.agg (exC ex0), bV false] ∧ R' = [.obj b (prL s l none n)]) := by
  refine scall_of (live := []) (ords := []) Tryz.func58 rfl (by kernel_rfl) (by kernel_rfl) (Nat.le_of_ble_eq_true rfl) ?_
  (conv => arg 2; whnf); refine wp_allocE exZ rfl fun c => ?_
  (conv => arg 2; whnf); refine wp_callF [] [.obj b (prL s l none n)] [.obj c exZ] rfl (pis_call b s l none n 2 []) ?_
  rintro v R1 ⟨rfl, rfl⟩
  (conv => arg 2; whnf); refine wp_ite (fun h1 => ?_) (fun h1 => ?_)
  · have h1 : hdK 2 l = true := h1
    have e1 : litP l = some ⟨1, (l.headD wd0).n, []⟩ := by rw [litP, if_pos h1]
    (conv => arg 2; whnf); refine wp_callF [] [.obj b (prL s l none n)] [.obj c exZ] rfl (take_call b s l none n 2) ?_
    rintro v R1 (⟨_, rfl, rfl⟩ | ⟨h, _, _⟩)
    · (conv => arg 2; whnf); refine wp_storeE (cs := exZ) 1 0 (exC (litX ⟨1, (l.headD wd0).n, []⟩)) rfl rfl (lit_vle ⟨1, (l.headD wd0).n, []⟩) (Nat.le_refl _) rfl (R' := [.obj b (prL s l.tail none n), .obj c (exC (litX ⟨1, (l.headD wd0).n, []⟩))]) rfl ?_
      (conv => arg 2; whnf); refine w_ret2ck (R' := [.obj b (prL s l.tail none n)]) c 0 1 rfl rfl rfl rfl rfl (Vle.refl _) (Vle.refl _) (by simp) (.inl ⟨_, e1, rfl, rfl⟩)
    · exact absurd (h.symm.trans h1) (by decide)
  have h1 : hdK 2 l = false := h1
  have n1 : ¬ hdK 2 l = true := by rw [h1]; decide
  (conv => arg 2; whnf); refine wp_callF [] [.obj b (prL s l none n)] [.obj c exZ] rfl (pis_call b s l none n 3 []) ?_
  rintro v R1 ⟨rfl, rfl⟩
  (conv => arg 2; whnf); refine wp_ite (fun h2 => ?_) (fun h2 => ?_)
  · have h2 : hdK 3 l = true := h2
    have e1 : litP l = some ⟨2, 0, (l.headD wd0).text⟩ := by rw [litP, if_neg n1, if_pos h2]
    (conv => arg 2; whnf); refine wp_callF [] [.obj b (prL s l none n)] [.obj c exZ] rfl (take_call b s l none n 3) ?_
    rintro v R1 (⟨_, rfl, rfl⟩ | ⟨h, _, _⟩)
    · (conv => arg 2; whnf); refine wp_storeE (cs := exZ) 1 0 (exC (litX ⟨2, 0, (l.headD wd0).text⟩)) rfl rfl (lit_vle ⟨2, 0, (l.headD wd0).text⟩) (Nat.le_refl _) rfl (R' := [.obj b (prL s l.tail none n), .obj c (exC (litX ⟨2, 0, (l.headD wd0).text⟩))]) rfl ?_
      (conv => arg 2; whnf); refine w_ret2ck (R' := [.obj b (prL s l.tail none n)]) c 0 1 rfl rfl rfl rfl rfl (Vle.refl _) (Vle.refl _) (by simp) (.inl ⟨_, e1, rfl, rfl⟩)
    · exact absurd (h.symm.trans h2) (by decide)
  have h2 : hdK 3 l = false := h2
  have n2 : ¬ hdK 3 l = true := by rw [h2]; decide
  (conv => arg 2; whnf); refine wp_callF [] [.obj b (prL s l none n)] [.obj c exZ] rfl (may_call b s l none n 4 trueL) ?_
  rintro v R1 (⟨h3, rfl, rfl⟩ | ⟨h3, rfl, rfl⟩)
  · rw [isP_hdT (by decide)] at h3
    have e1 : litP l = some ⟨3, 1, []⟩ := by rw [litP, if_neg n1, if_neg n2, if_pos h3]
    (repeat ((conv => arg 2; whnf); first | refine wp_ite (fun _ => ?_) (fun h => Bool.noConfusion h) | refine wp_ite (fun h => Bool.noConfusion h) (fun _ => ?_)))
    (conv => arg 2; whnf); refine wp_storeE (cs := exZ) 1 0 (exC (litX ⟨3, 1, []⟩)) rfl rfl (lit_vle ⟨3, 1, []⟩) (Nat.le_refl _) rfl (R' := [.obj b (prL s l.tail none n), .obj c (exC (litX ⟨3, 1, []⟩))]) rfl ?_
    (conv => arg 2; whnf); refine w_ret2ck (R' := [.obj b (prL s l.tail none n)]) c 0 1 rfl rfl rfl rfl rfl (Vle.refl _) (Vle.refl _) (by simp) (.inl ⟨_, e1, rfl, rfl⟩)
  rw [isP_hdT (by decide)] at h3
  have n3 : ¬ hdT 4 trueL l = true := by rw [h3]; decide
  (repeat ((conv => arg 2; whnf); first | refine wp_ite (fun _ => ?_) (fun h => Bool.noConfusion h) | refine wp_ite (fun h => Bool.noConfusion h) (fun _ => ?_)))
  (conv => arg 2; whnf); refine wp_callF [] [.obj b (prL s l none n)] [.obj c exZ] rfl (may_call b s l none n 4 falseL) ?_
  rintro v R1 (⟨h4, rfl, rfl⟩ | ⟨h4, rfl, rfl⟩)
  · rw [isP_hdT (by decide)] at h4
    have e1 : litP l = some ⟨3, 0, []⟩ := by rw [litP, if_neg n1, if_neg n2, if_neg n3, if_pos h4]
    (repeat ((conv => arg 2; whnf); first | refine wp_ite (fun _ => ?_) (fun h => Bool.noConfusion h) | refine wp_ite (fun h => Bool.noConfusion h) (fun _ => ?_)))
    (conv => arg 2; whnf); refine wp_storeE (cs := exZ) 1 0 (exC (litX ⟨3, 0, []⟩)) rfl rfl (lit_vle ⟨3, 0, []⟩) (Nat.le_refl _) rfl (R' := [.obj b (prL s l.tail none n), .obj c (exC (litX ⟨3, 0, []⟩))]) rfl ?_
    (conv => arg 2; whnf); refine w_ret2ck (R' := [.obj b (prL s l.tail none n)]) c 0 1 rfl rfl rfl rfl rfl (Vle.refl _) (Vle.refl _) (by simp) (.inl ⟨_, e1, rfl, rfl⟩)
  rw [isP_hdT (by decide)] at h4
  have n4 : ¬ hdT 4 falseL l = true := by rw [h4]; decide
  have e1 : litP l = none := by rw [litP, if_neg n1, if_neg n2, if_neg n3, if_neg n4]
  (repeat ((conv => arg 2; whnf); first | refine wp_ite (fun _ => ?_) (fun h => Bool.noConfusion h) | refine wp_ite (fun h => Bool.noConfusion h) (fun _ => ?_)))
  (conv => arg 2; whnf); refine wp_storeE (cs := exZ) 1 0 (exC ex0) rfl rfl ex0_vle (Nat.le_refl _) rfl (R' := [.obj b (prL s l none n), .obj c (exC ex0)]) rfl ?_
  (conv => arg 2; whnf); refine w_ret2ck (R' := [.obj b (prL s l none n)]) c 0 1 rfl rfl rfl rfl rfl (Vle.refl _) (Vle.refl _) (by simp) (.inr ⟨e1, rfl, rfl⟩)

set_option maxRecDepth 100000 in
theorem ends_call (b : Nat) (s : List UInt8) (l : List Wd) (e : Option Nat) (n : Nat) : SCall Tryz.prog 20 [.loc b 0] [.obj b (prL s l e n)] fun v R' => v = .c (errV (if l = [] then e else failE e 10)) ∧ R' = [.obj b (prL s l (if l = [] then e else failE e 10) n)] := by
  refine scall_of (live := []) (ords := []) Tryz.func20 rfl (by kernel_rfl) (by kernel_rfl) (Nat.le_of_ble_eq_true rfl) ?_
  (conv => arg 2; whnf); refine wp_load (cs := prL s l e n) 0 rfl rfl ?_
  cases l with
  | nil =>
    (repeat ((conv => arg 2; whnf); first | refine wp_ite (fun _ => ?_) (fun h => Bool.noConfusion h) | refine wp_ite (fun h => Bool.noConfusion h) (fun _ => ?_)))
    (conv => arg 2; whnf); refine wp_load (cs := prL s [] e n) 0 rfl rfl ?_
    (conv => arg 2; whnf); refine w_ret1 rfl (Vle.refl _) (List.Sublist.refl _) ⟨rfl, rfl⟩
  | cons w l =>
    have hpos : decide (((((w :: l).map wdV).length : Nat) : Int) > 0) = true := decide_eq_true (by rw [List.length_map, List.length_cons]; omega)
    (conv => arg 2; whnf); refine wp_ite (fun _ => ?_) (fun h => Bool.noConfusion (hpos.symm.trans h))
    (conv => arg 2; whnf); refine wp_call (fails_call b s (w :: l) e n 10) ?_
    rintro v R1 ⟨rfl, rfl⟩
    (conv => arg 2; whnf); refine wp_load (cs := prL s (w :: l) (failE e 10) n) 0 rfl rfl ?_
    (conv => arg 2; whnf); refine w_ret1 rfl (Vle.refl _) (List.Sublist.refl _) ⟨rfl, rfl⟩

set_option maxRecDepth 100000 in
theorem alls_call (l : List (List UInt8)) : PCall Tryz.prog 82 [.sl none (l.map str) .no] (.fn (.func 104) [] [.pt none (.sl none (l.map str) .no) 0]) := by
  refine scall_of (live := []) (ords := []) Tryz.func82 rfl (by kernel_rfl) (by kernel_rfl) (Nat.le_of_ble_eq_true rfl) ?_
  (conv => arg 2; whnf); refine w_retp rfl (Vle.eq ?_)
  rfl
def allsL (l : List (List UInt8)) : List (List V) := (List.range l.length).map fun (i : Nat) => [i64V i, str (l.getD i [])]
theorem alls_at {l : List (List UInt8)} {n : Nat} {x : List UInt8} (h : l[n]? = some x) : (allsL l)[n]? = some [i64V n, str x] := by
  rw [allsL, List.getElem?_map, List.getElem?_range (List.getElem?_eq_some_iff.1 h).1]
  show some [i64V n, str (l.getD n [])] = _
  rw [getDx h]
set_option maxRecDepth 100000 in
theorem alls_iter (l : List (List UInt8)) (hl : l.length < 2 ^ 60) : Iter Tryz.prog 104 [] [.pt none (.sl none (l.map str) .no) 0] (allsL l) := by
  refine ⟨⟨_, _, Tryz.func104, rfl, by kernel_rfl⟩, fun y I E R0 h0 hy => ?_⟩
  refine scall_of (live := []) (ords := []) Tryz.func104 rfl (by kernel_rfl) (by kernel_rfl) (Nat.le_of_ble_eq_true rfl) ?_
  (conv => arg 2; whnf); refine wp_loop (fun m fr R => ∃ n : Nat, m = l.length - n ∧ n ≤ l.length ∧ I n R ∧ fr = frL [(0, .fn (.yield y) [] []), (5, .sl none (l.map str) .no), (6, i64V l.length), (7, i64V n)])
    l.length _ _ (.cons (.refl _) (.cons (.refl _) (.cons (Vle.eq ?_) (.cons (.refl _) (.nil _))))) (List.Sublist.refl _) ⟨0, rfl, Nat.zero_le _, h0, rfl⟩ ?_
  · show V.c (.int .i64 (l.map str).length) = _
    rw [List.length_map]; rfl
  rintro m fr R ⟨n, rfl, hn, hI, rfl⟩
  (conv => arg 2; whnf); refine wp_ite (fun h => ?_) (fun h => ?_)
  · have h : n < l.length := by have := of_decide_eq_true h; omega
    obtain ⟨x, hx⟩ : ∃ x, l[n]? = some x := ⟨_, List.getElem?_eq_getElem h⟩
    (conv => arg 2; whnf); refine wp_elem n (str x) rfl (by rw [List.getElem?_map, hx]; rfl) (Vle.refl _) ?_
    (conv => arg 2; whnf); refine wp_yld (hy _ _ _ (alls_at hx) hI) ?_
    rintro b' R' (⟨rfl, hI2⟩ | ⟨rfl, hE⟩)
    · (repeat ((conv => arg 2; whnf); first | refine wp_ite (fun _ => ?_) (fun h => Bool.noConfusion h) | refine wp_ite (fun h => Bool.noConfusion h) (fun _ => ?_)))
      (conv => arg 2; whnf)
      refine wp_leaf (loop_next (l.length - (n + 1)) _ _ (by omega) (.cons (.refl _) (.cons (.refl _) (.cons (.refl _) (.cons (Vle.inc n rfl (by omega)) (.nil _))))) (List.Sublist.refl _) ⟨n + 1, rfl, by omega, hI2, rfl⟩)
    · (repeat ((conv => arg 2; whnf); first | refine wp_ite (fun _ => ?_) (fun h => Bool.noConfusion h) | refine wp_ite (fun h => Bool.noConfusion h) (fun _ => ?_)))
      (conv => arg 2; whnf)
      refine wp_leaf (loop_ret ?_)
      (conv => arg 2; whnf); refine w_ret0 rfl (List.Sublist.refl _) (.inr hE)
  · have h : n = l.length := by have := of_decide_eq_false h; omega
    subst h
    (conv => arg 2; whnf)
    refine wp_leaf (loop_exit ?_)
    (conv => arg 2; whnf); refine w_norm0 rfl (List.Sublist.refl _) (.inl ?_)
    rw [allsL, List.length_map, List.length_range]; exact hI
end Go.Sv
/- The program's parser: the sign between two kids. -/
namespace Go.Sv
open Go Go.Proofs

def opL : List (List UInt8) := [[43], [45], [42], [61], [33, 61], [60], [60, 61]]
theorem osW_hit {l : List Wd} {i : Nat} {t : List UInt8} (ht : opL[i]? = some t) (h : isP l none 5 t = true) : osW (l.headD wd0) = 3 + (i : Int) := by
  obtain ⟨w, r, rfl⟩ := isP_cons h
  have hne : t ≠ [] := by
    rintro rfl
    have := List.mem_of_getElem? ht
    revert this; decide
  rw [isP_hdT hne, hdT, Bool.and_eq_true] at h
  have hk := of_decide_eq_true h.1
  have hx := of_decide_eq_true h.2
  have hi := (List.getElem?_eq_some_iff.1 ht).1
  show osW w = _
  rw [osW, if_pos hk, hx]
  match i, hi with
  | 0, _ => cases ht; rfl
  | 1, _ => cases ht; rfl
  | 2, _ => cases ht; rfl
  | 3, _ => cases ht; rfl
  | 4, _ => cases ht; rfl
  | 5, _ => cases ht; rfl
  | 6, _ => cases ht; rfl
theorem osW_and {l : List Wd} (h : isP l none 4 andL = true) : osW (l.headD wd0) = 10 := by
  obtain ⟨w, r, rfl⟩ := isP_cons h
  rw [isP_hdT (by decide), hdT, Bool.and_eq_true] at h
  have hk := of_decide_eq_true h.1
  have hx := of_decide_eq_true h.2
  show osW w = _
  rw [osW, if_neg (by omega), if_pos hk, if_pos hx]
theorem osW_or {l : List Wd} (h : isP l none 4 orL = true) : osW (l.headD wd0) = 11 := by
  obtain ⟨w, r, rfl⟩ := isP_cons h
  rw [isP_hdT (by decide), hdT, Bool.and_eq_true] at h
  have hk := of_decide_eq_true h.1
  have hx := of_decide_eq_true h.2
  show osW w = _
  rw [osW, if_neg (by omega), if_pos hk, hx]; rfl
theorem osW_none {l : List Wd} (h : ∀ t ∈ opL, isP l none 5 t = false) (h1 : isP l none 4 andL = false) (h2 : isP l none 4 orL = false) : osW (l.headD wd0) = 0 := by
  cases l with
  | nil => rfl
  | cons w r =>
    show osW w = 0
    rw [isP_hdT (by decide)] at h1 h2
    by_cases h5 : w.kind = 5
    · have key : ∀ t ∈ opL, t ≠ [] → w.text ≠ t := fun t ht hne e => by
        have := h t ht
        rw [isP_hdT hne] at this
        simp only [hdT, decide_eq_true h5, decide_eq_true e] at this
        cases this
      rw [osW, if_pos h5, if_neg (key _ (by decide) (by decide)), if_neg (key _ (by decide) (by decide)), if_neg (key _ (by decide) (by decide)), if_neg (key _ (by decide) (by decide)), if_neg (key _ (by decide) (by decide)), if_neg (key _ (by decide) (by decide)), if_neg (key _ (by decide) (by decide))]
    · rw [osW, if_neg h5]
      by_cases h4 : w.kind = 4
      · have n1 : w.text ≠ andL := fun e => by
          simp only [hdT, decide_eq_true h4, decide_eq_true e] at h1; cases h1
        have n2 : w.text ≠ orL := fun e => by
          simp only [hdT, decide_eq_true h4, decide_eq_true e] at h2; cases h2
        rw [if_pos h4, if_neg n1, if_neg n2]
      · rw [if_neg h4]

/-- What op leaves. -/
def opK (b : Nat) (s : List UInt8) (l : List Wd) (e : Option Nat) (n : Nat) (v : V) (R' : List Res) : Prop :=
  (e = none ∧ osW (l.headD wd0) ≠ 0 ∧ v = i64V (osW (l.headD wd0)) ∧ R' = [.obj b (prL s l.tail none n)]) ∨
  ((e ≠ none ∨ osW (l.headD wd0) = 0) ∧ v = i64V 11 ∧ R' = [.obj b (prL s l (failE e 10) n)])

set_option maxRecDepth 100000 in
theorem op_call (b : Nat) (s : List UInt8) (l : List Wd) (e : Option Nat) (n : Nat) : SCall Tryz.prog 60 [.loc b 0] [.obj b (prL s l e n)] (opK b s l e n) := by
  have hit := alls_iter opL (by decide)
  have isE : ∀ kind t, isP l e kind t = true → e = none := fun kind t h => by
    unfold isP at h
    rw [Bool.and_eq_true] at h
    exact of_decide_eq_true h.1
  refine scall_of (live := []) (ords := []) Tryz.func60 rfl (by kernel_rfl) (by kernel_rfl) (Nat.le_of_ble_eq_true rfl) ?_
  (conv => arg 2; whnf); refine wp_allocE [i64V 0] rfl fun c => ?_
  (conv => arg 2; whnf); refine wp_pcall (alls_call opL) ?_
  (conv => arg 2; whnf); refine wp_range hit (fun i R' => R' = [.obj b (prL s l e n), .obj c [i64V 0]] ∧ ∀ t ∈ opL.take i, isP l e 5 t = false) ⟨rfl, by simp⟩ ?_ ?_ ?_
  · intro i args hi
    rw [allsL, List.getElem?_map, Option.map_eq_some_iff] at hi
    obtain ⟨z, _, rfl⟩ := hi
    rfl
  · rintro i args R1 hi ⟨rfl, hall⟩
    have hlt : i < opL.length := by
      have := (List.getElem?_eq_some_iff.1 hi).1
      rw [allsL, List.length_map, List.length_range] at this; exact this
    obtain ⟨t, ht⟩ : ∃ t, opL[i]? = some t := ⟨_, List.getElem?_eq_getElem hlt⟩
    rw [alls_at ht] at hi
    obtain rfl := Option.some.inj hi
    have hi7 : i < 7 := hlt
    have hw : IntKind.i64.wrap (3 + (i : Int)) = 3 + (i : Int) := w_i64_small (by omega) (by omega)
    (conv => arg 2; whnf); refine wp_callF [] [.obj b (prL s l e n)] [.obj c [i64V 0]] rfl (may_call b s l e n 5 t) ?_
    rintro v R1 (⟨h1, rfl, rfl⟩ | ⟨h1, rfl, rfl⟩)
    · have he := isE _ _ h1
      subst he
      have ho := osW_hit ht h1
      have hv : V.c (.int .i64 (IntKind.i64.wrap (3 + (i : Int)))) = i64V (osW (l.headD wd0)) := by rw [ho, hw]; rfl
      (repeat ((conv => arg 2; whnf); first | refine wp_ite (fun _ => ?_) (fun h => Bool.noConfusion h) | refine wp_ite (fun h => Bool.noConfusion h) (fun _ => ?_)))
      (conv => arg 2; whnf); refine wp_storeE (cs := [i64V 0]) 1 0 [i64V (osW (l.headD wd0))] rfl rfl (.cons (Vle.eq hv) .nil) (Nat.le_refl _) rfl (R' := [.obj b (prL s l.tail none n), .obj c [i64V (osW (l.headD wd0))]]) rfl ?_
      (conv => arg 2; whnf)
      refine wp_leaf ?_
      show (Tree.leaf Exit.ret _).wp Tryz.prog _ (Ends _ _ _)
      exact w_ret1k (R' := [.obj b (prL s l.tail none n)]) c 0 1 rfl rfl rfl rfl rfl (Vle.refl _) (by simp) (.inl ⟨rfl, by rw [ho]; omega, rfl, rfl⟩)
    · (repeat ((conv => arg 2; whnf); first | refine wp_ite (fun _ => ?_) (fun h => Bool.noConfusion h) | refine wp_ite (fun h => Bool.noConfusion h) (fun _ => ?_)))
      (conv => arg 2; whnf)
      refine wp_leaf ⟨rfl, fun u hu => ?_⟩
      rw [List.take_add_one, ht] at hu
      rcases List.mem_append.1 hu with hu | hu
      · exact hall u hu
      · have : u = t := by simpa using hu
        rw [this]; exact h1
  · rintro R1 ⟨rfl, hall⟩
    rw [allsL, List.length_map, List.length_range, List.take_length] at hall
    (conv => arg 2; whnf); refine wp_callF [] [.obj b (prL s l e n)] [.obj c [i64V 0]] rfl (may_call b s l e n 4 andL) ?_
    rintro v R1 (⟨h1, rfl, rfl⟩ | ⟨h1, rfl, rfl⟩)
    · have he := isE _ _ h1
      subst he
      have ho := osW_and h1
      have hv : V.c (.int .i64 10) = i64V (osW (l.headD wd0)) := by rw [ho]; rfl
      (repeat ((conv => arg 2; whnf); first | refine wp_ite (fun _ => ?_) (fun h => Bool.noConfusion h) | refine wp_ite (fun h => Bool.noConfusion h) (fun _ => ?_)))
      (conv => arg 2; whnf); refine wp_storeE (cs := [i64V 0]) 1 0 [i64V (osW (l.headD wd0))] rfl rfl (.cons (Vle.eq hv) .nil) (Nat.le_refl _) rfl (R' := [.obj b (prL s l.tail none n), .obj c [i64V (osW (l.headD wd0))]]) rfl ?_
      (conv => arg 2; whnf); refine w_ret1k (R' := [.obj b (prL s l.tail none n)]) c 0 1 rfl rfl rfl rfl rfl (Vle.refl _) (by simp) (.inl ⟨rfl, by rw [ho]; omega, rfl, rfl⟩)
    · (repeat ((conv => arg 2; whnf); first | refine wp_ite (fun _ => ?_) (fun h => Bool.noConfusion h) | refine wp_ite (fun h => Bool.noConfusion h) (fun _ => ?_)))
      (conv => arg 2; whnf); refine wp_callF [] [.obj b (prL s l e n)] [.obj c [i64V 0]] rfl (must_call b s l e n 4 orL) ?_
      rintro v R1 ⟨rfl, ⟨h2, rfl⟩ | ⟨h2, rfl⟩⟩
      · have he := isE _ _ h2
        subst he
        have ho := osW_or h2
        have hv : V.c (.int .i64 11) = i64V (osW (l.headD wd0)) := by rw [ho]; rfl
        (conv => arg 2; whnf); refine wp_storeE (cs := [i64V 0]) 1 0 [i64V (osW (l.headD wd0))] rfl rfl (.cons (Vle.eq hv) .nil) (Nat.le_refl _) rfl (R' := [.obj b (prL s l.tail none n), .obj c [i64V (osW (l.headD wd0))]]) rfl ?_
        (conv => arg 2; whnf); refine w_ret1k (R' := [.obj b (prL s l.tail none n)]) c 0 1 rfl rfl rfl rfl rfl (Vle.refl _) (by simp) (.inl ⟨rfl, by rw [ho]; omega, rfl, rfl⟩)
      · have hor : e ≠ none ∨ osW (l.headD wd0) = 0 := by
          cases e with
          | none => exact .inr (osW_none hall h1 h2)
          | some k => exact .inl (by simp)
        (conv => arg 2; whnf); refine wp_storeE (cs := [i64V 0]) 1 0 [i64V 11] rfl rfl (VleL.refl _) (Nat.le_refl _) rfl (R' := [.obj b (prL s l (failE e 10) n), .obj c [i64V 11]]) rfl ?_
        (conv => arg 2; whnf); refine w_ret1k (R' := [.obj b (prL s l (failE e 10) n)]) c 0 1 rfl rfl rfl rfl rfl (Vle.refl _) (by simp) (.inr ⟨hor, rfl, rfl⟩)
end Go.Sv
/- The program's parser: nodes. -/
namespace Go.Sv
open Go Go.Proofs

theorem mustE_t {α : Type} {kind : Nat} {t : List UInt8} {x : α} {l : List Wd} {n : Nat} (h : hdT kind t l = true) : mustE kind t x l n = .ok (x, l.tail, n) := by rw [mustE, if_pos h]
theorem mustE_f {α : Type} {kind : Nat} {t : List UInt8} {x : α} {l : List Wd} {n : Nat} (h : hdT kind t l = false) : mustE kind t x l n = .error 10 := by rw [mustE, h]; rfl
theorem takeE_t {kind : Nat} {l : List Wd} {n : Nat} (h : hdK kind l = true) : takeE kind l n = .ok (l.headD wd0, l.tail, n) := by rw [takeE, if_pos h]
theorem takeE_f {kind : Nat} {l : List Wd} {n : Nat} (h : hdK kind l = false) : takeE kind l n = .error 10 := by rw [takeE, h]; rfl
theorem osE_t {l : List Wd} {n : Nat} (h : osW (l.headD wd0) ≠ 0) : osE l n = .ok (osW (l.headD wd0), l.tail, n) := by rw [osE, if_neg h]
theorem osE_f {l : List Wd} {n : Nat} (h : osW (l.headD wd0) = 0) : osE l n = .error 10 := by rw [osE, if_pos h]
theorem thenE_o {α β : Type} {x : α} {l : List Wd} {n : Nat} {f : α → List Wd → Nat → Got β} : thenE (.ok (x, l, n)) f = f x l n := rfl
theorem thenE_e {α β : Type} {e : Nat} {f : α → List Wd → Nat → Got β} : thenE (.error e) f = .error e := rfl
theorem nodeE_nb {s : List UInt8} {k : Nat} {l : List Wd} {n : Nat} (h : beginsW s l = false) : nodeE s k l n = .error 10 := by
  cases k with
  | zero => rw [nodeE, h]; rfl
  | succ k => rw [nodeE, h]; rfl
theorem nodeE_deep {s : List UInt8} {l : List Wd} {n : Nat} (h : beginsW s l = true) : nodeE s 0 l n = .error 12 := by rw [nodeE, if_pos h]
theorem nodeE_many {s : List UInt8} {k : Nat} {l : List Wd} {n : Nat} (h : beginsW s l = true) (h2 : 24 < n + 1) : nodeE s (k + 1) l n = .error 12 := by rw [nodeE, h, if_neg (by decide), if_pos h2]
theorem nodeE_lit {s : List UInt8} {k : Nat} {l : List Wd} {n : Nat} {v : Val} (h : beginsW s l = true) (h2 : ¬ 24 < n + 1) (h3 : litP l = some v) : nodeE s (k + 1) l n = .ok (litX v, l.tail, n + 1) := by
  rw [nodeE, h, if_neg (by decide), if_neg h2]
  unfold litP at h3
  split at h3
  · rename_i a; cases h3; rw [if_pos a]
  · rename_i a
    rw [if_neg a]
    split at h3
    · rename_i a; cases h3; rw [if_pos a]
    · rename_i a
      rw [if_neg a]
      split at h3
      · rename_i a; cases h3; rw [if_pos a]
      · rename_i a
        rw [if_neg a]
        split at h3
        · rename_i a; cases h3; rw [if_pos a]
        · cases h3
theorem lit_none {l : List Wd} (h : litP l = none) : ¬ hdK 2 l = true ∧ ¬ hdK 3 l = true ∧ ¬ hdT 4 trueL l = true ∧ ¬ hdT 4 falseL l = true := by
  unfold litP at h
  split at h
  · cases h
  split at h
  · cases h
  split at h
  · cases h
  split at h
  · cases h
  exact ⟨by assumption, by assumption, by assumption, by assumption⟩
theorem nodeE_fld {s : List UInt8} {k : Nat} {l : List Wd} {n : Nat} (h : beginsW s l = true) (h2 : ¬ 24 < n + 1) (h3 : litP l = none) (h4 : hdK 1 l = true) : nodeE s (k + 1) l n =
    thenE (mustE 5 [46] () l.tail (n + 1)) fun _ l1 n1 => thenE (takeE 1 l1 n1) fun f l2 n2 => .ok (.mk 2 val0 (l.headD wd0).text f.text [], l2, n2) := by
  obtain ⟨a1, a2, a3, a4⟩ := lit_none h3
  rw [nodeE, h, if_neg (by decide), if_neg h2, if_neg a1, if_neg a2, if_neg a3, if_neg a4, if_pos h4]
theorem begins_par {s : List UInt8} {l : List Wd} (h : beginsW s l = true) (h3 : litP l = none) (h4 : hdK 1 l = false) : hdT 5 [40] l = true := by
  obtain ⟨a1, a2, a3, a4⟩ := lit_none h3
  have b1 : hdK 2 l = false := by simpa using a1
  have b2 : hdK 3 l = false := by simpa using a2
  have b3 : hdT 4 trueL l = false := by simpa using a3
  have b4 : hdT 4 falseL l = false := by simpa using a4
  rw [beginsW, b1, b2, b3, b4, h4] at h
  exact h
theorem nodeE_not {s : List UInt8} {k : Nat} {l : List Wd} {n : Nat} (h : beginsW s l = true) (h2 : ¬ 24 < n + 1) (h3 : litP l = none) (h4 : hdK 1 l = false) (h5 : hdT 4 not3 l.tail = true) : nodeE s (k + 1) l n =
    thenE (nodeE s k l.tail.tail (n + 1)) fun x l1 n1 => mustE 5 [41] (.mk 12 val0 [] [] [x]) l1 n1 := by
  obtain ⟨a1, a2, a3, a4⟩ := lit_none h3
  rw [nodeE, h, if_neg (by decide), if_neg h2, if_neg a1, if_neg a2, if_neg a3, if_neg a4, h4, if_neg (by decide), if_pos h5]
theorem nodeE_two {s : List UInt8} {k : Nat} {l : List Wd} {n : Nat} (h : beginsW s l = true) (h2 : ¬ 24 < n + 1) (h3 : litP l = none) (h4 : hdK 1 l = false) (h5 : hdT 4 not3 l.tail = false) : nodeE s (k + 1) l n =
    thenE (nodeE s k l.tail (n + 1)) fun a l1 n1 => thenE (osE l1 n1) fun o l2 n2 => thenE (nodeE s k l2 n2) fun b l3 n3 => mustE 5 [41] (.mk o val0 [] [] [a, b]) l3 n3 := by
  obtain ⟨a1, a2, a3, a4⟩ := lit_none h3
  rw [nodeE, h, if_neg (by decide), if_neg h2, if_neg a1, if_neg a2, if_neg a3, if_neg a4, h4, if_neg (by decide), h5, if_neg (by decide)]
theorem nodeE_n {s : List UInt8} : ∀ (k : Nat) (l : List Wd) (n : Nat) {x : Ex} {l' : List Wd} {n' : Nat}, nodeE s k l n = .ok (x, l', n') → n' ≤ 24
  | 0, l, n, x, l', n', h => by
    rw [nodeE] at h
    split at h <;> cases h
  | k + 1, l, n, x, l', n', h => by
    cases hb : beginsW s l with
    | false => rw [nodeE_nb hb] at h; cases h
    | true =>
      by_cases hn : 24 < n + 1
      · rw [nodeE_many hb hn] at h; cases h
      cases hl : litP l with
      | some v => rw [nodeE_lit hb hn hl] at h; cases h; omega
      | none =>
        cases h1 : hdK 1 l with
        | true =>
          rw [nodeE_fld hb hn hl h1] at h
          obtain ⟨_, l1, n1, g1, ha⟩ := thenE_ok h
          obtain ⟨_, e1, e2, _⟩ := mustE_ok g1
          obtain ⟨f, l2, n2, g2, hb⟩ := thenE_ok ha
          obtain ⟨_, e3, e4, _⟩ := takeE_ok g2
          cases hb; omega
        | false =>
          cases h5 : hdT 4 not3 l.tail with
          | true =>
            rw [nodeE_not hb hn hl h1 h5] at h
            obtain ⟨y, l1, n1, g1, ha⟩ := thenE_ok h
            obtain ⟨_, e1, e2, _⟩ := mustE_ok ha
            have := nodeE_n k _ _ g1
            omega
          | false =>
            rw [nodeE_two hb hn hl h1 h5] at h
            obtain ⟨y, l1, n1, g1, ha⟩ := thenE_ok h
            obtain ⟨o, l2, n2, g2, hb⟩ := thenE_ok ha
            obtain ⟨z, l3, n3, g3, hc⟩ := thenE_ok hb
            obtain ⟨_, e1, e2, _⟩ := mustE_ok hc
            have := nodeE_n k _ _ g3
            omega

def nodeK (b : Nat) (s : List UInt8) : Got Ex → V → List Res → Prop
  | .ok (x, l', n'), v, R' => v = .agg (exC x) ∧ R' = [.obj b (prL s l' none n')]
  | .error e, v, R' => ∃ x l' n', v = .agg (exC x) ∧ R' = [.obj b (prL s l' (some e) n')]
theorem nodeK_e {b : Nat} {s : List UInt8} {e : Nat} {r : Got Ex} (h : r = .error e) (x : Ex) (l' : List Wd) (n' : Nat) : nodeK b s r (.agg (exC x)) [.obj b (prL s l' (some e) n')] := by rw [h]; exact ⟨x, l', n', rfl, rfl⟩
theorem nodeK_ok {b : Nat} {s : List UInt8} {r : Got Ex} {x : Ex} {l' : List Wd} {n' : Nat} (h : r = .ok (x, l', n')) : nodeK b s r (.agg (exC x)) [.obj b (prL s l' none n')] := by rw [h]; exact ⟨rfl, rfl⟩

theorem fld_vle (a : List UInt8) : VleL [i64V 2, i64V 0, i64V 0, str [], str a, str [], .sl none [] .zero] (exC (.mk 2 val0 a [] [])) :=
  .cons (.refl _) (.cons (.refl _) (.cons (.refl _) (.cons (.refl _) (.cons (.refl _) (.cons (.refl _) (.cons (Vle.nil _ _ _) .nil))))))
theorem kid1 (x : Ex) : V.sl (some 7) [.agg (exC x)] .no = exsV [x] := by rw [← exV_eq]; rfl
theorem kid2 (x y : Ex) : V.sl (some 7) [.agg (exC x), .agg (exC y)] .no = exsV [x, y] := by rw [← exV_eq, ← exV_eq]; rfl
theorem not_vle (x : Ex) : VleL [i64V 12, i64V 0, i64V 0, str [], str [], str [], .sl (some 7) [.agg (exC x)] .no] (exC (.mk 12 val0 [] [] [x])) :=
  .cons (.refl _) (.cons (.refl _) (.cons (.refl _) (.cons (.refl _) (.cons (.refl _) (.cons (.refl _) (.cons (Vle.eq (kid1 x)) .nil))))))
theorem two_vle (o : Int) (x y : Ex) : VleL [i64V o, i64V 0, i64V 0, str [], str [], str [], .sl (some 7) [.agg (exC x), .agg (exC y)] .no] (exC (.mk o val0 [] [] [x, y])) :=
  .cons (.refl _) (.cons (.refl _) (.cons (.refl _) (.cons (.refl _) (.cons (.refl _) (.cons (.refl _) (.cons (Vle.eq (kid2 x y)) .nil))))))

theorem nodeK_cases {b : Nat} {s : List UInt8} {r : Got Ex} {v : V} {R' : List Res} (h : nodeK b s r v R') :
    (∃ x l' n', r = .ok (x, l', n') ∧ v = .agg (exC x) ∧ R' = [.obj b (prL s l' none n')]) ∨ (∃ m x l' n', r = .error m ∧ v = .agg (exC x) ∧ R' = [.obj b (prL s l' (some m) n')]) := by
  cases r with
  | ok p => obtain ⟨x, l', n'⟩ := p; exact .inl ⟨x, l', n', rfl, h.1, h.2⟩
  | error m => obtain ⟨x, l', n', h1, h2⟩ := h; exact .inr ⟨m, x, l', n', rfl, h1, h2⟩

set_option maxRecDepth 100000 in
theorem node_err (b : Nat) (s : List UInt8) (l : List Wd) (e n : Nat) (deep : Nat) (hs : s.length < 2 ^ 40) : SCall Tryz.prog 29 [.loc b 0, i64V deep] [.obj b (prL s l (some e) n)] fun v R' => v = .agg (exC ex0) ∧ R' = [.obj b (prL s l (some e) n)] := by
  refine scall_of (live := [75, 79, 7600000, 10007900000]) (ords := [(11, []), (16, []), (21, []), (22, [0, 1, 2, 3, 4, 5, 6, 7, 8]), (23, [])]) Tryz.func29 rfl (by kernel_rfl) (by kernel_rfl) (Nat.le_of_ble_eq_true rfl) ?_
  (conv => arg 2; whnf); refine wp_allocE exZ rfl fun c => ?_
  (conv => arg 2; whnf); refine wp_callF [] [.obj b (prL s l (some e) n)] [.obj c exZ] rfl (begins_call b s l (some e) n hs (fun h => by cases h)) ?_
  rintro v R1 ⟨rfl, rfl⟩
  (repeat ((conv => arg 2; whnf); first | refine wp_ite (fun _ => ?_) (fun h => Bool.noConfusion h) | refine wp_ite (fun h => Bool.noConfusion h) (fun _ => ?_)))
  (conv => arg 2; whnf); refine wp_callF [] [.obj b (prL s l (some e) n)] [.obj c exZ] rfl (fails_call b s l (some e) n 10) ?_
  rintro v R1 ⟨rfl, rfl⟩
  (conv => arg 2; whnf); refine wp_storeE (cs := exZ) 1 0 (exC ex0) rfl rfl ex0_vle (Nat.le_refl _) rfl (R' := [.obj b (prL s l (some e) n), .obj c (exC ex0)]) rfl ?_
  (conv => arg 2; whnf); refine w_ret1k (R' := [.obj b (prL s l (some e) n)]) c 0 1 rfl rfl rfl rfl rfl (Vle.refl _) (by simp) ⟨rfl, rfl⟩

set_option maxRecDepth 100000 in
theorem node_zero (b : Nat) (s : List UInt8) (hs : s.length < 2 ^ 40) (l : List Wd) (n : Nat) (hn : n ≤ 24) (hl : AllOk s.length l) : SCall Tryz.prog 29 [.loc b 0, i64V ((6 : Nat) : Int)] [.obj b (prL s l none n)] (nodeK b s (nodeE s 0 l n)) := by
  refine scall_of (live := [75, 79, 7600000, 10007900000]) (ords := [(11, []), (16, []), (21, []), (22, [0, 1, 2, 3, 4, 5, 6, 7, 8]), (23, [])]) Tryz.func29 rfl (by kernel_rfl) (by kernel_rfl) (Nat.le_of_ble_eq_true rfl) ?_
  (conv => arg 2; whnf); refine wp_allocE exZ rfl fun c => ?_
  (conv => arg 2; whnf); refine wp_callF [] [.obj b (prL s l none n)] [.obj c exZ] rfl (begins_call b s l none n hs (fun _ => hl)) ?_
  rintro v R1 ⟨rfl, rfl⟩
  (conv => arg 2; whnf); refine wp_ite (fun hb => ?_) (fun hb => ?_)
  · have hb : beginsW s l = false := by simpa [beginsP] using hb
    (conv => arg 2; whnf); refine wp_callF [] [.obj b (prL s l none (n))] [.obj c exZ] rfl (fails_call b s l none (n) 10) ?_
    rintro v R1 ⟨rfl, rfl⟩
    (conv => arg 2; whnf); refine wp_storeE (cs := exZ) 1 0 (exC ex0) rfl rfl ex0_vle (Nat.le_refl _) rfl (R' := [.obj b (prL s l (some 10) (n)), .obj c (exC ex0)]) rfl ?_
    (conv => arg 2; whnf); refine w_ret1k (R' := [.obj b (prL s l (some 10) (n))]) c 0 1 rfl rfl rfl rfl rfl (Vle.refl _) (by simp) (nodeK_e (nodeE_nb hb) ex0 l (n))
  have hb : beginsW s l = true := by simpa [beginsP] using hb
  (conv => arg 2; whnf); refine wp_load (cs := prL s l none n) 0 rfl rfl ?_
  (conv => arg 2; whnf); refine wp_storeE (cs := prL s l none n) 0 3 [i64V ((n + 1 : Nat) : Int)] rfl rfl (.cons (Vle.inc n rfl (by omega)) .nil) (Nat.le_of_ble_eq_true rfl) rfl (R' := [.obj b (prL s l none (n + 1)), .obj c exZ]) rfl ?_
  (repeat ((conv => arg 2; whnf); first | refine wp_ite (fun _ => ?_) (fun h => Bool.noConfusion h) | refine wp_ite (fun h => Bool.noConfusion h) (fun _ => ?_)))
  (conv => arg 2; whnf); refine wp_callF [] [.obj b (prL s l none (n + 1))] [.obj c exZ] rfl (fails_call b s l none (n + 1) 12) ?_
  rintro v R1 ⟨rfl, rfl⟩
  (conv => arg 2; whnf); refine wp_storeE (cs := exZ) 1 0 (exC ex0) rfl rfl ex0_vle (Nat.le_refl _) rfl (R' := [.obj b (prL s l (some 12) (n + 1)), .obj c (exC ex0)]) rfl ?_
  (conv => arg 2; whnf); refine w_ret1k (R' := [.obj b (prL s l (some 12) (n + 1))]) c 0 1 rfl rfl rfl rfl rfl (Vle.refl _) (by simp) (nodeK_e (nodeE_deep hb) ex0 l (n + 1))

set_option maxRecDepth 100000 in
theorem node_succ (b : Nat) (s : List UInt8) (hs : s.length < 2 ^ 40) (k deep : Nat) (hd : deep ≤ 5)
    (ih : ∀ (l : List Wd) (n : Nat), n ≤ 24 → AllOk s.length l → SCall Tryz.prog 29 [.loc b 0, i64V ((deep + 1 : Nat) : Int)] [.obj b (prL s l none n)] (nodeK b s (nodeE s k l n)))
    (l : List Wd) (n : Nat) (hn24 : n ≤ 24) (hl : AllOk s.length l) : SCall Tryz.prog 29 [.loc b 0, i64V (deep : Int)] [.obj b (prL s l none n)] (nodeK b s (nodeE s (k + 1) l n)) := by
  refine scall_of (live := [75, 79, 7600000, 10007900000]) (ords := [(11, []), (16, []), (21, []), (22, [0, 1, 2, 3, 4, 5, 6, 7, 8]), (23, [])]) Tryz.func29 rfl (by kernel_rfl) (by kernel_rfl) (Nat.le_of_ble_eq_true rfl) ?_
  (conv => arg 2; whnf); refine wp_allocE exZ rfl fun c => ?_
  (conv => arg 2; whnf); refine wp_callF [] [.obj b (prL s l none n)] [.obj c exZ] rfl (begins_call b s l none n hs (fun _ => hl)) ?_
  rintro v R1 ⟨rfl, rfl⟩
  (conv => arg 2; whnf); refine wp_ite (fun hb => ?_) (fun hb => ?_)
  · have hb : beginsW s l = false := by simpa [beginsP] using hb
    (conv => arg 2; whnf); refine wp_callF [] [.obj b (prL s l none (n))] [.obj c exZ] rfl (fails_call b s l none (n) 10) ?_
    rintro v R1 ⟨rfl, rfl⟩
    (conv => arg 2; whnf); refine wp_storeE (cs := exZ) 1 0 (exC ex0) rfl rfl ex0_vle (Nat.le_refl _) rfl (R' := [.obj b (prL s l (some 10) (n)), .obj c (exC ex0)]) rfl ?_
    (conv => arg 2; whnf); refine w_ret1k (R' := [.obj b (prL s l (some 10) (n))]) c 0 1 rfl rfl rfl rfl rfl (Vle.refl _) (by simp) (nodeK_e (nodeE_nb hb) ex0 l (n))
  have hb : beginsW s l = true := by simpa [beginsP] using hb
  (conv => arg 2; whnf); refine wp_load (cs := prL s l none n) 0 rfl rfl ?_
  (conv => arg 2; whnf); refine wp_storeE (cs := prL s l none n) 0 3 [i64V ((n + 1 : Nat) : Int)] rfl rfl (.cons (Vle.inc n rfl (by omega)) .nil) (Nat.le_of_ble_eq_true rfl) rfl (R' := [.obj b (prL s l none (n + 1)), .obj c exZ]) rfl ?_
  (conv => arg 2; whnf); refine wp_ite (fun h => absurd (of_decide_eq_true h) (by omega)) (fun _ => ?_)
  (conv => arg 2; whnf); refine wp_load (cs := prL s l none (n + 1)) 0 rfl rfl ?_
  (conv => arg 2; whnf); refine wp_ite (fun hn => ?_) (fun hn => ?_)
  · have hn : 24 < n + 1 := by have := of_decide_eq_true hn; omega
    (conv => arg 2; whnf); refine wp_callF [] [.obj b (prL s l none (n + 1))] [.obj c exZ] rfl (fails_call b s l none (n + 1) 12) ?_
    rintro v R1 ⟨rfl, rfl⟩
    (conv => arg 2; whnf); refine wp_storeE (cs := exZ) 1 0 (exC ex0) rfl rfl ex0_vle (Nat.le_refl _) rfl (R' := [.obj b (prL s l (some 12) (n + 1)), .obj c (exC ex0)]) rfl ?_
    (conv => arg 2; whnf); refine w_ret1k (R' := [.obj b (prL s l (some 12) (n + 1))]) c 0 1 rfl rfl rfl rfl rfl (Vle.refl _) (by simp) (nodeK_e (nodeE_many hb hn) ex0 l (n + 1))
  have hn : ¬ 24 < n + 1 := by have := of_decide_eq_false hn; omega
  (conv => arg 2; whnf); refine wp_callF [] [.obj b (prL s l none (n + 1))] [.obj c exZ] rfl (literal_call b s l (n + 1)) ?_
  rintro v R1 (⟨x, h3, rfl, rfl⟩ | ⟨h3, rfl, rfl⟩)
  · (conv => arg 2; whnf); refine wp_allocE exZ rfl fun d => ?_
    (conv => arg 2; whnf); refine wp_storeE (cs := exZ) 2 0 (exC (litX x)) rfl rfl (VleL.refl _) (Nat.le_refl _) rfl (R' := [.obj b (prL s l.tail none (n + 1)), .obj c exZ, .obj d (exC (litX x))]) rfl ?_
    (repeat ((conv => arg 2; whnf); first | refine wp_ite (fun _ => ?_) (fun h => Bool.noConfusion h) | refine wp_ite (fun h => Bool.noConfusion h) (fun _ => ?_)))
    (conv => arg 2; whnf); refine wp_load (cs := exC (litX x)) 2 rfl rfl ?_
    (conv => arg 2; whnf); refine wp_storeE (cs := exZ) 1 0 (exC (litX x)) rfl rfl (VleL.refl _) (Nat.le_refl _) rfl (R' := [.obj b (prL s l.tail none (n + 1)), .obj c (exC (litX x)), .obj d (exC (litX x))]) rfl ?_
    (conv => arg 2; whnf); refine w_ret1k (R' := [.obj b (prL s l.tail none (n + 1))]) c 0 1 rfl rfl rfl rfl rfl (Vle.refl _) (by simp) (nodeK_ok (nodeE_lit hb hn h3))
  (conv => arg 2; whnf); refine wp_allocE exZ rfl fun d0 => ?_
  (conv => arg 2; whnf); refine wp_storeE (cs := exZ) 2 0 (exC ex0) rfl rfl (VleL.refl _) (Nat.le_refl _) rfl (R' := [.obj b (prL s l none (n + 1)), .obj c exZ, .obj d0 (exC ex0)]) rfl ?_
  (repeat ((conv => arg 2; whnf); first | refine wp_ite (fun _ => ?_) (fun h => Bool.noConfusion h) | refine wp_ite (fun h => Bool.noConfusion h) (fun _ => ?_)))
  refine wp_cutR (frL [(0, .loc b 0), (1, i64V deep), (4, .loc c 0)]) [.obj b (prL s l none (n + 1)), .obj c exZ] (.cons (.refl _) (.cons (.refl _) (.cons (.refl _) (.nil _)))) (by simp) ?_
  (conv => arg 2; whnf); refine wp_callF [] [.obj b (prL s l none (n + 1))] [.obj c exZ] rfl (pis_call b s l none (n + 1) 1 []) ?_
  rintro v R1 ⟨rfl, rfl⟩
  (conv => arg 2; whnf); refine wp_ite (fun h4 => ?_) (fun h4 => ?_)
  · have h4 : hdK 1 l = true := h4
    have hf := nodeE_fld (s := s) (k := k) hb hn h3 h4
    (conv => arg 2; whnf); refine wp_callF [] [.obj b (prL s l none (n + 1))] [.obj c exZ] rfl (take_call b s l none (n + 1) 1) ?_
    rintro v R1 (⟨_, rfl, rfl⟩ | ⟨h, _, _⟩)
    · (conv => arg 2; whnf); refine wp_allocE exZ rfl fun d => ?_
      (conv => arg 2; whnf); refine wp_storeE (cs := exZ) 2 0 (exC (.mk 2 val0 (l.headD wd0).text [] [])) rfl rfl (fld_vle _) (Nat.le_refl _) rfl (R' := [.obj b (prL s l.tail none (n + 1)), .obj c exZ, .obj d (exC (.mk 2 val0 (l.headD wd0).text [] []))]) rfl ?_
      (conv => arg 2; whnf); refine wp_callF [] [.obj b (prL s l.tail none (n + 1))] [.obj c exZ, .obj d (exC (.mk 2 val0 (l.headD wd0).text [] []))] rfl (must_call b s l.tail none (n + 1) 5 [46]) ?_
      rintro v R1 ⟨rfl, ⟨hm, rfl⟩ | ⟨hm, rfl⟩⟩
      · rw [isP_hdT (by decide)] at hm
        (conv => arg 2; whnf); refine wp_callF [] [.obj b (prL s l.tail.tail none (n + 1))] [.obj c exZ, .obj d (exC (.mk 2 val0 (l.headD wd0).text [] []))] rfl (take_call b s l.tail.tail none (n + 1) 1) ?_
        rintro v R1 (⟨h6, rfl, rfl⟩ | ⟨h6, rfl, rfl⟩)
        · have h6 : hdK 1 l.tail.tail = true := h6
          (conv => arg 2; whnf); refine wp_storeE (cs := exC (.mk 2 val0 (l.headD wd0).text [] [])) 2 5 [str (l.tail.tail.headD wd0).text] rfl rfl (VleL.refl _) (Nat.le_of_ble_eq_true rfl) rfl (R' := [.obj b (prL s l.tail.tail.tail none (n + 1)), .obj c exZ, .obj d (exC (.mk 2 val0 (l.headD wd0).text (l.tail.tail.headD wd0).text []))]) rfl ?_
          (conv => arg 2; whnf); refine wp_load (cs := exC (.mk 2 val0 (l.headD wd0).text (l.tail.tail.headD wd0).text [])) 2 rfl rfl ?_
          (conv => arg 2; whnf); refine wp_storeE (cs := exZ) 1 0 (exC (.mk 2 val0 (l.headD wd0).text (l.tail.tail.headD wd0).text [])) rfl rfl (VleL.refl _) (Nat.le_refl _) rfl (R' := [.obj b (prL s l.tail.tail.tail none (n + 1)), .obj c (exC (.mk 2 val0 (l.headD wd0).text (l.tail.tail.headD wd0).text [])), .obj d (exC (.mk 2 val0 (l.headD wd0).text (l.tail.tail.headD wd0).text []))]) rfl ?_
          (conv => arg 2; whnf); refine w_ret1k (R' := [.obj b (prL s l.tail.tail.tail none (n + 1))]) c 0 1 rfl rfl rfl rfl rfl (Vle.refl _) (by simp) (nodeK_ok (by rw [hf, mustE_t hm, thenE_o, takeE_t h6, thenE_o]))
        · have h6 : hdK 1 l.tail.tail = false := h6
          (conv => arg 2; whnf); refine wp_storeE (cs := exC (.mk 2 val0 (l.headD wd0).text [] [])) 2 5 [str []] rfl rfl (VleL.refl _) (Nat.le_of_ble_eq_true rfl) rfl (R' := [.obj b (prL s l.tail.tail (some 10) (n + 1)), .obj c exZ, .obj d (exC (.mk 2 val0 (l.headD wd0).text [] []))]) rfl ?_
          (conv => arg 2; whnf); refine wp_load (cs := exC (.mk 2 val0 (l.headD wd0).text [] [])) 2 rfl rfl ?_
          (conv => arg 2; whnf); refine wp_storeE (cs := exZ) 1 0 (exC (.mk 2 val0 (l.headD wd0).text [] [])) rfl rfl (VleL.refl _) (Nat.le_refl _) rfl (R' := [.obj b (prL s l.tail.tail (some 10) (n + 1)), .obj c (exC (.mk 2 val0 (l.headD wd0).text [] [])), .obj d (exC (.mk 2 val0 (l.headD wd0).text [] []))]) rfl ?_
          (conv => arg 2; whnf); refine w_ret1k (R' := [.obj b (prL s l.tail.tail (some 10) (n + 1))]) c 0 1 rfl rfl rfl rfl rfl (Vle.refl _) (by simp) (nodeK_e (by rw [hf, mustE_t hm, thenE_o, takeE_f h6, thenE_e]) _ _ _)
      · rw [isP_hdT (by decide)] at hm
        (conv => arg 2; whnf); refine wp_callF [] [.obj b (prL s l.tail (some 10) (n + 1))] [.obj c exZ, .obj d (exC (.mk 2 val0 (l.headD wd0).text [] []))] rfl (take_call b s l.tail (some 10) (n + 1) 1) ?_
        rintro v R1 (⟨h6, _, _⟩ | ⟨_, rfl, rfl⟩)
        · cases h6
        · skip
          (conv => arg 2; whnf); refine wp_storeE (cs := exC (.mk 2 val0 (l.headD wd0).text [] [])) 2 5 [str []] rfl rfl (VleL.refl _) (Nat.le_of_ble_eq_true rfl) rfl (R' := [.obj b (prL s l.tail (some 10) (n + 1)), .obj c exZ, .obj d (exC (.mk 2 val0 (l.headD wd0).text [] []))]) rfl ?_
          (conv => arg 2; whnf); refine wp_load (cs := exC (.mk 2 val0 (l.headD wd0).text [] [])) 2 rfl rfl ?_
          (conv => arg 2; whnf); refine wp_storeE (cs := exZ) 1 0 (exC (.mk 2 val0 (l.headD wd0).text [] [])) rfl rfl (VleL.refl _) (Nat.le_refl _) rfl (R' := [.obj b (prL s l.tail (some 10) (n + 1)), .obj c (exC (.mk 2 val0 (l.headD wd0).text [] [])), .obj d (exC (.mk 2 val0 (l.headD wd0).text [] []))]) rfl ?_
          (conv => arg 2; whnf); refine w_ret1k (R' := [.obj b (prL s l.tail (some 10) (n + 1))]) c 0 1 rfl rfl rfl rfl rfl (Vle.refl _) (by simp) (nodeK_e (by rw [hf, mustE_f hm, thenE_e]) _ _ _)
    · exact absurd (h.symm.trans h4) (by decide)
  have h4 : hdK 1 l = false := h4
  have hp := begins_par hb h3 h4
  refine wp_cutR (frL [(0, .loc b 0), (1, i64V deep), (4, .loc c 0)]) [.obj b (prL s l none (n + 1)), .obj c exZ] (.cons (.refl _) (.cons (.refl _) (.cons (.refl _) (.nil _)))) (by simp) ?_
  (conv => arg 2; whnf); refine wp_callF [] [.obj b (prL s l none (n + 1))] [.obj c exZ] rfl (must_call b s l none (n + 1) 5 [40]) ?_
  rintro v R1 ⟨rfl, ⟨hm, rfl⟩ | ⟨hm, rfl⟩⟩
  case inr => rw [isP_hdT (by decide)] at hm; exact absurd (hm.symm.trans hp) (by decide)
  clear hm
  (conv => arg 2; whnf); refine wp_allocE exZ rfl fun d => ?_
  (conv => arg 2; whnf); refine wp_callF [] [.obj b (prL s l.tail none (n + 1))] [.obj c exZ, .obj d exZ] rfl (may_call b s l.tail none (n + 1) 4 not3) ?_
  rintro v R1 (⟨h5, rfl, rfl⟩ | ⟨h5, rfl, rfl⟩)
  · rw [isP_hdT (by decide)] at h5
    have hf := nodeE_not (s := s) (k := k) hb hn h3 h4 h5
    have hc := (ih l.tail.tail (n + 1) (by omega) hl.tail.tail).mono fun v R' h => nodeK_cases h
    (repeat ((conv => arg 2; whnf); first | refine wp_ite (fun _ => ?_) (fun h => Bool.noConfusion h) | refine wp_ite (fun h => Bool.noConfusion h) (fun _ => ?_)))
    (conv => arg 2; whnf); refine wp_callV [] [.obj b (prL s l.tail.tail none (n + 1))] [.obj c exZ, .obj d exZ] rfl (.cons (.refl _) (.cons (Vle.inc deep rfl (by omega)) .nil)) hc ?_
    rintro v R1 (⟨x, l1, n1, hr, rfl, rfl⟩ | ⟨m, x, l1, n1, hr, rfl, rfl⟩)
    · (conv => arg 2; whnf); refine wp_storeE (cs := exZ) 2 0 (exC (.mk 12 val0 [] [] [x])) rfl rfl (not_vle x) (Nat.le_refl _) rfl (R' := [.obj b (prL s l1 none n1), .obj c exZ, .obj d (exC (.mk 12 val0 [] [] [x]))]) rfl ?_
      refine wp_cutR (frL [(0, .loc b 0), (4, .loc c 0), (8, .loc d 0)]) [.obj b (prL s l1 none n1), .obj c exZ, .obj d (exC (.mk 12 val0 [] [] [x]))] (.cons (.refl _) (.cons (.refl _) (.cons (.refl _) (.nil _)))) (by simp) ?_
      (conv => arg 2; whnf); refine wp_callF [] [.obj b (prL s l1 none n1)] [.obj c exZ, .obj d (exC (.mk 12 val0 [] [] [x]))] rfl (must_call b s l1 none n1 5 [41]) ?_
      rintro v R1 ⟨rfl, ⟨hm, rfl⟩ | ⟨hm, rfl⟩⟩
      · rw [isP_hdT (by decide)] at hm
        (conv => arg 2; whnf); refine wp_load (cs := exC (.mk 12 val0 [] [] [x])) 2 rfl rfl ?_
        (conv => arg 2; whnf); refine wp_storeE (cs := exZ) 1 0 (exC (.mk 12 val0 [] [] [x])) rfl rfl (VleL.refl _) (Nat.le_refl _) rfl (R' := [.obj b (prL s l1.tail none n1), .obj c (exC (.mk 12 val0 [] [] [x])), .obj d (exC (.mk 12 val0 [] [] [x]))]) rfl ?_
        (conv => arg 2; whnf); refine w_ret1k (R' := [.obj b (prL s l1.tail none n1)]) c 0 1 rfl rfl rfl rfl rfl (Vle.refl _) (by simp) (nodeK_ok (by rw [hf, hr, thenE_o, mustE_t hm]))
      · rw [isP_hdT (by decide)] at hm
        (conv => arg 2; whnf); refine wp_load (cs := exC (.mk 12 val0 [] [] [x])) 2 rfl rfl ?_
        (conv => arg 2; whnf); refine wp_storeE (cs := exZ) 1 0 (exC (.mk 12 val0 [] [] [x])) rfl rfl (VleL.refl _) (Nat.le_refl _) rfl (R' := [.obj b (prL s l1 (some 10) n1), .obj c (exC (.mk 12 val0 [] [] [x])), .obj d (exC (.mk 12 val0 [] [] [x]))]) rfl ?_
        (conv => arg 2; whnf); refine w_ret1k (R' := [.obj b (prL s l1 (some 10) n1)]) c 0 1 rfl rfl rfl rfl rfl (Vle.refl _) (by simp) (nodeK_e (by rw [hf, hr, thenE_o, mustE_f hm]) _ _ _)
    · (conv => arg 2; whnf); refine wp_storeE (cs := exZ) 2 0 (exC (.mk 12 val0 [] [] [x])) rfl rfl (not_vle x) (Nat.le_refl _) rfl (R' := [.obj b (prL s l1 (some m) n1), .obj c exZ, .obj d (exC (.mk 12 val0 [] [] [x]))]) rfl ?_
      refine wp_cutR (frL [(0, .loc b 0), (4, .loc c 0), (8, .loc d 0)]) [.obj b (prL s l1 (some m) n1), .obj c exZ, .obj d (exC (.mk 12 val0 [] [] [x]))] (.cons (.refl _) (.cons (.refl _) (.cons (.refl _) (.nil _)))) (by simp) ?_
      (conv => arg 2; whnf); refine wp_callF [] [.obj b (prL s l1 (some m) n1)] [.obj c exZ, .obj d (exC (.mk 12 val0 [] [] [x]))] rfl (must_call b s l1 (some m) n1 5 [41]) ?_
      rintro v R1 ⟨rfl, ⟨hm, _⟩ | ⟨_, rfl⟩⟩
      · cases hm
      · skip
        (conv => arg 2; whnf); refine wp_load (cs := exC (.mk 12 val0 [] [] [x])) 2 rfl rfl ?_
        (conv => arg 2; whnf); refine wp_storeE (cs := exZ) 1 0 (exC (.mk 12 val0 [] [] [x])) rfl rfl (VleL.refl _) (Nat.le_refl _) rfl (R' := [.obj b (prL s l1 (some m) n1), .obj c (exC (.mk 12 val0 [] [] [x])), .obj d (exC (.mk 12 val0 [] [] [x]))]) rfl ?_
        (conv => arg 2; whnf); refine w_ret1k (R' := [.obj b (prL s l1 (some m) n1)]) c 0 1 rfl rfl rfl rfl rfl (Vle.refl _) (by simp) (nodeK_e (by rw [hf, hr, thenE_e]) _ _ _)
  rw [isP_hdT (by decide)] at h5
  have hf := nodeE_two (s := s) (k := k) hb hn h3 h4 h5
  have hc := (ih l.tail (n + 1) (by omega) hl.tail).mono fun v R' h => nodeK_cases h
  (repeat ((conv => arg 2; whnf); first | refine wp_ite (fun _ => ?_) (fun h => Bool.noConfusion h) | refine wp_ite (fun h => Bool.noConfusion h) (fun _ => ?_)))
  (conv => arg 2; whnf); refine wp_callV [] [.obj b (prL s l.tail none (n + 1))] [.obj c exZ, .obj d exZ] rfl (.cons (.refl _) (.cons (Vle.inc deep rfl (by omega)) .nil)) hc ?_
  rintro v R1 (⟨x, l1, n1, hr, rfl, rfl⟩ | ⟨m, x, l1, n1, hr, rfl, rfl⟩)
  · have hn1 := nodeE_n _ _ _ hr
    have hs1 := (nodeE_ok _ _ _ hl.tail hr).2.2
    (conv => arg 2; whnf); refine wp_allocD exZ rfl fun f hfr => ?_
    have hne : f ≠ b := fun e => hfr 0 b _ rfl (List.cons_ne_nil _ _) e.symm
    clear hfr
    (conv => arg 2; whnf); refine wp_storeE (cs := exZ) 3 0 (exC x) rfl rfl (VleL.refl _) (Nat.le_refl _) rfl (R' := [.obj b (prL s l1 none n1), .obj c exZ, .obj d exZ, .obj f (exC x)]) rfl ?_
    refine wp_cutR (frL [(0, .loc b 0), (1, i64V deep), (4, .loc c 0), (8, .loc d 0), (9, .loc f 0)]) [.obj b (prL s l1 none n1), .obj c exZ, .obj d exZ, .obj f (exC x)] (.cons (.refl _) (.cons (.refl _) (.cons (.refl _) (.cons (.refl _) (.cons (.refl _) (.nil _)))))) (by simp) ?_
    (conv => arg 2; whnf); refine wp_callF [] [.obj b (prL s l1 none n1)] [.obj c exZ, .obj d exZ, .obj f (exC x)] rfl (op_call b s l1 none n1) ?_
    rintro v R1 (⟨_, ho, rfl, rfl⟩ | ⟨ho, rfl, rfl⟩)
    · have hc2 := (ih l1.tail n1 hn1 (hl.tail.suf hs1).tail).mono fun v R' h => nodeK_cases h
      refine wp_cutR (frL [(0, .loc b 0), (1, i64V deep), (4, .loc c 0), (8, .loc d 0), (9, .loc f 0), (10, i64V (osW (l1.headD wd0)))]) [.obj b (prL s l1.tail none n1), .obj c exZ, .obj d exZ, .obj f (exC x)] (.cons (.refl _) (.cons (.refl _) (.cons (.refl _) (.cons (.refl _) (.cons (.refl _) (.cons (.refl _) (.nil _))))))) (List.Sublist.refl _) ?_
      (conv => arg 2; whnf); refine wp_need (lates1 f 0 b 0 rfl rfl rfl hne) ?_
      (conv => arg 2; whnf); refine wp_load (cs := exC x) 3 rfl rfl ?_
      (conv => arg 2; whnf); refine wp_dcallV [] [.obj b (prL s l1.tail none n1)] [.obj c exZ, .obj d exZ, .obj f (exC x)] rfl (okq1 0 (by decide) rfl) (.cons (.refl _) (.cons (Vle.inc deep rfl (by omega)) .nil)) hc2 ?_
      rintro v R1 (⟨y, l2, n2, hr2, rfl, rfl⟩ | ⟨m, y, l2, n2, hr2, rfl, rfl⟩)
      · skip
        (conv => arg 2; whnf); refine wp_storeE (cs := exZ) 2 0 (exC (.mk (osW (l1.headD wd0)) val0 [] [] [x, y])) rfl rfl (two_vle (osW (l1.headD wd0)) x y) (Nat.le_refl _) rfl (R' := [.obj b (prL s l2 none n2), .obj c exZ, .obj d (exC (.mk (osW (l1.headD wd0)) val0 [] [] [x, y])), .obj f (exC x)]) rfl ?_
        refine wp_cutR (frL [(0, .loc b 0), (4, .loc c 0), (8, .loc d 0)]) [.obj b (prL s l2 none n2), .obj c exZ, .obj d (exC (.mk (osW (l1.headD wd0)) val0 [] [] [x, y]))] (.cons (.refl _) (.cons (.refl _) (.cons (.refl _) (.nil _)))) (by simp) ?_
        (conv => arg 2; whnf); refine wp_callF [] [.obj b (prL s l2 none n2)] [.obj c exZ, .obj d (exC (.mk (osW (l1.headD wd0)) val0 [] [] [x, y]))] rfl (must_call b s l2 none n2 5 [41]) ?_
        rintro v R1 ⟨rfl, ⟨hm, rfl⟩ | ⟨hm, rfl⟩⟩
        · rw [isP_hdT (by decide)] at hm
          (conv => arg 2; whnf); refine wp_load (cs := exC (.mk (osW (l1.headD wd0)) val0 [] [] [x, y])) 2 rfl rfl ?_
          (conv => arg 2; whnf); refine wp_storeE (cs := exZ) 1 0 (exC (.mk (osW (l1.headD wd0)) val0 [] [] [x, y])) rfl rfl (VleL.refl _) (Nat.le_refl _) rfl (R' := [.obj b (prL s l2.tail none n2), .obj c (exC (.mk (osW (l1.headD wd0)) val0 [] [] [x, y])), .obj d (exC (.mk (osW (l1.headD wd0)) val0 [] [] [x, y]))]) rfl ?_
          (conv => arg 2; whnf); refine w_ret1k (R' := [.obj b (prL s l2.tail none n2)]) c 0 1 rfl rfl rfl rfl rfl (Vle.refl _) (by simp) (nodeK_ok (by rw [hf, hr, thenE_o, osE_t ho, thenE_o, hr2, thenE_o, mustE_t hm]))
        · rw [isP_hdT (by decide)] at hm
          (conv => arg 2; whnf); refine wp_load (cs := exC (.mk (osW (l1.headD wd0)) val0 [] [] [x, y])) 2 rfl rfl ?_
          (conv => arg 2; whnf); refine wp_storeE (cs := exZ) 1 0 (exC (.mk (osW (l1.headD wd0)) val0 [] [] [x, y])) rfl rfl (VleL.refl _) (Nat.le_refl _) rfl (R' := [.obj b (prL s l2 (some 10) n2), .obj c (exC (.mk (osW (l1.headD wd0)) val0 [] [] [x, y])), .obj d (exC (.mk (osW (l1.headD wd0)) val0 [] [] [x, y]))]) rfl ?_
          (conv => arg 2; whnf); refine w_ret1k (R' := [.obj b (prL s l2 (some 10) n2)]) c 0 1 rfl rfl rfl rfl rfl (Vle.refl _) (by simp) (nodeK_e (by rw [hf, hr, thenE_o, osE_t ho, thenE_o, hr2, thenE_o, mustE_f hm]) _ _ _)
      · skip
        (conv => arg 2; whnf); refine wp_storeE (cs := exZ) 2 0 (exC (.mk (osW (l1.headD wd0)) val0 [] [] [x, y])) rfl rfl (two_vle (osW (l1.headD wd0)) x y) (Nat.le_refl _) rfl (R' := [.obj b (prL s l2 (some m) n2), .obj c exZ, .obj d (exC (.mk (osW (l1.headD wd0)) val0 [] [] [x, y])), .obj f (exC x)]) rfl ?_
        refine wp_cutR (frL [(0, .loc b 0), (4, .loc c 0), (8, .loc d 0)]) [.obj b (prL s l2 (some m) n2), .obj c exZ, .obj d (exC (.mk (osW (l1.headD wd0)) val0 [] [] [x, y]))] (.cons (.refl _) (.cons (.refl _) (.cons (.refl _) (.nil _)))) (by simp) ?_
        (conv => arg 2; whnf); refine wp_callF [] [.obj b (prL s l2 (some m) n2)] [.obj c exZ, .obj d (exC (.mk (osW (l1.headD wd0)) val0 [] [] [x, y]))] rfl (must_call b s l2 (some m) n2 5 [41]) ?_
        rintro v R1 ⟨rfl, ⟨hm, _⟩ | ⟨_, rfl⟩⟩
        · cases hm
        · skip
          (conv => arg 2; whnf); refine wp_load (cs := exC (.mk (osW (l1.headD wd0)) val0 [] [] [x, y])) 2 rfl rfl ?_
          (conv => arg 2; whnf); refine wp_storeE (cs := exZ) 1 0 (exC (.mk (osW (l1.headD wd0)) val0 [] [] [x, y])) rfl rfl (VleL.refl _) (Nat.le_refl _) rfl (R' := [.obj b (prL s l2 (some m) n2), .obj c (exC (.mk (osW (l1.headD wd0)) val0 [] [] [x, y])), .obj d (exC (.mk (osW (l1.headD wd0)) val0 [] [] [x, y]))]) rfl ?_
          (conv => arg 2; whnf); refine w_ret1k (R' := [.obj b (prL s l2 (some m) n2)]) c 0 1 rfl rfl rfl rfl rfl (Vle.refl _) (by simp) (nodeK_e (by rw [hf, hr, thenE_o, osE_t ho, thenE_o, hr2, thenE_e]) _ _ _)
    · have ho : osW (l1.headD wd0) = 0 := ho.resolve_left (fun h => h rfl)
      refine wp_cutR (frL [(0, .loc b 0), (1, i64V deep), (4, .loc c 0), (8, .loc d 0), (9, .loc f 0), (10, i64V 11)]) [.obj b (prL s l1 (some 10) n1), .obj c exZ, .obj d exZ, .obj f (exC x)] (.cons (.refl _) (.cons (.refl _) (.cons (.refl _) (.cons (.refl _) (.cons (.refl _) (.cons (.refl _) (.nil _))))))) (List.Sublist.refl _) ?_
      (conv => arg 2; whnf); refine wp_need (lates1 f 0 b 0 rfl rfl rfl hne) ?_
      (conv => arg 2; whnf); refine wp_load (cs := exC x) 3 rfl rfl ?_
      (conv => arg 2; whnf); refine wp_dcallV [] [.obj b (prL s l1 (some 10) n1)] [.obj c exZ, .obj d exZ, .obj f (exC x)] rfl (okq1 0 (by decide) rfl) (.cons (.refl _) (.cons (Vle.inc deep rfl (by omega)) .nil)) (node_err b s l1 10 n1 (deep + 1) hs) ?_
      rintro v R1 ⟨rfl, rfl⟩
      (conv => arg 2; whnf); refine wp_storeE (cs := exZ) 2 0 (exC (.mk 11 val0 [] [] [x, ex0])) rfl rfl (two_vle 11 x ex0) (Nat.le_refl _) rfl (R' := [.obj b (prL s l1 (some 10) n1), .obj c exZ, .obj d (exC (.mk 11 val0 [] [] [x, ex0])), .obj f (exC x)]) rfl ?_
      refine wp_cutR (frL [(0, .loc b 0), (4, .loc c 0), (8, .loc d 0)]) [.obj b (prL s l1 (some 10) n1), .obj c exZ, .obj d (exC (.mk 11 val0 [] [] [x, ex0]))] (.cons (.refl _) (.cons (.refl _) (.cons (.refl _) (.nil _)))) (by simp) ?_
      (conv => arg 2; whnf); refine wp_callF [] [.obj b (prL s l1 (some 10) n1)] [.obj c exZ, .obj d (exC (.mk 11 val0 [] [] [x, ex0]))] rfl (must_call b s l1 (some 10) n1 5 [41]) ?_
      rintro v R1 ⟨rfl, ⟨hm, _⟩ | ⟨_, rfl⟩⟩
      · cases hm
      · skip
        (conv => arg 2; whnf); refine wp_load (cs := exC (.mk 11 val0 [] [] [x, ex0])) 2 rfl rfl ?_
        (conv => arg 2; whnf); refine wp_storeE (cs := exZ) 1 0 (exC (.mk 11 val0 [] [] [x, ex0])) rfl rfl (VleL.refl _) (Nat.le_refl _) rfl (R' := [.obj b (prL s l1 (some 10) n1), .obj c (exC (.mk 11 val0 [] [] [x, ex0])), .obj d (exC (.mk 11 val0 [] [] [x, ex0]))]) rfl ?_
        (conv => arg 2; whnf); refine w_ret1k (R' := [.obj b (prL s l1 (some 10) n1)]) c 0 1 rfl rfl rfl rfl rfl (Vle.refl _) (by simp) (nodeK_e (by rw [hf, hr, thenE_o, osE_f ho, thenE_e]) _ _ _)
  · skip
    (conv => arg 2; whnf); refine wp_allocD exZ rfl fun f hfr => ?_
    have hne : f ≠ b := fun e => hfr 0 b _ rfl (List.cons_ne_nil _ _) e.symm
    clear hfr
    (conv => arg 2; whnf); refine wp_storeE (cs := exZ) 3 0 (exC x) rfl rfl (VleL.refl _) (Nat.le_refl _) rfl (R' := [.obj b (prL s l1 (some m) n1), .obj c exZ, .obj d exZ, .obj f (exC x)]) rfl ?_
    refine wp_cutR (frL [(0, .loc b 0), (1, i64V deep), (4, .loc c 0), (8, .loc d 0), (9, .loc f 0)]) [.obj b (prL s l1 (some m) n1), .obj c exZ, .obj d exZ, .obj f (exC x)] (.cons (.refl _) (.cons (.refl _) (.cons (.refl _) (.cons (.refl _) (.cons (.refl _) (.nil _)))))) (by simp) ?_
    (conv => arg 2; whnf); refine wp_callF [] [.obj b (prL s l1 (some m) n1)] [.obj c exZ, .obj d exZ, .obj f (exC x)] rfl (op_call b s l1 (some m) n1) ?_
    rintro v R1 (⟨h, _, _, _⟩ | ⟨_, rfl, rfl⟩)
    · cases h
    refine wp_cutR (frL [(0, .loc b 0), (1, i64V deep), (4, .loc c 0), (8, .loc d 0), (9, .loc f 0), (10, i64V 11)]) [.obj b (prL s l1 (some m) n1), .obj c exZ, .obj d exZ, .obj f (exC x)] (.cons (.refl _) (.cons (.refl _) (.cons (.refl _) (.cons (.refl _) (.cons (.refl _) (.cons (.refl _) (.nil _))))))) (List.Sublist.refl _) ?_
    (conv => arg 2; whnf); refine wp_need (lates1 f 0 b 0 rfl rfl rfl hne) ?_
    (conv => arg 2; whnf); refine wp_load (cs := exC x) 3 rfl rfl ?_
    (conv => arg 2; whnf); refine wp_dcallV [] [.obj b (prL s l1 (some m) n1)] [.obj c exZ, .obj d exZ, .obj f (exC x)] rfl (okq1 0 (by decide) rfl) (.cons (.refl _) (.cons (Vle.inc deep rfl (by omega)) .nil)) (node_err b s l1 m n1 (deep + 1) hs) ?_
    rintro v R1 ⟨rfl, rfl⟩
    (conv => arg 2; whnf); refine wp_storeE (cs := exZ) 2 0 (exC (.mk 11 val0 [] [] [x, ex0])) rfl rfl (two_vle 11 x ex0) (Nat.le_refl _) rfl (R' := [.obj b (prL s l1 (some m) n1), .obj c exZ, .obj d (exC (.mk 11 val0 [] [] [x, ex0])), .obj f (exC x)]) rfl ?_
    refine wp_cutR (frL [(0, .loc b 0), (4, .loc c 0), (8, .loc d 0)]) [.obj b (prL s l1 (some m) n1), .obj c exZ, .obj d (exC (.mk 11 val0 [] [] [x, ex0]))] (.cons (.refl _) (.cons (.refl _) (.cons (.refl _) (.nil _)))) (by simp) ?_
    (conv => arg 2; whnf); refine wp_callF [] [.obj b (prL s l1 (some m) n1)] [.obj c exZ, .obj d (exC (.mk 11 val0 [] [] [x, ex0]))] rfl (must_call b s l1 (some m) n1 5 [41]) ?_
    rintro v R1 ⟨rfl, ⟨hm, _⟩ | ⟨_, rfl⟩⟩
    · cases hm
    · skip
      (conv => arg 2; whnf); refine wp_load (cs := exC (.mk 11 val0 [] [] [x, ex0])) 2 rfl rfl ?_
      (conv => arg 2; whnf); refine wp_storeE (cs := exZ) 1 0 (exC (.mk 11 val0 [] [] [x, ex0])) rfl rfl (VleL.refl _) (Nat.le_refl _) rfl (R' := [.obj b (prL s l1 (some m) n1), .obj c (exC (.mk 11 val0 [] [] [x, ex0])), .obj d (exC (.mk 11 val0 [] [] [x, ex0]))]) rfl ?_
      (conv => arg 2; whnf); refine w_ret1k (R' := [.obj b (prL s l1 (some m) n1)]) c 0 1 rfl rfl rfl rfl rfl (Vle.refl _) (by simp) (nodeK_e (by rw [hf, hr, thenE_e]) _ _ _)

theorem node_call (b : Nat) (s : List UInt8) (hs : s.length < 2 ^ 40) : ∀ (k deep : Nat) (l : List Wd) (n : Nat), deep + k = 6 → n ≤ 24 → AllOk s.length l → SCall Tryz.prog 29 [.loc b 0, i64V (deep : Int)] [.obj b (prL s l none n)] (nodeK b s (nodeE s k l n))
  | 0, deep, l, n, hd, hn, hl => by
    obtain rfl : deep = 6 := by omega
    exact node_zero b s hs l n hn hl
  | k + 1, deep, l, n, hd, hn, hl => node_succ b s hs k deep (by omega) (fun l n h1 h2 => node_call b s hs k (deep + 1) l n (by omega) h1 h2) l n hn hl
end Go.Sv
/- The program's parser: a pattern's element. -/
namespace Go.Sv
open Go Go.Proofs

def mayL (l : List Wd) (e : Option Nat) (kind : Nat) (t : List UInt8) : List Wd := if isP l e kind t then l.tail else l
def mustX (l : List Wd) (e : Option Nat) (kind : Nat) (t : List UInt8) : Option Nat := if isP l e kind t then e else failE e 10
def takeW (l : List Wd) (e : Option Nat) (kind : Nat) : Wd := if isP l e kind [] then l.headD wd0 else wd0

theorem may_x (b : Nat) (s : List UInt8) (l : List Wd) (e : Option Nat) (n kind : Nat) (t : List UInt8) : SCall Tryz.prog 43 [.loc b 0, i64V kind, str t] [.obj b (prL s l e n)] fun v R' => v = bV (isP l e kind t) ∧ R' = [.obj b (prL s (mayL l e kind t) e n)] := by
  refine (may_call b s l e n kind t).mono ?_
  rintro v R' (⟨h, rfl, rfl⟩ | ⟨h, rfl, rfl⟩)
  · rw [mayL, if_pos h, h]; exact ⟨rfl, rfl⟩
  · rw [mayL, h]; exact ⟨rfl, rfl⟩
theorem must_x (b : Nat) (s : List UInt8) (l : List Wd) (e : Option Nat) (n kind : Nat) (t : List UInt8) : SCall Tryz.prog 41 [.loc b 0, i64V kind, str t] [.obj b (prL s l e n)] fun v R' => v = .tup [] ∧ R' = [.obj b (prL s (mayL l e kind t) (mustX l e kind t) n)] := by
  refine (must_call b s l e n kind t).mono ?_
  rintro v R' ⟨rfl, ⟨h, rfl⟩ | ⟨h, rfl⟩⟩
  · rw [mayL, mustX, if_pos h, if_pos h]; exact ⟨rfl, rfl⟩
  · rw [mayL, mustX, h]; exact ⟨rfl, rfl⟩
theorem take_x (b : Nat) (s : List UInt8) (l : List Wd) (e : Option Nat) (n kind : Nat) : SCall Tryz.prog 46 [.loc b 0, i64V kind] [.obj b (prL s l e n)] fun v R' => v = wdV (takeW l e kind) ∧ R' = [.obj b (prL s (mayL l e kind []) (mustX l e kind []) n)] := by
  refine (take_call b s l e n kind).mono ?_
  rintro v R' (⟨h, rfl, rfl⟩ | ⟨h, rfl, rfl⟩)
  · rw [mayL, mustX, takeW, if_pos h, if_pos h, if_pos h]; exact ⟨rfl, rfl⟩
  · rw [mayL, mustX, takeW, h]; exact ⟨rfl, rfl⟩
theorem mayL_suf (l : List Wd) (e : Option Nat) (kind : Nat) (t : List UInt8) : mayL l e kind t <:+ l := by
  unfold mayL
  split
  · exact tail_suf l
  · exact List.suffix_refl _
theorem mustX_some {l : List Wd} {m kind : Nat} {t : List UInt8} : mustX l (some m) kind t = some m := by
  rw [mustX, isP_some]; rfl

/-- What is left stands for such a result. -/
def Sim {α : Type} (r : Got α) (x : α) (l : List Wd) (e : Option Nat) (n : Nat) : Prop := (e = none → r = .ok (x, l, n)) ∧ ∀ m, e = some m → r = .error m
theorem Sim.bind {α β : Type} {r : Got α} {f : α → List Wd → Nat → Got β} {x : α} {y : β} {l l' : List Wd} {e e' : Option Nat} {n n' : Nat} (h : Sim r x l e n) (he : ∀ m, e = some m → e' = some m) (hf : e = none → Sim (f x l n) y l' e' n') : Sim (thenE r f) y l' e' n' := by
  cases e with
  | none => rw [h.1 rfl, thenE_o]; exact hf rfl
  | some m =>
    rw [h.2 m rfl, thenE_e, he m rfl]
    exact ⟨fun h => (by cases h), fun k hk => by cases hk; rfl⟩
theorem Sim.ok {α : Type} {x : α} {l : List Wd} {n : Nat} : Sim (.ok (x, l, n)) x l none n := ⟨fun _ => rfl, fun m h => by cases h⟩
theorem Sim.err {α : Type} {x : α} {l : List Wd} {n m : Nat} : Sim (.error m) x l (some m) n := ⟨fun h => (by cases h), fun k h => (by cases h; rfl)⟩
theorem sim_must {α : Type} {x : α} {l : List Wd} {n kind : Nat} {t : List UInt8} (ht : t ≠ []) : Sim (mustE kind t x l n) x (mayL l none kind t) (mustX l none kind t) n := by
  rw [mayL, mustX, isP_hdT ht]
  cases h : hdT kind t l with
  | true => rw [mustE_t h, if_pos rfl, if_pos rfl]; exact Sim.ok
  | false => rw [mustE_f h, if_neg (by decide), if_neg (by decide)]; exact Sim.err
theorem sim_take {l : List Wd} {n kind : Nat} : Sim (takeE kind l n) (takeW l none kind) (mayL l none kind []) (mustX l none kind []) n := by
  rw [mayL, mustX, takeW, isP_hdK]
  cases h : hdK kind l with
  | true => rw [takeE_t h, if_pos rfl, if_pos rfl, if_pos rfl]; exact Sim.ok
  | false => rw [takeE_f h, if_neg (by decide), if_neg (by decide)]; exact Sim.err
def startE {α : Type} (e : Option Nat) (r : Got α) : Got α := match e with
  | none => r
  | some m => .error m
theorem Sim.start {α : Type} {e : Option Nat} {r : Got α} {x : α} {l : List Wd} {e' : Option Nat} {n : Nat} (he : ∀ m, e = some m → e' = some m) (h : e = none → Sim r x l e' n) : Sim (startE e r) x l e' n := by
  cases e with
  | none => exact h rfl
  | some m => rw [he m rfl]; exact Sim.err
theorem optT_may {kind : Nat} {t : List UInt8} {l : List Wd} (ht : t ≠ []) : mayL l none kind t = optT kind t l := by rw [mayL, optT, isP_hdT ht]

def GK {α : Type} (C : α → List V) (b : Nat) (s : List UInt8) (r : Got α) (v : V) (R' : List Res) : Prop := ∃ x l' e' n', v = .agg (C x) ∧ R' = [.obj b (prL s l' e' n')] ∧ Sim r x l' e' n'

theorem node_gen (b : Nat) (s : List UInt8) (hs : s.length < 2 ^ 40) (l : List Wd) (hl : AllOk s.length l) : SCall Tryz.prog 29 [.loc b 0, i64V 1] [.obj b (prL s l none 0)] (GK exC b s (nodeE s 5 l 0)) := by
  refine (node_call b s hs 5 1 l 0 rfl (by omega) hl).mono fun v R' h => ?_
  rcases nodeK_cases h with ⟨x, l', n', hr, rfl, rfl⟩ | ⟨m, x, l', n', hr, rfl, rfl⟩
  · exact ⟨x, l', none, n', rfl, rfl, hr ▸ Sim.ok⟩
  · exact ⟨x, l', some m, n', rfl, rfl, hr ▸ Sim.err⟩

/-- Types so far. -/
structure TyInv (r0 : Got (List (List UInt8))) (m : Nat) (acc : List (List UInt8)) (l : List Wd) (e : Option Nat) (n M : Nat) (L0 : List Wd) : Prop where
  suf : l <:+ L0
  ok : e = none → r0 = typesE m acc l n ∧ l.length ≤ m
  er : ∀ k, e = some k → r0 = .error k
  len : acc.length + l.length ≤ M
theorem TyInv.step {r0 : Got (List (List UInt8))} {m : Nat} {acc : List (List UInt8)} {l : List Wd} {e : Option Nat} {n M : Nat} {L0 : List Wd} (h : TyInv r0 m acc l e n M L0) (hb : isP l e 5 [124] = true) :
    e = none ∧ TyInv r0 (m - 1) (acc ++ [(takeW l.tail e 1).text]) (mayL l.tail e 1 []) (mustX l.tail e 1 []) n M L0 ∧ 0 < m ∧ acc.length < M := by
  have he := isP_none hb
  subst he
  obtain ⟨w, r, rfl⟩ := isP_cons hb
  rw [isP_hdT (by decide)] at hb
  obtain ⟨h1, h2⟩ := h.ok rfl
  have h3 := h.len
  rw [List.length_cons] at h2 h3
  obtain ⟨k, rfl⟩ : ∃ k, m = k + 1 := ⟨m - 1, by omega⟩
  rw [typesE, if_pos hb] at h1
  refine ⟨rfl, ?_, by omega, by omega⟩
  show TyInv r0 k (acc ++ [(takeW r none 1).text]) (mayL r none 1 []) (mustX r none 1 []) n M L0
  have hsf := suf_len (mayL_suf r none 1 [])
  have hst := sim_take (l := r) (n := n) (kind := 1)
  refine ⟨(mayL_suf r none 1 []).trans ((List.suffix_cons w r).trans h.suf), fun he => ⟨?_, by omega⟩, fun q hq => ?_, ?_⟩
  · rw [h1, show (w :: r).tail = r from rfl, hst.1 he, thenE_o]
  · rw [h1, show (w :: r).tail = r from rfl, hst.2 q hq, thenE_e]
  · rw [List.length_append, List.length_singleton]; omega
theorem TyInv.fin {r0 : Got (List (List UInt8))} {m : Nat} {acc : List (List UInt8)} {l : List Wd} {e : Option Nat} {n M : Nat} {L0 : List Wd} (h : TyInv r0 m acc l e n M L0) (hb : isP l e 5 [124] = false) : Sim r0 acc l e n := by
  refine ⟨fun he => ?_, h.er⟩
  subst he
  rw [isP_hdT (by decide)] at hb
  rw [(h.ok rfl).1]
  cases m with
  | zero => rfl
  | succ k => rw [typesE, hb]; rfl

/-- What an element's walk comes to. -/
theorem elem_sim {s : List UInt8} {l l1 l2 l3 l4 l5 l6 l' : List Wd} {e e2 e3 e4 e5 e' : Option Nat} {n n' : Nat} {b1 b6 : Bool} {w2 w4 : Wd} {acc : List (List UInt8)} {x : Ex}
    (hb1 : b1 = isP l e 5 [33]) (hl1 : l1 = mayL l e 5 [33]) (hw2 : w2 = takeW l1 e 1) (hl2 : l2 = mayL l1 e 1 []) (he2 : e2 = mustX l1 e 1 []) (hl3 : l3 = mayL l2 e2 5 [58]) (he3 : e3 = mustX l2 e2 5 [58])
    (hw4 : w4 = takeW l3 e3 1) (hl4 : l4 = mayL l3 e3 1 []) (he4 : e4 = mustX l3 e3 1 []) (hS : Sim (startE e4 (typesE l4.length [w4.text] l4 n)) acc l5 e5 n) (hb6 : b6 = isP l5 e5 5 [43]) (hl6 : l6 = mayL l5 e5 5 [43])
    (hx : ∀ m, e5 = some m → e' = some m) (hc : e5 = none → Sim (condE s l6 n) x l' e' n') : Sim (startE e (elemE s l n)) ⟨w2.text, acc, b6, b1, x⟩ l' e' n' := by
  have x5 : ∀ m, e4 = some m → e5 = some m := fun m hm => by
    rw [hm] at hS
    cases he5 : e5 with
    | none => have := hS.1 he5; cases this
    | some k => have := hS.2 k he5; cases this; rfl
  have x4 : ∀ m, e3 = some m → e4 = some m := fun m hm => by rw [he4, hm, mustX_some]
  have x3 : ∀ m, e2 = some m → e3 = some m := fun m hm => by rw [he3, hm, mustX_some]
  have x2 : ∀ m, e = some m → e2 = some m := fun m hm => by rw [he2, hm, mustX_some]
  refine Sim.start (fun m hm => hx m (x5 m (x4 m (x3 m (x2 m hm))))) fun he => ?_
  subst he
  unfold elemE
  have h0 : optT 5 [33] l = l1 := by rw [hl1, optT_may (by decide)]
  rw [h0, hw2]
  refine Sim.bind (x := takeW l1 none 1) (l := l2) (e := e2) (n := n) (by rw [hl2, he2]; exact sim_take) (fun m hm => hx m (x5 m (x4 m (x3 m hm)))) fun h2 => ?_
  subst h2
  refine Sim.bind (x := ()) (l := l3) (e := e3) (n := n) (by rw [hl3, he3]; exact sim_must (by decide)) (fun m hm => hx m (x5 m (x4 m hm))) fun h3 => ?_
  subst h3
  refine Sim.bind (x := w4) (l := l4) (e := e4) (n := n) (by rw [hl4, he4, hw4]; exact sim_take) (fun m hm => hx m (x5 m hm)) fun h4 => ?_
  subst h4
  refine Sim.bind hS (fun m hm => hx m hm) fun h5 => ?_
  subst h5
  have h7 : optT 5 [43] l5 = l6 := by rw [hl6, optT_may (by decide)]
  rw [h7]
  refine Sim.bind (hc rfl) (fun m hm => hm) fun h6 => ?_
  subst h6
  rw [hb1, hb6, isP_hdT (by decide), isP_hdT (by decide)]
  exact Sim.ok

theorem cond_yes {s : List UInt8} {l6 l8 : List Wd} {e5 e8 : Option Nat} {n n8 : Nat} {x : Ex} (hk : isP l6 e5 5 [91] = true) (hN : Sim (nodeE s 5 l6.tail 0) x l8 e8 n8) : e5 = none → Sim (condE s l6 n) x (mayL l8 e8 5 [93]) (mustX l8 e8 5 [93]) n8 := by
  intro he
  subst he
  rw [isP_hdT (by decide)] at hk
  rw [condE, if_pos hk]
  refine Sim.bind hN (fun m hm => by rw [hm, mustX_some]) fun h => ?_
  subst h
  exact sim_must (by decide)
theorem cond_no {s : List UInt8} {l6 : List Wd} {e5 : Option Nat} {n : Nat} (hk : isP l6 e5 5 [91] = false) : e5 = none → Sim (condE s l6 n) ex0 l6 e5 n := by
  intro he
  subst he
  rw [isP_hdT (by decide)] at hk
  rw [condE, hk]
  exact Sim.ok
/-- An element's cells while its types may still grow. -/
def elK (t : Nat) (a : List UInt8) (ty : List (List UInt8)) (p q : Bool) (xc : List V) : List V := str a :: .sl none (ty.map str) (.t t) :: bV p :: bV q :: xc
def elH (a : List UInt8) (q : Bool) : List V := str a :: .sl none [] .zero :: bV false :: bV q :: exZ
theorem elK_vle (t : Nat) (a : List UInt8) (ty : List (List UInt8)) (p q : Bool) {xc : List V} {x : Ex} (h : VleL xc (exC x)) : VleL (elK t a ty p q xc) (elC ⟨a, ty, p, q, x⟩) := .cons (.refl _) (.cons (Vle.sl _ _ _) (.cons (.refl _) (.cons (.refl _) h)))
theorem exZ_vle : VleL exZ (exC ex0) := .cons (.refl _) (.cons (.refl _) (.cons (.refl _) (.cons (.refl _) (.cons (.refl _) (.cons (.refl _) (.cons (Vle.nil _ _ _) .nil))))))
theorem ty_app (acc : List (List UInt8)) (u : List UInt8) (t : Nat) : V.sl none (acc.map str ++ [str u]) (.t t) = V.sl none ((acc ++ [u]).map str) (.t t) := by rw [List.map_append]; rfl
theorem one_str (u : List UInt8) : ∀ y ∈ [str u], okE none y := fun y hy => by rw [List.mem_singleton.1 hy]; rfl

set_option maxRecDepth 100000 in
theorem elem_call (b : Nat) (s : List UInt8) (hs : s.length < 2 ^ 40) (l : List Wd) (e : Option Nat) (n : Nat) (hl : AllOk s.length l) (hlen : l.length ≤ 2 ^ 30) : SCall Tryz.prog 42 [.loc b 0] [.obj b (prL s l e n)] (GK elC b s (startE e (elemE s l n))) := by
  obtain ⟨b1, hb1⟩ : ∃ x, x = isP l e 5 [33] := ⟨_, rfl⟩
  obtain ⟨l1, hl1⟩ : ∃ x, x = mayL l e 5 [33] := ⟨_, rfl⟩
  have c1 := may_x b s l e n 5 [33]
  rw [← hb1, ← hl1] at c1
  obtain ⟨w2, hw2⟩ : ∃ x, x = takeW l1 e 1 := ⟨_, rfl⟩
  obtain ⟨l2, hl2⟩ : ∃ x, x = mayL l1 e 1 [] := ⟨_, rfl⟩
  obtain ⟨e2, he2⟩ : ∃ x, x = mustX l1 e 1 [] := ⟨_, rfl⟩
  have c2 := take_x b s l1 e n 1
  rw [← hw2, ← hl2, ← he2] at c2
  obtain ⟨l3, hl3⟩ : ∃ x, x = mayL l2 e2 5 [58] := ⟨_, rfl⟩
  obtain ⟨e3, he3⟩ : ∃ x, x = mustX l2 e2 5 [58] := ⟨_, rfl⟩
  have c3 := must_x b s l2 e2 n 5 [58]
  rw [← hl3, ← he3] at c3
  obtain ⟨w4, hw4⟩ : ∃ x, x = takeW l3 e3 1 := ⟨_, rfl⟩
  obtain ⟨l4, hl4⟩ : ∃ x, x = mayL l3 e3 1 [] := ⟨_, rfl⟩
  obtain ⟨e4, he4⟩ : ∃ x, x = mustX l3 e3 1 [] := ⟨_, rfl⟩
  have c4 := take_x b s l3 e3 n 1
  rw [← hw4, ← hl4, ← he4] at c4
  have s4 : l4 <:+ l := by
    rw [hl4, hl3, hl2, hl1]
    exact (mayL_suf _ _ _ _).trans ((mayL_suf _ _ _ _).trans ((mayL_suf _ _ _ _).trans (mayL_suf _ _ _ _)))
  have inv0 : TyInv (startE e4 (typesE l4.length [w4.text] l4 n)) l4.length [w4.text] l4 e4 n (2 ^ 30 + 1) l4 := by
    refine ⟨List.suffix_refl _, fun h => ?_, fun k h => ?_, ?_⟩
    · rw [h]; exact ⟨rfl, Nat.le_refl _⟩
    · rw [h]; rfl
    · have := suf_len s4
      rw [List.length_singleton]; omega
  refine scall_of (live := [16, 21, 23, 2200000, 10002300000]) (ords := [(3, []), (6, [2, 0, 1, 3, 4, 5, 6, 7, 8]), (7, []), (12, [])]) Tryz.func42 rfl (by kernel_rfl) (by kernel_rfl) (Nat.le_of_ble_eq_true rfl) ?_
  (conv => arg 2; whnf); refine wp_allocE elZ rfl fun c => ?_
  (conv => arg 2; whnf); refine wp_callF [] [.obj b (prL s l e n)] [.obj c elZ] rfl c1 ?_
  rintro v R1 ⟨rfl, rfl⟩
  (conv => arg 2; whnf); refine wp_allocD elZ rfl fun d hfr => ?_
  have hne : d ≠ b := fun e => hfr 0 b _ rfl (List.cons_ne_nil _ _) e.symm
  clear hfr
  (conv => arg 2; whnf); refine wp_storeE (cs := elZ) 2 0 (elH [] b1) rfl rfl (VleL.refl _) (Nat.le_refl _) rfl (R' := [.obj b (prL s l1 e n), .obj c elZ, .obj d (elH [] b1)]) rfl ?_
  (conv => arg 2; whnf); refine wp_callF [] [.obj b (prL s l1 e n)] [.obj c elZ, .obj d (elH [] b1)] rfl c2 ?_
  rintro v R1 ⟨rfl, rfl⟩
  (conv => arg 2; whnf); refine wp_storeE (cs := elH [] b1) 2 0 [str w2.text] rfl rfl (VleL.refl _) (Nat.le_of_ble_eq_true rfl) rfl (R' := [.obj b (prL s l2 e2 n), .obj c elZ, .obj d (elH w2.text b1)]) rfl ?_
  refine wp_cutR (frL [(0, .loc b 0), (2, .loc c 0), (3, .loc d 0)]) [.obj b (prL s l2 e2 n), .obj c elZ, .obj d (elH w2.text b1)] (.cons (.refl _) (.cons (.refl _) (.cons (.refl _) (.nil _)))) (List.Sublist.refl _) ?_
  (conv => arg 2; whnf); refine wp_callF [] [.obj b (prL s l2 e2 n)] [.obj c elZ, .obj d (elH w2.text b1)] rfl c3 ?_
  rintro v R1 ⟨rfl, rfl⟩
  (conv => arg 2; whnf); refine wp_callF [] [.obj b (prL s l3 e3 n)] [.obj c elZ, .obj d (elH w2.text b1)] rfl c4 ?_
  rintro v R1 ⟨rfl, rfl⟩
  (conv => arg 2; whnf)
  intro t0
  (conv => arg 2; whnf); refine wp_storeE (cs := elH w2.text b1) 2 1 [.sl none [str w4.text] (.t t0)] rfl rfl (VleL.refl _) (Nat.le_of_ble_eq_true rfl) rfl (R' := [.obj b (prL s l4 e4 n), .obj c elZ, .obj d (elK t0 w2.text [w4.text] false b1 exZ), .tok t0 none]) rfl ?_
  (conv => arg 2; whnf); refine wp_loop (fun m fr R => ∃ acc l5 e5 t, TyInv (startE e4 (typesE l4.length [w4.text] l4 n)) m acc l5 e5 n (2 ^ 30 + 1) l4 ∧ R = [.obj b (prL s l5 e5 n), .obj c elZ, .obj d (elK t w2.text acc false b1 exZ), .tok t none] ∧ fr = frL [(0, .loc b 0), (2, .loc c 0), (3, .loc d 0)])
    l4.length _ _ (.cons (.refl _) (.cons (.refl _) (.cons (.refl _) (.nil _)))) (List.Sublist.refl _) ⟨_, _, _, _, inv0, rfl, rfl⟩ ?_
  rintro m fr R ⟨acc, l5, e5, t, hI, rfl, rfl⟩
  (conv => arg 2; whnf); refine wp_callF [] [.obj b (prL s l5 e5 n)] [.obj c elZ, .obj d (elK t w2.text acc false b1 exZ), .tok t none] rfl (may_call b s l5 e5 n 5 [124]) ?_
  rintro v R1 (⟨hb, rfl, rfl⟩ | ⟨hb, rfl, rfl⟩)
  · obtain ⟨rfl, hI2, hm, hlt⟩ := hI.step hb
    have hlen2 : (acc.map str).length + 1 ≤ 2 ^ 30 + 2 := by rw [List.length_map]; omega
    (repeat ((conv => arg 2; whnf); first | refine wp_ite (fun _ => ?_) (fun h => Bool.noConfusion h) | refine wp_ite (fun h => Bool.noConfusion h) (fun _ => ?_)))
    refine wp_cutR (frL [(0, .loc b 0), (2, .loc c 0), (3, .loc d 0)]) [.obj b (prL s l5.tail none n), .obj c elZ, .obj d (elK t w2.text acc false b1 exZ), .tok t none] (.cons (.refl _) (.cons (.refl _) (.cons (.refl _) (.nil _)))) (List.Sublist.refl _) ?_
    (conv => arg 2; whnf); refine wp_need (lates1 d 1 b 0 rfl rfl rfl hne) ?_
    (conv => arg 2; whnf); refine wp_load (cs := elK t w2.text acc false b1 exZ) 2 rfl rfl ?_
    (conv => arg 2; whnf); refine wp_dcall [] [.obj b (prL s l5.tail none n)] [.obj c elZ, .obj d (elK t w2.text acc false b1 exZ), .tok t none] rfl (okq1 0 (by decide) rfl) (take_x b s l5.tail none n 1) ?_
    rintro v R1 ⟨rfl, rfl⟩
    (conv => arg 2; whnf); refine wp_append_tok 3 rfl (one_str _) (Nat.le_trans (Nat.mul_le_mul_right _ hlen2) (Nat.le_of_ble_eq_true rfl)) fun t' => ?_
    (conv => arg 2; whnf); refine wp_storeE (cs := elK t w2.text acc false b1 exZ) 2 1 [.sl none ((acc ++ [(takeW l5.tail none 1).text]).map str) (.t t')] rfl rfl (.cons (Vle.eq (ty_app _ _ _)) .nil) (Nat.le_of_ble_eq_true rfl) rfl (R' := [.obj b (prL s (mayL l5.tail none 1 []) (mustX l5.tail none 1 []) n), .obj c elZ, .obj d (elK t' w2.text (acc ++ [(takeW l5.tail none 1).text]) false b1 exZ), .tok t' none]) rfl ?_
    (conv => arg 2; whnf)
    exact wp_leaf (loop_next (m - 1) _ _ (by omega) (.cons (.refl _) (.cons (.refl _) (.cons (.refl _) (.nil _)))) (List.Sublist.refl _) ⟨_, _, _, _, hI2, rfl, rfl⟩)
  have hS := hI.fin hb
  have s5 : l5 <:+ l := hI.suf.trans s4
  clear hI
  (repeat ((conv => arg 2; whnf); first | refine wp_ite (fun _ => ?_) (fun h => Bool.noConfusion h) | refine wp_ite (fun h => Bool.noConfusion h) (fun _ => ?_)))
  (conv => arg 2; whnf)
  refine wp_leaf (loop_exit ?_)
  refine wp_cutR (frL [(0, .loc b 0), (2, .loc c 0), (3, .loc d 0)]) [.obj b (prL s l5 e5 n), .obj c elZ, .obj d (elK t w2.text acc false b1 exZ)] (.cons (.refl _) (.cons (.refl _) (.cons (.refl _) (.nil _)))) (by simp) ?_
  (conv => arg 2; whnf); refine wp_callF [] [.obj b (prL s l5 e5 n)] [.obj c elZ, .obj d (elK t w2.text acc false b1 exZ)] rfl (may_x b s l5 e5 n 5 [43]) ?_
  rintro v R1 ⟨rfl, rfl⟩
  (conv => arg 2; whnf); refine wp_storeE (cs := elK t w2.text acc false b1 exZ) 2 2 [bV (isP l5 e5 5 [43])] rfl rfl (VleL.refl _) (Nat.le_of_ble_eq_true rfl) rfl (R' := [.obj b (prL s (mayL l5 e5 5 [43]) e5 n), .obj c elZ, .obj d (elK t w2.text acc (isP l5 e5 5 [43]) b1 exZ)]) rfl ?_
  (conv => arg 2; whnf); refine wp_callF [] [.obj b (prL s (mayL l5 e5 5 [43]) e5 n)] [.obj c elZ, .obj d (elK t w2.text acc (isP l5 e5 5 [43]) b1 exZ)] rfl (may_call b s (mayL l5 e5 5 [43]) e5 n 5 [91]) ?_
  rintro v R1 (⟨hk, rfl, rfl⟩ | ⟨hk, rfl, rfl⟩)
  · have he5 := isP_none hk
    have s7 : (mayL l5 e5 5 [43]).tail <:+ l := (tail_suf _).trans ((mayL_suf _ _ _ _).trans s5)
    have cn := node_gen b s hs (mayL l5 e5 5 [43]).tail (hl.suf s7)
    rw [← he5] at cn
    (repeat ((conv => arg 2; whnf); first | refine wp_ite (fun _ => ?_) (fun h => Bool.noConfusion h) | refine wp_ite (fun h => Bool.noConfusion h) (fun _ => ?_)))
    (conv => arg 2; whnf); refine wp_storeE (cs := prL s (mayL l5 e5 5 [43]).tail e5 n) 0 3 [i64V 0] rfl rfl (VleL.refl _) (Nat.le_of_ble_eq_true rfl) rfl (R' := [.obj b (prL s (mayL l5 e5 5 [43]).tail e5 0), .obj c elZ, .obj d (elK t w2.text acc (isP l5 e5 5 [43]) b1 exZ)]) rfl ?_
    (conv => arg 2; whnf); refine wp_callF [] [.obj b (prL s (mayL l5 e5 5 [43]).tail e5 0)] [.obj c elZ, .obj d (elK t w2.text acc (isP l5 e5 5 [43]) b1 exZ)] rfl cn ?_
    rintro v R1 ⟨x, l8, e8, n8, rfl, rfl, hN⟩
    (conv => arg 2; whnf); refine wp_storeE (cs := elK t w2.text acc (isP l5 e5 5 [43]) b1 exZ) 2 4 (exC x) rfl rfl (VleL.refl _) (Nat.le_of_ble_eq_true rfl) rfl (R' := [.obj b (prL s l8 e8 n8), .obj c elZ, .obj d (elK t w2.text acc (isP l5 e5 5 [43]) b1 (exC x))]) rfl ?_
    (conv => arg 2; whnf); refine wp_callF [] [.obj b (prL s l8 e8 n8)] [.obj c elZ, .obj d (elK t w2.text acc (isP l5 e5 5 [43]) b1 (exC x))] rfl (must_x b s l8 e8 n8 5 [93]) ?_
    rintro v R1 ⟨rfl, rfl⟩
    (conv => arg 2; whnf)
    refine wp_cutR (frL [(2, .loc c 0), (3, .loc d 0)]) [.obj b (prL s (mayL l8 e8 5 [93]) (mustX l8 e8 5 [93]) n8), .obj c elZ, .obj d (elK t w2.text acc (isP l5 e5 5 [43]) b1 (exC x))] (.cons (.refl _) (.cons (.refl _) (.nil _))) (by simp) ?_
    (conv => arg 2; whnf); refine wp_load (cs := elK t w2.text acc (isP l5 e5 5 [43]) b1 (exC x)) 2 rfl rfl ?_
    (conv => arg 2; whnf); refine wp_storeE (cs := elZ) 1 0 (elC ⟨w2.text, acc, isP l5 e5 5 [43], b1, x⟩) rfl rfl (elK_vle t w2.text acc (isP l5 e5 5 [43]) b1 (VleL.refl _)) (Nat.le_refl _) rfl (R' := [.obj b (prL s (mayL l8 e8 5 [93]) (mustX l8 e8 5 [93]) n8), .obj c (elC ⟨w2.text, acc, isP l5 e5 5 [43], b1, x⟩), .obj d (elK t w2.text acc (isP l5 e5 5 [43]) b1 (exC x))]) rfl ?_
    (conv => arg 2; whnf); refine w_ret1k (R' := [.obj b (prL s (mayL l8 e8 5 [93]) (mustX l8 e8 5 [93]) n8)]) c 0 1 rfl rfl rfl rfl rfl (Vle.refl _) (by simp) ⟨_, _, _, _, rfl, rfl, elem_sim hb1 hl1 hw2 hl2 he2 hl3 he3 hw4 hl4 he4 hS rfl rfl (fun m hm => by rw [he5] at hm; cases hm) (cond_yes hk hN)⟩
  (repeat ((conv => arg 2; whnf); first | refine wp_ite (fun _ => ?_) (fun h => Bool.noConfusion h) | refine wp_ite (fun h => Bool.noConfusion h) (fun _ => ?_)))
  (conv => arg 2; whnf)
  refine wp_cutR (frL [(2, .loc c 0), (3, .loc d 0)]) [.obj b (prL s (mayL l5 e5 5 [43]) e5 n), .obj c elZ, .obj d (elK t w2.text acc (isP l5 e5 5 [43]) b1 exZ)] (.cons (.refl _) (.cons (.refl _) (.nil _))) (by simp) ?_
  (conv => arg 2; whnf); refine wp_load (cs := elK t w2.text acc (isP l5 e5 5 [43]) b1 exZ) 2 rfl rfl ?_
  (conv => arg 2; whnf); refine wp_storeE (cs := elZ) 1 0 (elC ⟨w2.text, acc, isP l5 e5 5 [43], b1, ex0⟩) rfl rfl (elK_vle t w2.text acc (isP l5 e5 5 [43]) b1 exZ_vle) (Nat.le_refl _) rfl (R' := [.obj b (prL s (mayL l5 e5 5 [43]) e5 n), .obj c (elC ⟨w2.text, acc, isP l5 e5 5 [43], b1, ex0⟩), .obj d (elK t w2.text acc (isP l5 e5 5 [43]) b1 exZ)]) rfl ?_
  (conv => arg 2; whnf); refine w_ret1k (R' := [.obj b (prL s (mayL l5 e5 5 [43]) e5 n)]) c 0 1 rfl rfl rfl rfl rfl (Vle.refl _) (by simp) ⟨_, _, _, _, rfl, rfl, elem_sim hb1 hl1 hw2 hl2 he2 hl3 he3 hw4 hl4 he4 hS rfl rfl (fun m hm => hm) (cond_no hk)⟩
end Go.Sv
