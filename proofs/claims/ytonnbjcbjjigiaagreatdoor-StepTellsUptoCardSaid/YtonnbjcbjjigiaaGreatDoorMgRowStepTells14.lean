/- Parts of the proof, one behind the other. -/
import Derived.Test.YtonnbjcbjjigiaaGreatDoorMgRowStepTells13
import Derived.Test.YtonnbjcbjjigiaaGreatDoorProg
import Derived.WalkKit
import Derived.LaidEql
import Derived.Stop.Asserts
import Derived.RowKitTokens
import Derived.Test.YtonnbjcbjjigiaaGreatDoorMgRowStepTells4
import Derived.Below
import Derived.Test.YtonnbjcbjjigiaaGreatDoorMgRowStepTells5
import Derived.Test.YtonnbjcbjjigiaaGreatDoorMgRowStepTells11
namespace Go.Sv
open Go Go.Proofs
def stepV : Option (List (List Bd) × List (List Bd)) → V
  | none => .tup [runsV [], runsV [], i64V 18]
  | some (a, b) => .tup [runsV a, runsV b, i64V 0]
def newF (s : Sc) (p : Pa) (l : List Kp) (q : List (List Bd)) : List (List Bd) := (liveE p l q).flatMap (takeF s p l)
def oldF (s : Sc) (p : Pa) (l : List Kp) (q : List (List Bd)) : List (List Bd) := (heldF s p l q).foldl setR []
section
variable {s : Sc} {p : Pa} {l : List Kp} {q : List (List Bd)} {b : List Bd}
theorem live_snoc : liveE p l (q ++ [b]) = if lateE p l b then liveE p l q else liveE p l q ++ [b] := by
  unfold liveE
  rw [List.filter_append, List.filter_cons]
  cases lateE p l b <;> simp
theorem new_late (h : lateE p l b = true) : newF s p l (q ++ [b]) = newF s p l q := by rw [newF, live_snoc, if_pos h]; rfl
theorem new_snoc (h : lateE p l b = false) : newF s p l (q ++ [b]) = newF s p l q ++ takeF s p l b := by
  rw [newF, live_snoc, if_neg (by rw [h]; decide), List.flatMap_append, newF]; simp
theorem old_late (h : lateE p l b = true) : oldF s p l (q ++ [b]) = oldF s p l q := by rw [oldF, heldF, live_snoc, if_pos h]; rfl
theorem old_go (h : lateE p l b = false) (h' : stayF s p l b = false) : oldF s p l (q ++ [b]) = oldF s p l q := by
  rw [oldF, heldF, live_snoc, if_neg (by rw [h]; decide), List.filter_append, List.filter_cons, if_neg (by rw [h']; decide), List.filter_nil, List.append_nil]; rfl
theorem old_stay (h : lateE p l b = false) (h' : stayF s p l b = true) : oldF s p l (q ++ [b]) = setR (oldF s p l q) b := by
  rw [oldF, heldF, live_snoc, if_neg (by rw [h]; decide), List.filter_append, List.filter_cons, if_pos h', List.filter_nil, List.foldl_append]; rfl
theorem live_sub {x : List Bd} (h : x ∈ liveE p l q) : x ∈ q := (List.mem_filter.1 h).1
theorem take_cases {x : List Bd} (h : x ∈ takeF s p l b) : ∃ k : Nat, k < p.els.length ∧ x = b ++ [⟨k, (lastKp l).at_⟩] ∨ k = (lastBd b).elem ∧ x = b ++ [⟨k, (lastKp l).at_⟩] := by
  unfold takeF at h
  split at h
  · cases h
  · rcases List.mem_append.1 h with h | h <;> unfold takeI at h <;> split at h
    · exact ⟨(lastBd b).elem, .inr ⟨rfl, List.mem_singleton.1 h⟩⟩
    · cases h
    · rename_i hg
      have h := List.mem_singleton.1 h
      unfold nextI at h hg
      cases hn : nextE p (lastBd b).elem with
      | none => rw [hn] at hg; rw [goesI, if_pos (show (-1 : Int) < 0 by decide)] at hg; cases hg
      | some n => rw [hn] at h; exact ⟨n, .inl ⟨(nextE_some hn).2.1, h⟩⟩
    · cases h
theorem takeF_len : (takeF s p l b).length ≤ 2 := by
  unfold takeF
  split
  · simp
  · have := takeI_len s p l b ((lastBd b).elem : Int)
    have := takeI_len s p l b (nextI p (lastBd b).elem)
    rw [List.length_append]; omega
theorem new_len : (newF s p l q).length ≤ 2 * q.length := by
  have : ∀ z : List (List Bd), (z.flatMap (takeF s p l)).length ≤ 2 * z.length := by
    intro z
    induction z with
    | nil => simp
    | cons x z ih =>
      have := takeF_len (s := s) (p := p) (l := l) (b := x)
      rw [List.flatMap_cons, List.length_append, List.length_cons]; omega
  have h1 := this (liveE p l q)
  have h2 : (liveE p l q).length ≤ q.length := List.length_filter_le _ _
  unfold newF; omega
theorem foldset_len : ∀ (a o : List (List Bd)), (a.foldl setR o).length ≤ o.length + a.length
  | [], o => by simp
  | x :: a, o => by
    have h1 := foldset_len a (setR o x)
    have h2 := setR_len o x
    rw [List.foldl_cons, List.length_cons]; omega
theorem foldput_len : ∀ (a o : List (List Bd)), (a.foldl putR o).length ≤ o.length + a.length
  | [], o => by simp
  | x :: a, o => by
    have h1 := foldput_len a (putR o x)
    have h2 := putR_len o x
    rw [List.foldl_cons, List.length_cons]; omega
theorem foldset_mem {z : List Bd} : ∀ {a o : List (List Bd)}, z ∈ a.foldl setR o → z ∈ o ∨ z ∈ a
  | [], o, h => .inl h
  | x :: a, o, h => by
    rcases foldset_mem (a := a) (o := setR o x) h with h | h
    · rcases setR_iff.1 h with h | h
      · exact .inr (by simp [h])
      · exact .inl h
    · exact .inr (by simp [h])
theorem foldput_mem {z : List Bd} : ∀ {a o : List (List Bd)}, z ∈ a.foldl putR o → z ∈ o ∨ z ∈ a
  | [], o, h => .inl h
  | x :: a, o, h => by
    rcases foldput_mem (a := a) (o := putR o x) h with h | h
    · rcases putR_iff.1 h with h | h
      · exact .inr (by simp [h])
      · exact .inl h
    · exact .inr (by simp [h])
end
theorem take_all {α : Type} {l : List α} {n : Nat} {x : α} (h : l[n]? = some x) : l.take (n + 1) = l.take n ++ [x] := by rw [List.take_add_one, h]; rfl
structure RfRuns (p : Pa) (r : List (List Bd)) : Prop where
  n : r.length ≤ 60
  len : ∀ b ∈ r, b.length ≤ 30
  el : ∀ b ∈ r, ∀ y ∈ b, y.elem < p.els.length
theorem old_ok {s : Sc} {p : Pa} {l : List Kp} {r : List (List Bd)} (hr : RfRuns p r) (i : Nat) : (oldF s p l (r.take i)).length ≤ 60 ∧ ∀ b ∈ oldF s p l (r.take i), b.length ≤ 30 := by
  refine ⟨?_, fun b hb => ?_⟩
  · have h1 := foldset_len (heldF s p l (r.take i)) []
    have h2 : (heldF s p l (r.take i)).length ≤ (liveE p l (r.take i)).length := List.length_filter_le _ _
    have h3 : (liveE p l (r.take i)).length ≤ (r.take i).length := List.length_filter_le _ _
    have h4 := hr.n
    rw [List.length_take] at h3
    unfold oldF
    simp only [List.length_nil] at h1
    omega
  · rcases foldset_mem hb with hb | hb
    · cases hb
    · exact hr.len b (List.mem_of_mem_take (live_sub (List.mem_filter.1 hb).1))
theorem fresh_ok {s : Sc} {p : Pa} {l : List Kp} {r : List (List Bd)} (hr : RfRuns p r) : (freshF s p l r).length ≤ 121 ∧ ∀ b ∈ freshF s p l r, b ≠ [] ∧ b.length ≤ 31 := by
  refine ⟨?_, fun b hb => ?_⟩
  · have h1 := new_len (s := s) (p := p) (l := l) (q := r)
    have h2 := hr.n
    unfold newF at h1
    unfold freshF bornR
    rw [List.length_append]
    split <;> simp only [List.length_cons, List.length_nil] <;> omega
  · unfold freshF at hb
    rcases List.mem_append.1 hb with hb | hb
    · obtain ⟨c, hc, hb⟩ := List.mem_flatMap.1 hb
      have := hr.len c (live_sub hc)
      obtain ⟨k, ⟨_, rfl⟩ | ⟨_, rfl⟩⟩ := take_cases hb
      · exact ⟨by simp, by simp; omega⟩
      · exact ⟨by simp, by simp; omega⟩
    · unfold bornR at hb
      split at hb
      · rw [List.mem_singleton.1 hb]; exact ⟨by simp, by simp⟩
      · cases hb
set_option maxRecDepth 100000 in
set_option maxHeartbeats 8000000 in
theorem rstep_call (s : Sc) (hs : ScOk s) (p : Pa) (hp : RfOkP p) (hpos : 0 < p.els.length) (l : List Kp) (hl : RfOkL l) (r : List (List Bd)) (hr : RfRuns p r) :
    PCall Tryz.prog 9 [scV s, .agg (paC p), kpsV l, runsV r] (stepV (stepF s p l r)) := by
  have hpn := hp.n
  have hrn := hr.n
  have fs := rstart_call s hs p hp hpos l hl
  have hold := fun i => old_ok (s := s) (l := l) hr i
  obtain ⟨hfn, hfe⟩ := fresh_ok (s := s) (l := l) hr
  refine scall_of (live := []) (ords := [(9, []), (11, []), (14, []), (18, []), (22, []), (24, [])]) Tryz.func9 rfl (by kernel_rfl) (by kernel_rfl) (Nat.le_of_ble_eq_true rfl) ?_
  (conv=>arg 2;whnf);refine wp_loop (fun m fr R => ∃ (i : Nat) (t : Option Nat), m = r.length - i ∧ i ≤ r.length ∧ (t = none → newF s p l (r.take i) = []) ∧ R = [] ++ (tokR (some 1) t ++ []) ∧ fr = frL [(2, kpsV l), (3, runsV r), (4, .pt (some 1) (scV s) 0), (5, .pt (some 4) (.agg (paC p)) 0), (11, runsV (oldF s p l (r.take i))), (12, .sl (shOf (some 1) t) ((newF s p l (r.take i)).map runV) (tkOf t)), (13, .sl none [] .zero), (14, i64V i)])
    r.length _ _ (.cons (.refl _) (.cons (.refl _) (.cons (.refl _) (.cons (.refl _) (.cons (Vle.gotL (a := .sl none [] .zero) (b := runsV []) (Vle.nil _ _ _) rfl) (.cons (.refl _) (.cons (.refl _) (.cons (.refl _) (.nil _))))))))) (List.Sublist.refl _) ⟨0, none, rfl, Nat.zero_le _, fun _ => rfl, rfl, rfl⟩ ?_
  rintro m fr R ⟨i, t, rfl, hi, ht, rfl, rfl⟩
  obtain ⟨hol, hoe⟩ := hold i
  have hfl : (newF s p l (r.take i)).length ≤ 120 := by
    have := new_len (s := s) (p := p) (l := l) (q := r.take i)
    rw [List.length_take] at this; omega
  obtain ⟨o, ho⟩ : ∃ o, o = oldF s p l (r.take i) := ⟨_, rfl⟩
  obtain ⟨f, hf⟩ : ∃ f, f = newF s p l (r.take i) := ⟨_, rfl⟩
  rw [← ho] at hol hoe
  rw [← hf] at hfl ht
  rw [← ho, ← hf]
  (conv=>arg 2;whnf);refine wp_ite (fun h => ?_) (fun h => ?_)
  · have h : i < r.length := by
      have := of_decide_eq_true h
      rw [List.length_map] at this; omega
    obtain ⟨b, hb⟩ : ∃ b, r[i]? = some b := ⟨_, List.getElem?_eq_getElem h⟩
    have hbm := List.mem_of_getElem? hb
    have hbl := hr.len b hbm
    have htk := take_all hb
    have fl := rlate_call p l hl.toStOkL b
    have ftk := rtake_call s hs p hp l hl b (by omega) (hr.el b hbm)
    have fw := rwith_call o b (by omega) (fun y hy => by have := hoe y hy; omega) (by omega)
    have hlt : r.length - (i + 1) < r.length - i := by omega
    have hi62 : i < 2 ^ 62 := by omega
    have hTl := takeF_len (s := s) (p := p) (l := l) (b := b)
    obtain ⟨lt, hlt0⟩ : ∃ x, x = lateE p l b := ⟨_, rfl⟩
    rw [← hlt0] at fl
    (conv=>arg 2;whnf);refine wp_elem i (runV b) rfl (runs_at hb) (Vle.refl _) ?_
    (conv=>arg 2;whnf);refine wp_pc fl ?_
    clear fl
    cases lt with
    | true =>
      have hn' : newF s p l (r.take (i + 1)) = f := by rw [htk, new_late hlt0.symm, hf]
      have hvo : runsV o = runsV (oldF s p l (r.take (i + 1))) := by rw [htk, old_late hlt0.symm, ho]
      have hvf : V.sl (shOf (some 1) t) (f.map runV) (tkOf t) = .sl (shOf (some 1) t) ((newF s p l (r.take (i + 1))).map runV) (tkOf t) := by rw [hn']
      (repeat ((conv=>arg 2;whnf);first|refine wp_it rfl ?_|refine wp_if rfl ?_))
      (conv=>arg 2;whnf)
      exact wp_leaf (loop_next (r.length - (i + 1)) _ ([] ++ (tokR (some 1) t ++ [])) hlt (.cons (.refl _) (.cons (.refl _) (.cons (.refl _) (.cons (.refl _) (.cons (Vle.of (runsV o) rfl hvo) (.cons (Vle.of (.sl (shOf (some 1) t) (f.map runV) (tkOf t)) rfl hvf) (.cons (.refl _) (.cons (Vle.inc i rfl hi62) (.nil _))))))))) (List.Sublist.refl _) ⟨i + 1, t, rfl, h, fun h => by rw [hn']; exact ht h, rfl, rfl⟩)
    | false =>
      have hn' : newF s p l (r.take (i + 1)) = f ++ takeF s p l b := by rw [htk, new_snoc hlt0.symm, hf]
      have hvs0 : stayF s p l b = true → runsV (setR o b) = runsV (oldF s p l (r.take (i + 1))) := fun e => by rw [htk, old_stay hlt0.symm e, ho]
      have hvg0 : stayF s p l b = false → runsV o = runsV (oldF s p l (r.take (i + 1))) := fun e => by rw [htk, old_go hlt0.symm e, ho]
      unfold stayF at hvs0 hvg0
      obtain ⟨T, hT⟩ : ∃ T, T = takeF s p l b := ⟨_, rfl⟩
      rw [← hT] at ftk hn' hvs0 hvg0 hTl
      have hvf : ∀ t', V.sl (some 1) (f.map runV ++ T.map runV) (.t t') = .sl (shOf (some 1) (some t')) ((newF s p l (r.take (i + 1))).map runV) (tkOf (some t')) := fun t' => by rw [hn', List.map_append]; rfl
      (repeat ((conv=>arg 2;whnf);first|refine wp_it rfl ?_|refine wp_if rfl ?_))
      (conv=>arg 2;whnf);refine wp_elem i (runV b) rfl (runs_at hb) (Vle.refl _) ?_
      (conv=>arg 2;whnf);refine wp_pc ftk ?_
      (conv=>arg 2;whnf);refine wp_append_x (A := []) (B := []) (sh := some 1) (t := t) (xs := f.map runV) (ys := T.map runV) (fun h => by rw [ht h]; rfl) (okE_run T) (show (_ + _) * 24 ≤ _ by rw [List.length_map, List.length_map]; omega) (fun t' S' hS => ?_)
      (conv=>arg 2;whnf);refine wp_cutR (frL [(2, kpsV l), (3, runsV r), (4, .pt (some 1) (scV s) 0), (5, .pt (some 4) (.agg (paC p)) 0), (11, runsV o), (12, .sl (some 1) (f.map runV ++ T.map runV) (.t t')), (13, .sl none [] .zero), (14, i64V i), (15, runsV T)]) ([] ++ (tokR (some 1) (some t') ++ [])) (.cons (.refl _) (.cons (.refl _) (.cons (.refl _) (.cons (.refl _) (.cons (.refl _) (.cons (.refl _) (.cons (.refl _) (.cons (.refl _) (.cons (.refl _) (.nil _)))))))))) hS ?_
      clear hS S'
      by_cases ha : p.any = true
      · have hvs := hvs0 (by rw [ha]; rfl)
        (conv=>arg 2;whnf);refine wp_it ha ?_
        (repeat ((conv=>arg 2;whnf);first|refine wp_it rfl ?_|refine wp_if rfl ?_))
        (conv=>arg 2;whnf);refine wp_elem i (runV b) rfl (runs_at hb) (Vle.refl _) ?_
        (conv=>arg 2;whnf);refine wp_pcall fw ?_
        (conv=>arg 2;whnf)
        exact wp_leaf (loop_next (r.length - (i + 1)) _ ([] ++ (tokR (some 1) (some t') ++ [])) hlt (.cons (.refl _) (.cons (.refl _) (.cons (.refl _) (.cons (.refl _) (.cons (Vle.of (runsV (setR o b)) rfl hvs) (.cons (Vle.of (.sl (some 1) (f.map runV ++ T.map runV) (.t t')) rfl (hvf t')) (.cons (.refl _) (.cons (Vle.inc i rfl hi62) (.nil _))))))))) (List.Sublist.refl _) ⟨i + 1, some t', rfl, h, (fun e => by cases e), rfl, rfl⟩)
      · have ha : p.any = false := by simpa using ha
        (conv=>arg 2;whnf);refine wp_if ha ?_
        by_cases hT0 : T = []
        · have hvs := hvs0 (by rw [ha, hT0]; rfl)
          have e0 : (((T.map runV).length : Int) == 0) = true := by rw [hT0]; rfl
          (conv=>arg 2;whnf);refine wp_it e0 ?_
          (conv=>arg 2;whnf);refine wp_elem i (runV b) rfl (runs_at hb) (Vle.refl _) ?_
          (conv=>arg 2;whnf);refine wp_pcall fw ?_
          (conv=>arg 2;whnf)
          exact wp_leaf (loop_next (r.length - (i + 1)) _ ([] ++ (tokR (some 1) (some t') ++ [])) hlt (.cons (.refl _) (.cons (.refl _) (.cons (.refl _) (.cons (.refl _) (.cons (Vle.of (runsV (setR o b)) rfl hvs) (.cons (Vle.of (.sl (some 1) (f.map runV ++ T.map runV) (.t t')) rfl (hvf t')) (.cons (.refl _) (.cons (Vle.inc i rfl hi62) (.nil _))))))))) (List.Sublist.refl _) ⟨i + 1, some t', rfl, h, (fun e => by cases e), rfl, rfl⟩)
        · have hvg := hvg0 (by rw [ha]; cases T with | nil => exact absurd rfl hT0 | cons => rfl)
          have e0 : (((T.map runV).length : Int) == 0) = false := len_ne hT0
          (conv=>arg 2;whnf);refine wp_if e0 ?_
          (conv=>arg 2;whnf)
          exact wp_leaf (loop_next (r.length - (i + 1)) _ ([] ++ (tokR (some 1) (some t') ++ [])) hlt (.cons (.refl _) (.cons (.refl _) (.cons (.refl _) (.cons (.refl _) (.cons (Vle.of (runsV o) rfl hvg) (.cons (Vle.of (.sl (some 1) (f.map runV ++ T.map runV) (.t t')) rfl (hvf t')) (.cons (.refl _) (.cons (Vle.inc i rfl hi62) (.nil _))))))))) (List.Sublist.refl _) ⟨i + 1, some t', rfl, h, (fun e => by cases e), rfl, rfl⟩)
  · have h : i = r.length := by
      have := of_decide_eq_false h
      rw [List.length_map] at this; omega
    subst h
    rw [List.take_length] at ho hf
    clear hold hi
    (conv=>arg 2;whnf)
    refine wp_leaf (loop_exit ?_)
    (conv=>arg 2;whnf);refine wp_cutR (frL [(2, kpsV l), (4, .pt (some 1) (scV s) 0), (5, .pt (some 4) (.agg (paC p)) 0), (11, runsV o), (12, .sl (shOf (some 1) t) (f.map runV) (tkOf t)), (13, .sl none [] .zero)]) ([] ++ (tokR (some 1) t ++ [])) (.cons (.refl _) (.cons (.refl _) (.cons (.refl _) (.cons (.refl _) (.cons (.refl _) (.cons (.refl _) (.nil _))))))) (List.Sublist.refl _) ?_
    have hF : freshF s p l r = f ++ bornR s p l := by rw [freshF, hf]; rfl
    unfold bornR at hF
    obtain ⟨F, hFe⟩ : ∃ F, F = freshF s p l r := ⟨_, rfl⟩
    rw [← hFe] at hF hfn hfe
    have hvF : Vle (.sl (shOf (some 1) t) (f.map runV) (tkOf t)) (runsV f) := by
      cases t with
      | none => rw [ht rfl]; exact Vle.nil _ _ _
      | some t => exact Vle.sl _ _ _
    have hsz1 : ((f.map runV).length + 1) * 24 ≤ 140737488355328 := by rw [List.length_map]; omega
    have hget : ∀ (u : Nat) (cs : List V), ([] ++ (tokR (some 1) t ++ []) ++ [Res.obj u cs])[(tokR (some 1) t).length]? = some (.obj u cs) := fun u cs => by cases t <;> rfl
    have hget2 : ∀ (u : Nat) (cs : List V), ([] ++ (tokR (some 1) t ++ [Res.obj u cs]))[(tokR (some 1) t).length]? = some (.obj u cs) := fun u cs => by cases t <;> rfl
    have hset : ∀ (u : Nat) (x : List Bd), ([] ++ (tokR (some 1) t ++ []) ++ [Res.obj u runZ]).set (tokR (some 1) t).length (.obj u (splice runZ 0 (runC x))) = [] ++ (tokR (some 1) t ++ [.obj u (runC x)]) := fun u x => by cases t <;> rfl
    apply wp_joinT
    case h1 =>
      intro rest
      have fs0 := fs
      have hF0 := hF
      obtain ⟨st, hst⟩ : ∃ st, st = startR s p l := ⟨_, rfl⟩
      rw [← hst] at fs0 hF0
      cases st with
      | true =>
        have fs : PCall Tryz.prog 34 [scV s, .agg (paC p), kpsV l] (.tup [runV [⟨0, (lastKp l).at_⟩], bV true]) := fs0
        have hF : F = f ++ [[⟨0, (lastKp l).at_⟩]] := hF0
        have hv : ∀ t', Vle (.sl (some 1) (f.map runV ++ [runV [⟨0, (lastKp l).at_⟩]]) (.t t')) (runsV F) := fun t' => Vle.trans (Vle.sl _ _ _) (Vle.eq (by rw [hF, runsV, List.map_append]; rfl))
        (conv=>arg 2;whnf);refine wp_pcall fs ?_
        (conv=>arg 2;whnf);refine wp_allocE runZ rfl fun u => ?_
        (conv=>arg 2;whnf);refine wp_storeE (cs := runZ) (tokR (some 1) t).length 0 (runC [⟨0, (lastKp l).at_⟩]) (hget u runZ) rfl (VleL.refl _) (Nat.le_refl _) rfl (R' := [] ++ (tokR (some 1) t ++ [.obj u (runC [⟨0, (lastKp l).at_⟩])])) (hset u _) ?_
        (repeat ((conv=>arg 2;whnf);first|refine wp_it rfl ?_|refine wp_if rfl ?_))
        (conv=>arg 2;whnf);refine wp_load (cs := runC [⟨0, (lastKp l).at_⟩]) (tokR (some 1) t).length (hget2 u _) rfl ?_
        (conv=>arg 2;whnf);refine wp_append_x (A := []) (B := [.obj u (runC [⟨0, (lastKp l).at_⟩])]) (sh := some 1) (t := t) (xs := f.map runV) (ys := [runV [⟨0, (lastKp l).at_⟩]]) (fun h => by rw [ht h]; rfl) (okE_run [_]) hsz1 (fun t' S' hS => ?_)
        (conv=>arg 2;whnf)
        exact wp_cutR (frL [(5, .pt (some 4) (.agg (paC p)) 0), (11, runsV o), (12, runsV F), (13, .sl none [] .zero)]) [] (.cons (.refl _) (.cons (.refl _) (.cons (Vle.gotL (hv t') rfl) (.cons (.refl _) (.nil _))))) (List.nil_sublist _) rest
      | false =>
        have fs : PCall Tryz.prog 34 [scV s, .agg (paC p), kpsV l] (.tup [runV [], bV false]) := fs0
        have hF : F = f := by rw [hF0]; simp
        have hv : Vle (.sl (shOf (some 1) t) (f.map runV) (tkOf t)) (runsV F) := hF.symm ▸ hvF
        (conv=>arg 2;whnf);refine wp_pcall fs ?_
        (conv=>arg 2;whnf);refine wp_allocE runZ rfl fun u => ?_
        (conv=>arg 2;whnf);refine wp_storeE (cs := runZ) (tokR (some 1) t).length 0 (runC []) (hget u runZ) rfl (VleL.refl _) (Nat.le_refl _) rfl (R' := [] ++ (tokR (some 1) t ++ [.obj u (runC [])])) (hset u []) ?_
        (repeat ((conv=>arg 2;whnf);first|refine wp_it rfl ?_|refine wp_if rfl ?_))
        exact wp_cutR (frL [(5, .pt (some 4) (.agg (paC p)) 0), (11, runsV o), (12, runsV F), (13, .sl none [] .zero)]) [] (.cons (.refl _) (.cons (.refl _) (.cons (Vle.gotL hv rfl) (.cons (.refl _) (.nil _))))) (List.nil_sublist _) rest
    case rest =>
      have hstep : stepF s p l r = if F.any longR then none else if 60 < ((F.filter (goesOn p)).foldl setR o).length then none else some ((F.filter (goesOn p)).foldl setR o, (F.filter (doneE p)).foldl putR []) := by
        rw [stepF, outF, ← hFe, ho]; rfl
      clear hF fs hf hfl ht hFe hvF hget hget2 hset
      (conv=>arg 2;whnf);refine wp_loop (fun m fr R => ∃ i : Nat, m = F.length - i ∧ i ≤ F.length ∧ R = [] ∧ (F.take i).any longR = false ∧ fr = frL [(5, .pt (some 4) (.agg (paC p)) 0), (11, runsV (((F.take i).filter (goesOn p)).foldl setR o)), (12, runsV F), (13, runsV (((F.take i).filter (doneE p)).foldl putR [])), (18, i64V i)])
        F.length _ _ (.cons (.refl _) (.cons (.refl _) (.cons (.refl _) (.cons (Vle.gotL (a := .sl none [] .zero) (b := runsV []) (Vle.nil _ _ _) rfl) (.cons (.refl _) (.nil _)))))) (List.Sublist.refl _) ⟨0, rfl, Nat.zero_le _, rfl, rfl, rfl⟩ ?_
      rintro m fr R ⟨i, rfl, hi, rfl, hany, rfl⟩
      have hOl := foldset_len ((F.take i).filter (goesOn p)) o
      have hMl := foldput_len ((F.take i).filter (doneE p)) []
      have hfl1 : ((F.take i).filter (goesOn p)).length ≤ 121 := Nat.le_trans (List.length_filter_le _ _) (by rw [List.length_take]; omega)
      have hfl2 : ((F.take i).filter (doneE p)).length ≤ 121 := Nat.le_trans (List.length_filter_le _ _) (by rw [List.length_take]; omega)
      have hOe : ∀ y ∈ ((F.take i).filter (goesOn p)).foldl setR o, y.length < 2 ^ 60 := fun y hy => by
        rcases foldset_mem hy with hy | hy
        · have := hoe y hy; omega
        · have := (hfe y (List.mem_of_mem_take (List.mem_filter.1 hy).1)).2; omega
      have hMe : ∀ y ∈ ((F.take i).filter (doneE p)).foldl putR [], y ≠ [] ∧ y.length < 2 ^ 60 := fun y hy => by
        rcases foldput_mem hy with hy | hy
        · cases hy
        · have := hfe y (List.mem_of_mem_take (List.mem_filter.1 hy).1); exact ⟨this.1, by omega⟩
      obtain ⟨O, hO⟩ : ∃ O, O = ((F.take i).filter (goesOn p)).foldl setR o := ⟨_, rfl⟩
      obtain ⟨M, hM⟩ : ∃ M, M = ((F.take i).filter (doneE p)).foldl putR [] := ⟨_, rfl⟩
      rw [← hO] at hOl hOe
      rw [← hM] at hMl hMe
      rw [← hO, ← hM]
      have hOl : O.length ≤ 200 := by omega
      have hMl : M.length ≤ 121 := by simp only [List.length_nil] at hMl; omega
      (conv=>arg 2;whnf);refine wp_ite (fun h => ?_) (fun h => ?_)
      · have h : i < F.length := by
          have := of_decide_eq_true h
          rw [List.length_map] at this; omega
        obtain ⟨x, hx⟩ : ∃ x, F[i]? = some x := ⟨_, List.getElem?_eq_getElem h⟩
        obtain ⟨hx0, hxl⟩ := hfe x (List.mem_of_getElem? hx)
        have htk := take_all hx
        have hlt : F.length - (i + 1) < F.length - i := by omega
        have hi62 : i < 2 ^ 62 := by omega
        have fd := rdone_call p hpn x (by omega)
        have fw := rwith_call O x (by omega) hOe (by omega)
        have fp := rput_call M x (by omega) hMe hx0 (by omega)
        have hOn : ((F.take (i + 1)).filter (goesOn p)).foldl setR o = if goesOn p x then setR O x else O := by
          rw [htk, List.filter_append, List.foldl_append, ← hO, List.filter_cons]
          split <;> rfl
        have hMn : ((F.take (i + 1)).filter (doneE p)).foldl putR [] = if doneE p x then putR M x else M := by
          rw [htk, List.filter_append, List.foldl_append, ← hM, List.filter_cons]
          split <;> rfl
        unfold goesOn lastPlus at hOn
        obtain ⟨y, hy, _, hey⟩ := nt_at p (show p.els.length - 1 < p.els.length by omega)
        rw [hey] at hOn
        have wl : IntKind.i64.wrap (((p.els.map elV).length : Int) - 1) = ((p.els.length - 1 : Nat) : Int) := by rw [List.length_map, w_i64_small (by omega) (by omega)]; omega
        obtain ⟨d, hd⟩ : ∃ d, d = doneE p x := ⟨_, rfl⟩
        rw [← hd] at fd hOn hMn
        (conv=>arg 2;whnf);refine wp_elem i (runV x) rfl (runs_at hx) (Vle.refl _) ?_
        (conv=>arg 2;whnf);refine wp_allocE runZ rfl fun u => ?_
        (conv=>arg 2;whnf);refine wp_storeE (cs := runZ) 0 0 (runC x) rfl rfl (VleL.refl _) (Nat.le_refl _) rfl (R' := [.obj u (runC x)]) rfl ?_
        (conv=>arg 2;whnf)
        refine wp_cutP (frL [(5, .pt (some 4) (.agg (paC p)) 0), (11, runsV O), (12, runsV F), (13, runsV M), (18, i64V i), (19, .pt (some 1) (runV x) 0)]) [] [.obj u (runC x)] (.cons (.refl _) (.cons (.refl _) (.cons (.refl _) (.cons (.refl _) (.cons (.refl _) (.cons (.all (List.Mem.head _) rfl (by decide) (VleL.refl _)) (.nil _))))))) ?_
        (conv=>arg 2;whnf);refine wp_ite (fun hlg => ?_) (fun hlg => ?_)
        · have hlg : longR x = true := by
            have := of_decide_eq_true hlg
            rw [List.length_map] at this
            exact decide_eq_true (by omega)
          have hno : stepF s p l r = none := by rw [hstep, if_pos (List.any_eq_true.2 ⟨x, List.mem_of_getElem? hx, hlg⟩)]
          (conv=>arg 2;whnf)
          refine wp_leaf (loop_ret ?_)
          (conv=>arg 2;whnf);refine w_ret3P (a := runsV []) (b := runsV []) (c := i64V 18) rfl (.vle (Vle.nil _ _ _)) (.vle (Vle.nil _ _ _)) (.refl _) (by rw [hno]; rfl)
        · have hlg : longR x = false := by
            have := of_decide_eq_false hlg
            rw [List.length_map] at this
            exact decide_eq_false (by omega)
          have hany' : (F.take (i + 1)).any longR = false := by rw [htk, List.any_append, hany]; simp [hlg]
          (conv=>arg 2;whnf);refine wp_pcall fd ?_
          cases d with
          | false =>
            have hvO : runsV (setR O x) = runsV (((F.take (i + 1)).filter (goesOn p)).foldl setR o) := by
              have : ((F.take (i + 1)).filter (goesOn p)).foldl setR o = setR O x := by unfold goesOn lastPlus; rw [hey]; exact hOn
              rw [this]
            have hvM : runsV M = runsV (((F.take (i + 1)).filter (doneE p)).foldl putR []) := by
              have : ((F.take (i + 1)).filter (doneE p)).foldl putR [] = M := hMn
              rw [this]
            (repeat ((conv=>arg 2;whnf);first|refine wp_it rfl ?_|refine wp_if rfl ?_))
            (conv=>arg 2;whnf);refine wp_cutR (frL [(5, .pt (some 4) (.agg (paC p)) 0), (11, runsV O), (12, runsV F), (13, runsV M), (18, i64V i), (19, .pt (some 1) (runV x) 0)]) [] (.cons (.refl _) (.cons (.refl _) (.cons (.refl _) (.cons (.refl _) (.cons (.refl _) (.cons (.refl _) (.nil _))))))) (List.nil_sublist _) ?_
            (conv=>arg 2;whnf);refine wp_pcall fd ?_
            (repeat ((conv=>arg 2;whnf);first|refine wp_it rfl ?_|refine wp_if rfl ?_))
            (conv=>arg 2;whnf);refine wp_pcall fw ?_
            (conv=>arg 2;whnf)
            exact wp_leaf (loop_next (F.length - (i + 1)) _ [] hlt (.cons (.refl _) (.cons (Vle.of (runsV (setR O x)) rfl hvO) (.cons (.refl _) (.cons (Vle.of (runsV M) rfl hvM) (.cons (Vle.inc i rfl hi62) (.nil _)))))) (List.nil_sublist _) ⟨i + 1, rfl, h, rfl, hany', rfl⟩)
          | true =>
            have hvM : runsV (putR M x) = runsV (((F.take (i + 1)).filter (doneE p)).foldl putR []) := by
              have : ((F.take (i + 1)).filter (doneE p)).foldl putR [] = putR M x := hMn
              rw [this]
            have hO1 : ((F.take (i + 1)).filter (goesOn p)).foldl setR o = if y.plus then setR O x else O := by
              unfold goesOn lastPlus; rw [hey]; exact hOn
            obtain ⟨pl, hpl⟩ : ∃ pl, pl = y.plus := ⟨_, rfl⟩
            rw [← hpl] at hO1
            (repeat ((conv=>arg 2;whnf);first|refine wp_it rfl ?_|refine wp_if rfl ?_))
            (conv=>arg 2;whnf);refine wp_pcall fp ?_
            (conv=>arg 2;whnf);refine wp_cutR (frL [(5, .pt (some 4) (.agg (paC p)) 0), (11, runsV O), (12, runsV F), (13, runsV (putR M x)), (18, i64V i), (19, .pt (some 1) (runV x) 0)]) [] (.cons (.refl _) (.cons (.refl _) (.cons (.refl _) (.cons (.refl _) (.cons (.refl _) (.cons (.refl _) (.nil _))))))) (List.nil_sublist _) ?_
            (conv=>arg 2;whnf);refine wp_pcall fd ?_
            (repeat ((conv=>arg 2;whnf);first|refine wp_it rfl ?_|refine wp_if rfl ?_))
            (conv=>arg 2;whnf);refine wp_elem (p.els.length - 1) (elV y) wl (els_at2 hy) (Vle.refl _) ?_
            cases pl with
            | true =>
              have hvO : runsV (setR O x) = runsV (((F.take (i + 1)).filter (goesOn p)).foldl setR o) := by rw [hO1]; rfl
              (conv=>arg 2;whnf);refine wp_it hpl.symm ?_
              (conv=>arg 2;whnf);refine wp_pcall fw ?_
              (conv=>arg 2;whnf)
              exact wp_leaf (loop_next (F.length - (i + 1)) _ [] hlt (.cons (.refl _) (.cons (Vle.of (runsV (setR O x)) rfl hvO) (.cons (.refl _) (.cons (Vle.of (runsV (putR M x)) rfl hvM) (.cons (Vle.inc i rfl hi62) (.nil _)))))) (List.nil_sublist _) ⟨i + 1, rfl, h, rfl, hany', rfl⟩)
            | false =>
              have hvO : runsV O = runsV (((F.take (i + 1)).filter (goesOn p)).foldl setR o) := by rw [hO1]; rfl
              (conv=>arg 2;whnf);refine wp_if hpl.symm ?_
              (conv=>arg 2;whnf)
              exact wp_leaf (loop_next (F.length - (i + 1)) _ [] hlt (.cons (.refl _) (.cons (Vle.of (runsV O) rfl hvO) (.cons (.refl _) (.cons (Vle.of (runsV (putR M x)) rfl hvM) (.cons (Vle.inc i rfl hi62) (.nil _)))))) (List.nil_sublist _) ⟨i + 1, rfl, h, rfl, hany', rfl⟩)
      · have h : i = F.length := by
          have := of_decide_eq_false h
          rw [List.length_map] at this; omega
        subst h
        rw [List.take_length] at hO hM hany
        rw [hany, if_neg (by decide), ← hO, ← hM] at hstep
        (conv=>arg 2;whnf)
        refine wp_leaf (loop_exit ?_)
        (conv=>arg 2;whnf);refine wp_cutR (frL [(11, runsV O), (13, runsV M)]) [] (.cons (.refl _) (.cons (.refl _) (.nil _))) (List.nil_sublist _) ?_
        (conv=>arg 2;whnf);refine wp_ite (fun hq => ?_) (fun hq => ?_)
        · have hno : stepF s p l r = none := by
            have := of_decide_eq_true hq
            rw [List.length_map] at this
            rw [hstep, if_pos (by omega)]
          (conv=>arg 2;whnf);refine w_ret3P (a := runsV []) (b := runsV []) (c := i64V 18) rfl (.vle (Vle.nil _ _ _)) (.vle (Vle.nil _ _ _)) (.refl _) (by rw [hno]; rfl)
        · have hsome : stepF s p l r = some (O, M) := by
            have := of_decide_eq_false hq
            rw [List.length_map] at this
            rw [hstep, if_neg (by omega)]
          (conv=>arg 2;whnf);refine w_ret3P (a := runsV O) (b := runsV M) (c := i64V 0) rfl (.refl _) (.refl _) (.refl _) (by rw [hsome]; rfl)
end Go.Sv
namespace Go.Proofs.TryzAs
open Go Go.RowKit Go.Extern.Stop Go.Stop Go.Extern Go.Proofs
theorem valueOfP (t : Addr) (w : World) : (ReflectliteValue.unpack (.iface 102 (.pointer (some t)))).run Tryz.prog w
    = .ok (.agg #[.pointer (some ⟨1, 102, none⟩), .pointer (some ⟨w.heap.size, 0, none⟩), .int .u64 150]) (w.alloc (.cells #[.pointer (some t)] 102)) := by kernel_rfl
theorem typeP (a : Addr) (w : World) : (ReflectliteValue.methodAny (ReflectliteValue.valueError "reflectlite.Value.Type" 0) (fun t _ _ _ => ReflectliteType.toType t) #[.agg #[.pointer (some ⟨1, 102, none⟩), .pointer (some a), .int .u64 150]]).run Tryz.prog w
    = .ok (.iface 150 (.agg #[.pointer (some ⟨1, 102, none⟩)])) w := by kernel_rfl
theorem methodKind (h : Value) (w : World) : (Go.method 367 150 (.agg #[h]) "Kind").run Tryz.prog w = .ok (176, h) w := by kernel_rfl
theorem kindP (w : World) : ((ReflectliteType.abiMethod fun t => (fun a : Nat => Value.int IntKind.u8 (a : Int)) <$> Rtype.kind t) #[.pointer (some ⟨1, 102, none⟩)]).run Tryz.prog w = .ok (.int .u8 22) w := by kernel_rfl
theorem kindE (w : World) : ((ReflectliteType.abiMethod fun t => (fun a : Nat => Value.int IntKind.u8 (a : Int)) <$> Rtype.kind t) #[.pointer (some ⟨1, 94, none⟩)]).run Tryz.prog w = .ok (.int .u8 2) w := by kernel_rfl
theorem rlm (z : Sem Value) (f : TypeId → Addr → Nat → Nat → Sem Value) (v : Value) :
    ReflectliteValue.method z f #[v] = (do match ← ReflectliteValue.parts v with | none => z | some (t, a, fl) => f t a fl (fl % 32)) := rfl
theorem partsP (a : Addr) (w : World) : (ReflectliteValue.parts (.agg #[.pointer (some ⟨1, 102, none⟩), .pointer (some a), .int .u64 150])).run Tryz.prog w = .ok (some (102, a, 150)) w := by kernel_rfl
theorem isNilP (a p : Addr) (W : World) (ha : W.cell? a = some (.pointer (some p))) :
    (ReflectliteValue.method (ReflectliteValue.valueError "reflectlite.Value.IsNil" 0) ReflectliteValue.isNil #[.agg #[.pointer (some ⟨1, 102, none⟩), .pointer (some a), .int .u64 150]]).run Tryz.prog W = .ok (.bool false) W := by
  rw [rlm]
  simp only [Sem.run_bind, partsP, Result.andThen]
  simp [ReflectliteValue.isNil, loadVar, isAgg, underlying, Tryz.underlying102, ha, Result.andThen]
theorem methodElem (h : Value) (w : World) : (Go.method 367 150 (.agg #[h]) "Elem").run Tryz.prog w = .ok (186, .agg #[h]) w := by kernel_rfl
theorem methodImplements (h : Value) (w : World) : (Go.method 367 150 (.agg #[h]) "Implements").run Tryz.prog w = .ok (187, .agg #[h]) w := by kernel_rfl
theorem methodAssignableTo (h : Value) (w : World) : (Go.method 367 150 (.agg #[h]) "AssignableTo").run Tryz.prog w = .ok (184, .agg #[h]) w := by kernel_rfl
theorem elemP (w : World) : (ReflectliteType.method ReflectliteType.elem #[.agg #[.pointer (some ⟨1, 102, none⟩)]]).run Tryz.prog w = .ok (.iface 150 (.agg #[.pointer (some ⟨1, 94, none⟩)])) w := by kernel_rfl
theorem implementsE (w : World) : (ReflectliteType.relation "Implements" ReflectliteType.implements_ #[.agg #[.pointer (some ⟨1, 94, none⟩)], .iface 150 (.agg #[.pointer (some ⟨1, 38, none⟩)])]).run Tryz.prog w = .ok (.bool true) w := by kernel_rfl
theorem typeOfE (v : Value) (w : World) : (ReflectliteType.typeOf #[.iface 94 v]).run Tryz.prog w = .ok (.iface 150 (.agg #[.pointer (some ⟨1, 94, none⟩)])) w := by kernel_rfl
theorem assignableE (w : World) : (ReflectliteType.relation "AssignableTo" ReflectliteType.assignableTo #[.agg #[.pointer (some ⟨1, 94, none⟩)], .iface 150 (.agg #[.pointer (some ⟨1, 94, none⟩)])]).run Tryz.prog w = .ok (.bool true) w := by kernel_rfl
theorem valueOfE (n : Int) (w : World) : (ReflectliteValue.unpack (.iface 94 (.int .i64 n))).run Tryz.prog w
    = .ok (.agg #[.pointer (some ⟨1, 94, none⟩), .pointer (some ⟨w.heap.size, 0, none⟩), .int .u64 130]) (w.alloc (.cells #[.int .i64 n] 94)) := by kernel_rfl
theorem elemOfP (w : World) : (Rtype.elem? 102).run Tryz.prog w = .ok (some 94) w := by kernel_rfl
theorem mkE (p : Addr) (w : World) : (ReflectliteValue.mk 94 p ReflectliteValue.flagAddr).run Tryz.prog w = .ok (.agg #[.pointer (some ⟨1, 94, none⟩), .pointer (some p), .int .u64 386]) w := by kernel_rfl
theorem elemVP (a p : Addr) (W : World) (ha : W.cell? a = some (.pointer (some p))) :
    (ReflectliteValue.method (ReflectliteValue.valueError "reflectlite.Value.Elem" 0) ReflectliteValue.elem #[.agg #[.pointer (some ⟨1, 102, none⟩), .pointer (some a), .int .u64 150]]).run Tryz.prog W
      = .ok (.agg #[.pointer (some ⟨1, 94, none⟩), .pointer (some p), .int .u64 386]) W := by
  rw [rlm]
  simp only [Sem.run_bind, partsP, Result.andThen]
  simp [ReflectliteValue.elem, loadVar, isAgg, underlying, Tryz.underlying102, ha, Result.andThen, elemOfP, mkE]
theorem rls (v x : Value) : ReflectliteValue.set #[v, x] = (do
    let (some (dst, a, fl), some (src, b, _)) := (← ReflectliteValue.parts v, ← ReflectliteValue.parts x)
      | unsupported (.noEntry "extern/(internal/reflectlite.Value).Set.zeroValue")
    if fl / ReflectliteValue.flagAddr % 2 == 0 then unsupported (.noEntry "extern/(internal/reflectlite.Value).Set.unaddressable")
    let val ← loadVar src b
    if ← Rtype.directlyAssignable dst src then storeVar dst a val
    else if ← Rtype.implements dst src then
      if (← Rtype.kind src) == 20 then
        match val with
        | .nilIface => unsupported (.noEntry "extern/reflectlite: a nil value of one interface type handed on as a value of another")
        | _ => storeVar dst a val
      else storeVar dst a (.iface src val)
    else panicString ("reflectlite.Set: value of type " ++ (← Rtype.spelt src) ++ " is not assignable to type " ++ (← Rtype.spelt dst))
    pure (.tuple #[])) := rfl
theorem partsEa (a : Addr) (w : World) : (ReflectliteValue.parts (.agg #[.pointer (some ⟨1, 94, none⟩), .pointer (some a), .int .u64 386])).run Tryz.prog w = .ok (some (94, a, 386)) w := by kernel_rfl
theorem partsE (a : Addr) (w : World) : (ReflectliteValue.parts (.agg #[.pointer (some ⟨1, 94, none⟩), .pointer (some a), .int .u64 130])).run Tryz.prog w = .ok (some (94, a, 130)) w := by kernel_rfl
theorem directE (w : World) : (Rtype.directlyAssignable 94 94).run Tryz.prog w = .ok true w := by kernel_rfl
theorem setE (ta b : Addr) (n : Int) (old : Value) (W : World) (hb : W.cell? b = some (.int .i64 n)) (ht : W.cell? ta = some old) (hf : W.frozen? ta = false) :
    (ReflectliteValue.set #[.agg #[.pointer (some ⟨1, 94, none⟩), .pointer (some ta), .int .u64 386], .agg #[.pointer (some ⟨1, 94, none⟩), .pointer (some b), .int .u64 130]]).run Tryz.prog W
      = .ok (.tuple #[]) (W.setCell ta (.int .i64 n)) := by
  rw [rls]
  simp only [Sem.run_bind, partsEa, partsE, Result.andThen]
  simp [ReflectliteValue.flagAddr, loadVar, isAgg, underlying, Tryz.underlying94, hb, Result.andThen, directE, storeVar, Value.cells, storeCells, Addr.add]
  rw [run_store Tryz.prog W ta _ _ (by rfl)]
  simp [ht, hf]
set_option maxHeartbeats 4000000 in
theorem as_hit (n : Int) (t : Addr) (old : Value) (w : World) (hg : w.cell? ⟨0, 0, none⟩ = some (.iface 150 (.agg #[.pointer (some ⟨1, 38, none⟩)]))) (ht0 : w.cell? t = some old) (hf0 : w.frozen? t = false) :
    Calls Tryz.prog 37 #[.iface 94 (.int .i64 n), .iface 102 (.pointer (some t))] w fun ev w' => ev = .returned (.bool true) ∧ w' = ((((w.alloc (.cells #[.pointer (some t)] 102)).alloc (.cells #[.pointer (some ⟨1, 102, none⟩), .pointer (some ⟨w.heap.size, 0, none⟩), .int .u64 150] 127)).alloc (.cells #[.pointer (some ⟨1, 102, none⟩), .pointer (some ⟨w.heap.size, 0, none⟩), .int .u64 150] 127)).alloc (.cells #[.int .i64 n] 94)).setCell t (.int .i64 n) := by
  have h6 := @run_callFunc_extern Tryz.prog 60 _ (fun args => ReflectliteValue.unpack (args.getD 0 (.tuple #[]))) Tryz.func60 (by kernel_rfl) (by kernel_rfl) (by kernel_rfl) (by kernel_rfl)
  have h7 := @run_callFunc_extern Tryz.prog 61 _ (ReflectliteValue.methodAny (ReflectliteValue.valueError "reflectlite.Value.Type" 0) (fun t _ _ _ => ReflectliteType.toType t)) Tryz.func61 (by kernel_rfl) (by kernel_rfl) (by kernel_rfl) (by kernel_rfl)
  have h8 := @run_callFunc_extern Tryz.prog 62 _ (ReflectliteValue.method (ReflectliteValue.valueError "reflectlite.Value.IsNil" 0) ReflectliteValue.isNil) Tryz.func62 (by kernel_rfl) (by kernel_rfl) (by kernel_rfl) (by kernel_rfl)
  have h27 := @run_callFunc_extern Tryz.prog 176 _ (ReflectliteType.abiMethod fun t => do pure (.int .u8 (← Rtype.kind t))) Tryz.func176 (by kernel_rfl) (by kernel_rfl) (by kernel_rfl) (by kernel_rfl)
  have h37 := @run_callFunc_extern Tryz.prog 186 _ (ReflectliteType.method ReflectliteType.elem) Tryz.func186 (by kernel_rfl) (by kernel_rfl) (by kernel_rfl) (by kernel_rfl)
  have h38 := @run_callFunc_extern Tryz.prog 187 _ (ReflectliteType.relation "Implements" ReflectliteType.implements_) Tryz.func187 (by kernel_rfl) (by kernel_rfl) (by kernel_rfl) (by kernel_rfl)
  have h10 := @run_callFunc_extern Tryz.prog 76 _ ReflectliteType.typeOf Tryz.func76 (by kernel_rfl) (by kernel_rfl) (by kernel_rfl) (by kernel_rfl)
  have h35 := @run_callFunc_extern Tryz.prog 184 _ (ReflectliteType.relation "AssignableTo" ReflectliteType.assignableTo) Tryz.func184 (by kernel_rfl) (by kernel_rfl) (by kernel_rfl) (by kernel_rfl)
  have h11 := @run_callFunc_extern Tryz.prog 77 _ (ReflectliteValue.method (ReflectliteValue.valueError "reflectlite.Value.Elem" 0) ReflectliteValue.elem) Tryz.func77 (by kernel_rfl) (by kernel_rfl) (by kernel_rfl) (by kernel_rfl)
  have h12 := @run_callFunc_extern Tryz.prog 78 _ ReflectliteValue.set Tryz.func78 (by kernel_rfl) (by kernel_rfl) (by kernel_rfl) (by kernel_rfl)
  have tO := typeOfE
  have mA := methodAssignableTo
  have a25 := assignableE
  have v25 := valueOfE
  have f6 := valueOfP
  have f7 := typeP
  have mK := methodKind
  have mE := methodElem
  have mI := methodImplements
  have k27 := kindP
  have k25 := kindE
  have e27 := elemP
  have i25 := implementsE
  have n8 := isNilP ⟨w.heap.size, 0, none⟩ t ((w.alloc (.cells #[.pointer (some t)] 102)).alloc (.cells #[.pointer (some ⟨1, 102, none⟩), .pointer (some ⟨w.heap.size, 0, none⟩), .int .u64 150] 127)) (by simp)
  have hlt : 0 < w.heap.size := by
    rcases Nat.lt_or_ge 0 w.heap.size with h | h
    · exact h
    · simp [World.cell?, Array.getElem?_eq_none h] at hg
  have hg2 : ((w.alloc (.cells #[.pointer (some t)] 102)).alloc (.cells #[.pointer (some ⟨1, 102, none⟩), .pointer (some ⟨w.heap.size, 0, none⟩), .int .u64 150] 127)).cell? ⟨0, 0, none⟩ = some (.iface 150 (.agg #[.pointer (some ⟨1, 38, none⟩)])) := by
    rw [World.cell?_alloc_lt _ _ ⟨0, 0, none⟩ (by first | (simp; done) | (simp; omega)), World.cell?_alloc_lt _ _ ⟨0, 0, none⟩ hlt]; exact hg
  have htl : t.block < w.heap.size := by
    rcases Nat.lt_or_ge t.block w.heap.size with h | h
    · exact h
    · simp [World.cell?, Array.getElem?_eq_none h] at ht0
  have el := elemVP ⟨w.heap.size, 0, none⟩ t (((w.alloc (.cells #[.pointer (some t)] 102)).alloc (.cells #[.pointer (some ⟨1, 102, none⟩), .pointer (some ⟨w.heap.size, 0, none⟩), .int .u64 150] 127)).alloc (.cells #[.pointer (some ⟨1, 102, none⟩), .pointer (some ⟨w.heap.size, 0, none⟩), .int .u64 150] 127)) (by rw [World.cell?_alloc_lt _ _ ⟨w.heap.size, 0, none⟩ (by simp; omega)]; simp)
  have st := setE t ⟨w.heap.size + 1 + 1 + 1, 0, none⟩ n old ((((w.alloc (.cells #[.pointer (some t)] 102)).alloc (.cells #[.pointer (some ⟨1, 102, none⟩), .pointer (some ⟨w.heap.size, 0, none⟩), .int .u64 150] 127)).alloc (.cells #[.pointer (some ⟨1, 102, none⟩), .pointer (some ⟨w.heap.size, 0, none⟩), .int .u64 150] 127)).alloc (.cells #[.int .i64 n] 94))
    (by rw [World.cell?_alloc_at _ _ _ _ (by simp)]; rfl)
    (by rw [World.cell?_alloc_lt _ _ t (by simp; omega), World.cell?_alloc_lt _ _ t (by simp; omega), World.cell?_alloc_lt _ _ t (by simp; omega), World.cell?_alloc_lt _ _ t htl]; exact ht0)
    (by rw [World.frozen?_alloc_old _ _ t (by simp; omega), World.frozen?_alloc_old _ _ t (by simp; omega), World.frozen?_alloc_old _ _ t (by simp; omega), World.frozen?_alloc_old _ _ t (Nat.ne_of_lt htl)]; exact hf0)
  go_enter Tryz.func37, Tryz.ntmps37
  go_wp2
  refine wp_loop_rounds 1 ?_
  rw [rounds_succ]
  go_wp2
  go_ret
  exact ⟨rfl, rfl⟩
end Go.Proofs.TryzAs
namespace Go.Sv
open Go Go.Proofs Go.RowKit
section
variable {P : Program} {g : Gh} {w w' : World}
theorem after_belowD (hw : Wf g w) (h : Below w.heap.size w w') (hd : w.drawn ≤ w'.drawn) : After g w [] g w' [] := by
  have hc : ∀ b o, b < w.heap.size → cell w' b o = cell w b o := fun b o hb => World.cell?_of_block (w := w) (h.block b hb)
  have hlt : ∀ b o, o < g.cm b → b < w.heap.size := fun b o ho => by
    rcases Nat.lt_or_ge b w.heap.size with h1 | h1
    · exact h1
    · rw [hw.cm b h1] at ho; omega
  have hp : Pre g w g w' := ⟨fun _ => Nat.le_refl _, fun b o ho => hc b o (hlt b o ho), Nat.le_refl _, fun _ _ => rfl, fun b o h0 => by rw [hc b o (hw.lt h0)]⟩
  refine ⟨{ hp with os := h.os, tape := h.tape, output := h.output, drawn := fun _ => hd, size := h.size, frame := fun b hb _ => h.block b hb, cmeq := fun _ _ _ => rfl, wf := ⟨fun b hb => hw.cm b (Nat.le_trans h.size hb), fun b o ho => by rw [hc b o (hlt b o ho)]; exact hw.ex b o ho, hp.st hw⟩ }, ⟨by simp, by simp [blocks]⟩, by simp [blocks]⟩
theorem run_callD {f : FuncId} (hf : isFn P f) (xs : Array Value) : (callFunc f xs).run P w = .ok (.enter f xs) w := by
  obtain ⟨fn, c, h1, h2, h3⟩ := hf
  have hn' : ¬ fn.name = "runtime.NumGoroutine" := by simpa using h3
  simp [callFunc, h1, h2, hn']
end
theorem as_fn : isFn Tryz.prog 37 := ⟨_, _, Tryz.func37, rfl, by kernel_rfl⟩
theorem as_call (n b : Nat) (k : Int) : SCall Tryz.prog 37 [.c (errV (some n)), .ifc 102 (.loc b 0)] [.obj b [i64V k]] fun v R' => v = bV true ∧ R' = [.obj b [i64V n]] := by
  intro g w xs hw hx hr
  simp only [RelL, RelV, errV] at hx
  obtain ⟨_, _, rfl, rfl, _, _, rfl, ⟨_, rfl, rfl⟩, rfl⟩ := hx
  have hput : ∀ w4, After g w [.obj b [i64V k]] g w4 [.obj b [i64V k]] → _ := fun w4 h => e_put h.ext.wf h.res (i := 0) (b := b) (o := 0) (cs := [i64V k]) (src := [i64V n]) (news := [.int .i64 n]) rfl (by simp [RelL, RelV, i64V]) (by simp [Value.oneCell']) (by simp)
  obtain ⟨_, h1, h2⟩ := hput w (After.refl hw hr)
  have h1 := h1 0 (by simp)
  have h2 := h2 0 (by simp)
  obtain ⟨old, hold⟩ := Option.isSome_iff_exists.1 h1
  obtain ⟨ev, e1, e2, _⟩ := hw.st.1 (0, 0, fun v => v = .iface 150 (.agg #[.pointer (some ⟨1, 38, none⟩)])) (by simp [statics])
  have e2 : ev = _ := e2
  subst e2
  refine .inr (.inl ⟨_, _, w, run_callD as_fn _, callsIn_wide.2 ((TryzAs.as_hit n ⟨b, 0, none⟩ old w e1 hold h2).mono ?_)⟩)
  rintro e w' ⟨rfl, rfl⟩
  have hb := Below.alloc (Below.alloc (Below.alloc (Below.alloc (Below.refl w.heap.size w) (Nat.le_refl _) (.cells #[.pointer (some ⟨b, 0, none⟩)] 102)) (by simp) (.cells #[.pointer (some ⟨1, 102, none⟩), .pointer (some ⟨w.heap.size, 0, none⟩), .int .u64 150] 127)) (by simp; omega) (.cells #[.pointer (some ⟨1, 102, none⟩), .pointer (some ⟨w.heap.size, 0, none⟩), .int .u64 150] 127)) (by simp; omega) (.cells #[.int .i64 n] 94)
  have hA := after_of_ext hr (after_belowD hw hb (Nat.le_refl _)).ext
  exact ⟨_, rfl, bV true, g, _, ⟨rfl, rfl⟩, hA.trans (hput _ hA).1, by simp only [bV, RelV]⟩
def codeOf : Option Nat → Nat
  | none => 0
  | some n => n
set_option maxRecDepth 100000 in
theorem code_call (e : Option Nat) : PCall Tryz.prog 10 [.c (errV e)] (i64V (codeOf e)) := by
  refine scall_of (live := []) (ords := []) Tryz.func10 rfl (by kernel_rfl) (by kernel_rfl) (Nat.le_of_ble_eq_true rfl) ?_
  (conv=>arg 2;whnf);refine wp_allocE [i64V 0] rfl fun b => ?_
  cases e with
  | none =>
    (repeat ((conv=>arg 2;whnf);first|refine wp_it rfl ?_|refine wp_if rfl ?_))
    (conv=>arg 2;whnf);refine w_retp rfl (.refl _)
  | some n =>
    (repeat ((conv=>arg 2;whnf);first|refine wp_it rfl ?_|refine wp_if rfl ?_))
    (conv=>arg 2;whnf);refine wp_callF [] [.obj b [i64V 0]] [] rfl (as_call n b 0) ?_
    rintro v R' ⟨rfl, rfl⟩
    (repeat ((conv=>arg 2;whnf);first|refine wp_it rfl ?_|refine wp_if rfl ?_))
    (conv=>arg 2;whnf);refine wp_load (cs := [i64V n]) 0 rfl rfl ?_
    (conv=>arg 2;whnf);refine w_retp rfl (.refl _)
end Go.Sv
namespace Go.Sv
open Go Go.Proofs
theorem RfRuns.of {s : Sc} {p : Pa} {l : List Kp} {r : List (List Bd)} (hk : KOk s p l) (hI : InvS s p l r) : RfRuns p r := ⟨hI.n, hI.len, fun b hb y hy => by
  have h1 := ((hI.inv.2 b).1 hb).1
  have h2 := (pre_ats hk.pf hk.ev hk.rise h1).1
  have h3 := (h2.el y hy).1
  have h4 := h2.len
  omega⟩
theorem RfOkL.takeL {l : List Kp} (h : RfOkL l) (n : Nat) : RfOkL (l.take n) := ⟨h.toStOkL.take n, fun k hk => h.is k (List.mem_of_mem_take hk)⟩
theorem step_ms {s : Sc} {p : Pa} {l : List Kp} {r r' m : List (List Bd)} (h : stepE s p l r = some (r', m)) : m.length ≤ 2 * r.length + 1 := by
  unfold stepE at h
  split at h
  · cases h
  · split at h
    · cases h
    · cases h
      refine Nat.le_trans (List.length_filter_le _ _) (Nat.le_trans (sorted_len _) (made_len _ _ _ _))
def MsOk (ms : List (List (List Bd))) : Prop := ∀ m ∈ ms, m.length ≤ 121 ∧ ∀ x ∈ m, x.length ≤ 30
theorem allGo_ms {s : Sc} {p : Pa} {k : List Kp} (hn : p.els.length < 2 ^ 60) (hk : KOk s p k) : ∀ (n i : Nat) (r : List (List Bd)) (out : List (List (List Bd))), i + n = k.length → InvS s p (k.take i) r → MsOk out → MsOk (allGo s p k n i r out).1 ∧ (allGo s p k n i r out).1.length ≤ out.length + n
  | 0, i, r, out, _, _, h => ⟨h, Nat.le_refl _⟩
  | n + 1, i, r, out, hi, hI, h => by
    obtain ⟨_, h2⟩ := stepS hn hk (i := i) (by omega) hI
    rw [allGo]
    cases hs : stepE s p (k.take (i + 1)) r with
    | none => exact ⟨h, by simp⟩
    | some y =>
      obtain ⟨r', m⟩ := y
      obtain ⟨h3, h4⟩ := h2 _ _ hs
      have h5 := step_ms hs
      have h6 := hI.n
      have := allGo_ms hn hk n (i + 1) r' (out ++ [m]) (by omega) h3 (fun x hx => by
        rcases List.mem_append.1 hx with hx | hx
        · exact h x hx
        · rw [List.mem_singleton.1 hx]; exact ⟨by omega, h4⟩)
      rw [List.length_append, List.length_singleton] at this
      exact ⟨this.1, by have := this.2; simp only; omega⟩
set_option maxRecDepth 100000 in
set_option maxHeartbeats 1000000 in
theorem rall_call (s : Sc) (hs : ScOk s) (p : Pa) (hp : RfOkP p) (l : List Kp) (hl : RfOkL l) (hln : l.length < 2 ^ 30) (hk : KOk s p l) :
    PCall Tryz.prog 14 [scV s, .agg (paC p), kpsV l] (.tup [mssV (allF s p l).1, i64V (codeOf (allF s p l).2)]) := by
  have hpn := hp.n
  have hpos := hk.pf.pos
  refine scall_of (live := []) (ords := []) Tryz.func14 rfl (by kernel_rfl) (by kernel_rfl) (Nat.le_of_ble_eq_true rfl) ?_
  (conv=>arg 2;whnf);refine wp_loop (fun m fr R => ∃ (n : Nat) (r : List (List Bd)) (out : List (List (List Bd))) (t : Option Nat) (vr : V), m = l.length - n ∧ n ≤ l.length ∧ allF s p l = allGoF s p l (l.length - n) n r out ∧ InvS s p (l.take n) r ∧ out.length ≤ n ∧ (t = none → out = []) ∧ Vle vr (runsV r) ∧ R = [] ++ (tokR none t ++ []) ∧
      fr = frL [(2, kpsV l), (3, .pt (some 1) (scV s) 0), (4, .pt (some 4) (.agg (paC p)) 0), (8, .sl (shOf none t) (out.map runsV) (tkOf t)), (9, vr), (10, i64V n)])
    l.length _ _ (.cons (.refl _) (.cons (.refl _) (.cons (.refl _) (.cons (.refl _) (.cons (.refl _) (.cons (.refl _) (.nil _))))))) (List.Sublist.refl _) ⟨0, [], [], none, .sl none [] .zero, rfl, Nat.zero_le _, rfl, invS_nil hk, Nat.zero_le _, fun _ => rfl, Vle.nil _ _ _, rfl, rfl⟩ ?_
  rintro m fr R ⟨n, r, out, t, vr, rfl, hn, he, hI, hout, ht, hvr, rfl, rfl⟩
  (conv=>arg 2;whnf);refine wp_ite (fun h => ?_) (fun h => ?_)
  · have h : n < l.length := by
      have := of_decide_eq_true h
      rw [List.length_map] at this; omega
    have fs := rstep_call s hs p hp hpos (l.take (n + 1)) (hl.takeL _) r (RfRuns.of (hk.pre n) hI)
    obtain ⟨hsf, hnx⟩ := stepS hpn hk h hI
    have hw1 : IntKind.i64.wrap ((n : Int) + 1) = ((n + 1 : Nat) : Int) := by rw [w_i64_small (by omega) (by omega)]; omega
    have hsl : Vle (.sl (some 4) ((l.map kpV).take (Int.toNat (IntKind.i64.wrap ((n : Int) + 1)))) .no) (kpsV (l.take (n + 1))) := by rw [hw1]; exact kps_take l (n + 1)
    have he : allF s p l = allGoF s p l ((l.length - (n + 1)) + 1) n r out := by rw [he]; congr 1; omega
    rw [allGoF] at he
    rw [← hsf] at hnx
    (conv=>arg 2;whnf);refine wp_need (by rw [hw1, List.length_map]; omega) ?_
    cases hst : stepF s p (l.take (n + 1)) r with
    | none =>
      rw [hst] at fs he
      have hv : Vle (.sl (shOf none t) (out.map runsV) (tkOf t)) (mssV out) := by
        cases t with
        | none => rw [ht rfl]; exact Vle.nil _ _ _
        | some t => exact Vle.sl _ _ _
      (conv=>arg 2;whnf);refine wp_pcV (.cons (.refl _) (.cons (.refl _) (.cons hsl (.cons hvr .nil)))) fs ?_
      (repeat ((conv=>arg 2;whnf);first|refine wp_it rfl ?_|refine wp_if rfl ?_))
      (conv=>arg 2;whnf)
      refine wp_leaf (loop_ret ?_)
      (conv=>arg 2;whnf);refine w_ret2 rfl hv (Vle.refl _) (List.nil_sublist _) ?_
      rw [he]; rfl
    | some x =>
      obtain ⟨rs, ms⟩ := x
      rw [hst] at fs he
      have hrs := (hnx _ _ hst).1
      (conv=>arg 2;whnf);refine wp_pcV (.cons (.refl _) (.cons (.refl _) (.cons hsl (.cons hvr .nil)))) fs ?_
      (repeat ((conv=>arg 2;whnf);first|refine wp_it rfl ?_|refine wp_if rfl ?_))
      (conv=>arg 2;whnf);refine wp_append_x (A := []) (B := []) (sh := none) (t := t) (xs := out.map runsV) (ys := [runsV ms]) (fun h => by rw [ht h]; rfl) (okE_ms [ms]) (show (_ + 1) * 24 ≤ _ by rw [List.length_map]; omega) (fun t' S' hS => ?_)
      (conv=>arg 2;whnf)
      refine wp_leaf (loop_next (l.length - (n + 1)) _ [.tok t' none] (by omega) (.cons (.refl _) (.cons (.refl _) (.cons (.refl _) (.cons (Vle.of (.sl none (out.map runsV ++ [runsV ms]) (.t t')) rfl ?_) (.cons (.refl _) (.cons (Vle.inc n rfl (by omega)) (.nil _))))))) hS ⟨n + 1, rs, out ++ [ms], some t', runsV rs, rfl, h, he, hrs, by rw [List.length_append, List.length_singleton]; omega, (fun e => by cases e), Vle.refl _, rfl, rfl⟩)
      rw [List.map_append]; rfl
  · have h : n = l.length := by
      have := of_decide_eq_false h
      rw [List.length_map] at this; omega
    subst h
    rw [Nat.sub_self] at he
    have hv : Vle (.sl (shOf none t) (out.map runsV) (tkOf t)) (mssV out) := by
      cases t with
      | none => rw [ht rfl]; exact Vle.nil _ _ _
      | some t => exact Vle.sl _ _ _
    (conv=>arg 2;whnf)
    refine wp_leaf (loop_exit ?_)
    (conv=>arg 2;whnf);refine w_ret2 rfl hv (Vle.refl _) (List.nil_sublist _) ?_
    rw [he]; rfl
end Go.Sv
namespace Go.Sv
open Go Go.Proofs
theorem isEv_zero {s : Sc} {e : Ev} (h : isEvI s e = 0) : ∃ t, findT s e.ty = some t ∧ 0 ≤ e.ts ∧ e.ts ≤ 1073741824 ∧ e.vals.length = t.flds.length ∧ e.vals.all valIs = true := by
  unfold isEvI at h
  split at h
  · cases h
  · rename_i t ht
    split at h
    · cases h
    · rename_i h1
      split at h
      · rename_i h2
        exact ⟨t, ht, by have := fun e => h1 (.inl e)
                         omega, by have := fun e => h1 (.inr (.inl e))
                                   omega, by have := fun e => h1 (.inr (.inr e))
                                             exact Classical.byContradiction this, h2⟩
      · cases h
theorem kept_mem {at_ : Int} {l : List Ev} {k : Kp} (h : k ∈ keptE at_ l) : ∃ i, i < l.length ∧ k = ⟨at_ + i, l.getD i ev0⟩ := by
  rw [keptE, List.mem_map] at h
  obtain ⟨i, hi, rfl⟩ := h
  exact ⟨i, List.mem_range.1 hi, rfl⟩
theorem kept_length (at_ : Int) (l : List Ev) : (keptE at_ l).length = l.length := by rw [keptE, List.length_map, List.length_range]
theorem strm_ev {l : List Ev} (hs : strmB l = true) {i : Nat} (hi : i < l.length) : isEvI baseS (l.getD i ev0) = 0 := by
  have := List.all_eq_true.1 hs i (List.mem_range.2 hi)
  rw [strm1, Bool.and_eq_true] at this
  exact of_decide_eq_true this.1
theorem strm_ts {l : List Ev} (hs : strmB l = true) {i : Nat} (hi : i + 1 < l.length) : (l.getD i ev0).ts ≤ (l.getD (i + 1) ev0).ts := by
  have := List.all_eq_true.1 hs (i + 1) (List.mem_range.2 hi)
  rw [strm1, Bool.and_eq_true] at this
  have h2 := this.2
  rw [decide_eq_false (by omega), Bool.false_or, Bool.not_eq_true', decide_eq_false_iff_not] at h2
  rw [Nat.add_sub_cancel] at h2
  omega
theorem strm_mono {l : List Ev} (hs : strmB l = true) {i : Nat} : ∀ {j : Nat}, i ≤ j → j < l.length → (l.getD i ev0).ts ≤ (l.getD j ev0).ts
  | 0, h, _ => by have : i = 0 := by omega
                  subst this; exact Int.le_refl _
  | j + 1, h, hj => by
    by_cases e : i = j + 1
    · subst e; exact Int.le_refl _
    · exact Int.le_trans (strm_mono hs (by omega) (by omega)) (strm_ts hs hj)
theorem kept_rise (at_ : Int) (l : List Ev) : RiseK (keptE at_ l) := by
  unfold RiseK keptE
  rw [List.pairwise_map]
  refine List.Pairwise.imp ?_ List.pairwise_lt_range
  intro a b h
  show at_ + (a : Int) < at_ + (b : Int)
  omega
theorem kept_ok {l : List Ev} (hl : l.length < 2 ^ 30) (hb : ∀ e ∈ l, EvBd e) {at_ : Int} (hs : strmB l = true) : RfOkL (keptE at_ l) ∧ EvsOk baseS (keptE at_ l) := by
  have hev : ∀ k ∈ keptE at_ l, isEvI baseS k.e = 0 ∧ EvBd k.e := fun k hk => by
    obtain ⟨i, hi, rfl⟩ := kept_mem hk
    refine ⟨strm_ev hs hi, hb _ ?_⟩
    show l.getD i ev0 ∈ l
    rw [List.getD_eq_getElem?_getD, List.getElem?_eq_getElem hi]
    exact List.getElem_mem hi
  refine ⟨⟨⟨by rw [kept_length]; omega, kept_rise at_ l, fun k hk => ?_⟩, fun k hk => ?_⟩, fun k hk => ?_⟩
  · obtain ⟨h1, h2⟩ := hev k hk
    obtain ⟨t, _, h3, h4, _⟩ := isEv_zero h1
    exact ⟨fun v hv => (h2.2 v hv).2, by omega, by omega⟩
  · obtain ⟨t, _, _, _, _, h5⟩ := isEv_zero (hev k hk).1
    exact fun v hv => List.all_eq_true.1 h5 v hv
  · obtain ⟨t, h1, _, _, h4, _⟩ := isEv_zero (hev k hk).1
    exact ⟨t, h1, h4⟩
def l16 : List Ev := [evT 1 1, evU 2 1]
def p16 : Pa := ⟨[elemE [97] [116], elemE [98] [117]], 5, [], false⟩
def k16 : List Kp := keptE 0 l16
theorem ex0_ok : ExOk 20 ex0 := ⟨by decide, by decide, by decide, by decide, fun y hy => by cases hy⟩
theorem ex0_rg : exRg ex0 := (exRg_eq _).2 ⟨⟨by decide, by decide⟩, fun y hy => by cases hy⟩
theorem elemE_ok {p : Pa} (hn : p.els.length < 2 ^ 60) (h : ∀ e ∈ p.els, ∃ a t, e = elemE a t) : StOkP p :=
  ⟨hn, fun e he => by obtain ⟨a, t, rfl⟩ := h e he; exact (by decide : 1 < 2 ^ 60), fun e he => by obtain ⟨a, t, rfl⟩ := h e he; exact ex0_ok, fun e he => by obtain ⟨a, t, rfl⟩ := h e he; exact ex0_rg, fun e he => by obtain ⟨a, t, rfl⟩ := h e he; exact (by decide : 0 < 2 ^ 60)⟩
theorem p16_ok : StOkP p16 := elemE_ok (by decide) fun e he => by
  have : e = elemE [97] [116] ∨ e = elemE [98] [117] := by simpa [p16] using he
  rcases this with rfl | rfl <;> exact ⟨_, _, rfl⟩
theorem evBd_T (ts : Int) {n : Int} (h : InR n) : EvBd (evT ts n) := ⟨(by decide : 3 < 2 ^ 40), fun v hv => by
  have : v = ⟨3, 0, []⟩ ∨ v = ⟨1, n, []⟩ ∨ v = ⟨2, 0, []⟩ := by simpa [evT] using hv
  rcases this with rfl | rfl | rfl
  · exact ⟨by decide, by decide⟩
  · exact ⟨(by decide : 0 < 2 ^ 40), h⟩
  · exact ⟨by decide, by decide⟩⟩
theorem evBd_U (ts : Int) {n : Int} (h : InR n) : EvBd (evU ts n) := ⟨(by decide : 1 < 2 ^ 40), fun v hv => by
  have : v = ⟨1, n, []⟩ := by simpa [evU] using hv
  rw [this]; exact ⟨(by decide : 0 < 2 ^ 40), h⟩⟩
theorem l16_bd : ∀ e ∈ l16, EvBd e := fun e he => by
  have : e = evT 1 1 ∨ e = evU 2 1 := by simpa [l16] using he
  rcases this with rfl | rfl
  · exact evBd_T _ (by decide)
  · exact evBd_U _ (by decide)
theorem l16_strm : strmB l16 = true := by kernel_rfl
def r16 : List (List Bd) := [[⟨0, 0⟩]]
def m16 : List (List Bd) := [[⟨0, 0⟩, ⟨1, 1⟩]]
theorem s16_1 : stepE baseS p16 (k16.take 1) [] = some (r16, []) := by kernel_rfl
theorem s16_2 : stepE baseS p16 k16 r16 = some ([], m16) := by kernel_rfl
theorem s16_a : allE baseS p16 k16 = ([[], m16], none) := by kernel_rfl
def paZ16 : List V := [.sl none [] .zero, i64V 0, str [], bV false]
set_option maxRecDepth 100000 in
set_option maxHeartbeats 4000000 in
theorem known16_call (hC : CountsUp) : PCall Tryz.prog 4 [] (bV true) := by
  have fs := stream_call l16 (by decide) l16_bd 0 (by decide) (by decide)
  rw [streamR, l16_strm, if_pos rfl] at fs
  obtain ⟨hk, _⟩ := kept_ok (l := l16) (by decide) l16_bd (at_ := 0) l16_strm
  have f1 := step_call hC baseS base_ok p16 p16_ok (k16.take 1) (hk.toStOkL.take 1) [] (runs_nil p16)
  have f2 := step_call hC baseS base_ok p16 p16_ok k16 hk.toStOkL r16 (step_runs p16_ok.n (runs_nil p16) s16_1).1
  have f3 := all_call hC baseS base_ok p16 p16_ok k16 hk.toStOkL (by decide)
  rw [s16_1] at f1
  rw [s16_2] at f2
  rw [s16_a] at f3
  refine scall_of (live := []) (ords := [(2, []), (4, []), (7, [])]) Tryz.func4 rfl (by kernel_rfl) (by kernel_rfl) (Nat.le_of_ble_eq_true rfl) ?_
  (conv=>arg 2;whnf);refine wp_pcall (evt_call 1 1) ?_
  (conv=>arg 2;whnf);refine wp_pcall (evu_call 2 1) ?_
  (conv=>arg 2;whnf);refine wp_pcall fs ?_
  (conv=>arg 2;whnf)
  refine wp_cutR (frL [(1, kpsV k16), (2, bV true)]) [] (.cons (.refl _) (.cons (.refl _) (.nil _))) (List.nil_sublist _) ?_
  (conv=>arg 2;whnf);refine wp_pcall (helem_call [97] [116]) ?_
  (conv=>arg 2;whnf);refine wp_pcall (helem_call [98] [117]) ?_
  (conv=>arg 2;whnf);refine wp_allocE paZ16 rfl fun c => ?_
  (conv=>arg 2;whnf);refine wp_storeE (cs := paZ16) 0 0 (paC p16) rfl rfl (VleL.refl _) (Nat.le_refl _) rfl (R' := [.obj c (paC p16)]) rfl ?_
  (conv=>arg 2;whnf);refine wp_pcall base_call ?_
  (conv=>arg 2;whnf);refine wp_allocE scZ rfl fun d => ?_
  (conv=>arg 2;whnf);refine wp_storeE (cs := scZ) 1 0 (scC baseS) rfl rfl (VleL.refl _) (Nat.le_refl _) rfl (R' := [.obj c (paC p16), .obj d (scC baseS)]) rfl ?_
  (conv=>arg 2;whnf)
  refine wp_cutP (frL [(1, kpsV k16), (2, bV true), (3, .pt (some 4) (.agg (paC p16)) 0), (4, .pt (some 1) (scV baseS) 0)]) [] [.obj c (paC p16), .obj d (scC baseS)] (.cons (.refl _) (.cons (.refl _) (.cons (.all (List.Mem.head _) rfl (by decide) (VleL.refl _)) (.cons (.all (List.Mem.tail _ (List.Mem.head _)) rfl (by decide) (VleL.refl _)) (.nil _))))) ?_
  (conv=>arg 2;whnf);refine wp_need (by decide) ?_
  (conv=>arg 2;whnf);refine wp_pcV (.cons (.refl _) (.cons (.refl _) (.cons (Vle.eq rfl) (.cons (Vle.nil _ _ _) .nil)))) f1 ?_
  (conv=>arg 2;whnf);refine wp_pcallV (.cons (.refl _) (.cons (.refl _) (.cons (.refl _) (.cons (.refl _) .nil)))) f2 ?_
  (conv=>arg 2;whnf);refine wp_pcall f3 ?_
  (conv=>arg 2;whnf)
  refine wp_cutR (frL [(2, bV true), (5, runsV r16), (6, runsV []), (7, .c (errV none)), (8, runsV []), (9, runsV m16), (10, .c (errV none)), (11, mssV [[], m16]), (12, .c (errV none))]) [] (.cons (.refl _) (.cons (.refl _) (.cons (.refl _) (.cons (.refl _) (.cons (.refl _) (.cons (.refl _) (.cons (.refl _) (.cons (.refl _) (.cons (.refl _) (.nil _)))))))))) (List.nil_sublist _) ?_
  (repeat ((conv=>arg 2;whnf);first|refine wp_it rfl ?_|refine wp_if rfl ?_))
  (conv=>arg 2;whnf);refine wp_elem 0 (runV [⟨0, 0⟩, ⟨1, 1⟩]) rfl rfl (Vle.refl _) ?_
  (repeat ((conv=>arg 2;whnf);first|refine wp_it rfl ?_|refine wp_if rfl ?_))
  (conv=>arg 2;whnf);refine wp_elem 1 (runsV m16) rfl rfl (Vle.refl _) ?_
  (repeat ((conv=>arg 2;whnf);first|refine wp_it rfl ?_|refine wp_if rfl ?_))
  (conv=>arg 2;whnf);refine w_ret1 rfl (Vle.refl _) (List.nil_sublist _) rfl
end Go.Sv
namespace Go.Sv
open Go Go.Proofs
theorem paBd_ok {p : Pa} (hp : PaBd p) (hrg : ∀ e ∈ p.els, exRg e.cond) : RfOkP p :=
  ⟨⟨by have := hp.1; omega, fun e he => by have := (hp.2.1 e he).2.1; omega, fun e he => (hp.2.1 e he).2.2.2.1, hrg, fun e he => (hp.2.1 e he).2.2.2.kids⟩, fun e he => (hp.2.1 e he).2.2.2⟩
theorem RfOkL.take {l : List Kp} (h : RfOkL l) (n : Nat) : RfOkL (l.take n) := ⟨h.toStOkL.take n, fun k hk => h.is k (List.mem_of_mem_take hk)⟩
theorem kept_kok {p : Pa} (hp : chkE baseS p = 0) {l : List Ev} (hl : l.length < 2 ^ 30) (hb : ∀ e ∈ l, EvBd e) {at_ : Int} (hs : strmB l = true) : KOk baseS p (keptE at_ l) := by
  refine ⟨(chk_pf hp).2, (kept_ok hl hb hs).2, kept_rise at_ l, ?_⟩
  unfold keptE
  rw [List.pairwise_map, List.pairwise_iff_getElem]
  intro i j hi hj hij
  rw [List.getElem_range, List.getElem_range]
  rw [List.length_range] at hj
  exact strm_mono hs (by omega) hj
end Go.Sv
namespace Go.Sv
open Go Go.Proofs
theorem mss_at {l : List (List (List Bd))} {n : Nat} {m : List (List Bd)} (h : l[n]? = some m) : (l.map runsV)[n]? = some (runsV m) := by rw [List.getElem?_map, h]; rfl
end Go.Sv
namespace Go.Sv
open Go Go.Proofs
set_option maxRecDepth 100000 in
set_option maxHeartbeats 8000000 in
theorem steptells_call (hC : CountsUp) (p : Pa) (hp : PaBd p) (hrg : ∀ e ∈ p.els, exRg e.cond) (l : List Ev) (hl : l.length < 2 ^ 30) (hb : ∀ e ∈ l, EvBd e) : PCall Tryz.prog 3 [.agg (paC p), evsV l] (bV true) := by
  have f0 := known16_call hC
  have fs := stream_call l hl hb 4 (by decide) (by decide)
  have fc := rcheck_call baseS base_ok p hp
  refine scall_of (live := []) (ords := [(5, []), (6, []), (7, []), (17, []), (19, [])]) Tryz.func3 rfl (by kernel_rfl) (by kernel_rfl) (Nat.le_of_ble_eq_true rfl) ?_
  (conv=>arg 2;whnf);refine wp_pcall f0 ?_
  (repeat ((conv=>arg 2;whnf);first|refine wp_it rfl ?_|refine wp_if rfl ?_))
  (conv=>arg 2;whnf);refine wp_pcall base_call ?_
  (conv=>arg 2;whnf);refine wp_allocE scZ rfl fun d => ?_
  (conv=>arg 2;whnf);refine wp_storeE (cs := scZ) 0 0 (scC baseS) rfl rfl (VleL.refl _) (Nat.le_refl _) rfl (R' := [.obj d (scC baseS)]) rfl ?_
  cases hsb : strmB l with
  | false =>
    rw [streamR, hsb, if_neg (by decide)] at fs
    (conv=>arg 2;whnf);refine wp_pcall fs ?_
    (conv=>arg 2;whnf)
    refine wp_cutR (frL [(7, bV false)]) [] (.cons (.refl _) (.nil _)) (List.nil_sublist _) ?_
    (repeat ((conv=>arg 2;whnf);first|refine wp_it rfl ?_|refine wp_if rfl ?_))
    refine wp_cutR (frL []) [] (.nil _) (List.nil_sublist _) ?_
    (conv=>arg 2;whnf);refine w_ret1 rfl (Vle.refl _) (List.nil_sublist _) rfl
  | true =>
    rw [streamR, hsb, if_pos rfl] at fs
    obtain ⟨hkf, hke⟩ := kept_ok (at_ := 4) hl hb hsb
    obtain ⟨k, hkE⟩ : ∃ k, k = keptE 4 l := ⟨_, rfl⟩
    have hklen : k.length = l.length := by rw [hkE, kept_length]
    (conv=>arg 2;whnf);refine wp_pcall fs ?_
    rw [← hkE] at hkf hke ⊢
    (conv=>arg 2;whnf)
    refine wp_cutP (frL [(1, evsV l), (2, .pt (some 4) (.agg (paC p)) 0), (5, .pt (some 1) (scV baseS) 0), (6, kpsV k), (7, bV true)]) [] [.obj d (scC baseS)] (.cons (.refl _) (.cons (.refl _) (.cons (.all (List.Mem.head _) rfl (by decide) (VleL.refl _)) (.cons (.refl _) (.cons (.refl _) (.nil _)))))) ?_
    clear fs
    (repeat ((conv=>arg 2;whnf);first|refine wp_it rfl ?_|refine wp_if rfl ?_))
    (conv=>arg 2;whnf);refine wp_ite (fun h1 => ?_) (fun h1 => ?_)
    · (repeat ((conv=>arg 2;whnf);first|refine wp_it rfl ?_|refine wp_if rfl ?_))
      (conv=>arg 2;whnf)
      refine wp_cutR (frL []) [] (.nil _) (List.nil_sublist _) ?_
      (conv=>arg 2;whnf);refine w_ret1 rfl (Vle.refl _) (List.nil_sublist _) rfl
    have h7 : l.length ≤ 14 := by
      have := of_decide_eq_false h1
      rw [List.length_map] at this; omega
    (conv=>arg 2;whnf);refine wp_pcall fc ?_
    (conv=>arg 2;whnf);refine wp_ite (fun h2 => ?_) (fun h2 => ?_)
    · (conv=>arg 2;whnf)
      refine wp_cutR (frL []) [] (.nil _) (List.nil_sublist _) ?_
      (conv=>arg 2;whnf);refine w_ret1 rfl (Vle.refl _) (List.nil_sublist _) rfl
    have hc0 : chkE baseS p = 0 := bne_eq_false_iff_eq.1 h2
    have hkk : KOk baseS p k := hkE ▸ kept_kok hc0 hl hb hsb
    have hpf := paBd_ok hp hrg
    have hpn := hpf.n
    have hpos := hkk.pf.pos
    (conv=>arg 2;whnf)
    refine wp_cutR (frL [(2, .pt (some 4) (.agg (paC p)) 0), (5, .pt (some 1) (scV baseS) 0), (6, kpsV k)]) [] (.cons (.refl _) (.cons (.refl _) (.cons (.refl _) (.nil _)))) (List.nil_sublist _) ?_
    clear f0 fc h1 h2 hb hsb
    (conv=>arg 2;whnf);refine wp_loop (fun m fr R => ∃ (i : Nat) (r : List (List Bd)), m = k.length - i ∧ i ≤ k.length ∧ InvS baseS p (k.take i) r ∧ R = [] ∧ fr = frL [(2, .pt (some 4) (.agg (paC p)) 0), (5, .pt (some 1) (scV baseS) 0), (6, kpsV k), (8, runsV r), (9, runsV r), (10, i64V i)])
      k.length _ _ (.cons (.refl _) (.cons (.refl _) (.cons (.refl _) (.cons (Vle.gotL (a := .sl none [] .zero) (b := runsV []) (Vle.nil _ _ _) rfl) (.cons (Vle.gotL (a := .sl none [] .zero) (b := runsV []) (Vle.nil _ _ _) rfl) (.cons (.refl _) (.nil _))))))) (List.Sublist.refl _) ⟨0, [], rfl, Nat.zero_le _, invS_nil hkk, rfl, rfl⟩ ?_
    rintro m fr R ⟨i, r, rfl, hi, hI, rfl, rfl⟩
    apply @wp_joinT _ (True → _)
    case h1 =>
      intro rest
      (conv=>arg 2;whnf);refine wp_ite (fun h => ?_) (fun h => ?_)
      · have h : i < k.length := by
          have := of_decide_eq_true h
          rw [List.length_map] at this; omega
        have fa := step_call hC baseS base_ok p hpf.toStOkP (k.take (i + 1)) (hkf.toStOkL.take _) r hI.runs
        have fb := rstep_call baseS base_ok p hpf hpos (k.take (i + 1)) (hkf.take _) r (RfRuns.of (hkk.pre i) hI)
        obtain ⟨hsf, hnx⟩ := stepS hpn hkk h hI
        rw [hsf] at fb
        have hms := fun r' m => step_ms (s := baseS) (p := p) (l := k.take (i + 1)) (r := r) (r' := r') (m := m)
        have hrn := hI.n
        have hw1 : IntKind.i64.wrap ((i : Int) + 1) = ((i + 1 : Nat) : Int) := by rw [w_i64_small (by omega) (by omega)]; omega
        have hneed : (0 : Int) ≤ IntKind.i64.wrap ((i : Int) + 1) ∧ IntKind.i64.wrap ((i : Int) + 1) ≤ ((k.map kpV).length : Int) := by rw [hw1, List.length_map]; omega
        have hsl : Vle (.sl (some 4) ((k.map kpV).take (Int.toNat (IntKind.i64.wrap ((i : Int) + 1)))) .no) (kpsV (k.take (i + 1))) := by rw [hw1]; exact kps_take k (i + 1)
        have hlt : k.length - (i + 1) < k.length - i := by omega
        have hi62 : i < 2 ^ 62 := by omega
        obtain ⟨z, hz⟩ : ∃ z, z = stepE baseS p (k.take (i + 1)) r := ⟨_, rfl⟩
        rw [← hz] at fa fb hnx
        simp only [← hz] at hms
        clear hz hsf
        cases z with
        | none =>
          have fa : PCall Tryz.prog 8 [scV baseS, .agg (paC p), kpsV (k.take (i + 1)), runsV r] (.tup [runsV [], runsV [], .c (errV (some 18))]) := fa
          have fb : PCall Tryz.prog 9 [scV baseS, .agg (paC p), kpsV (k.take (i + 1)), runsV r] (.tup [runsV [], runsV [], i64V 18]) := fb
          have fcd : PCall Tryz.prog 10 [.c (errV (some 18))] (i64V 18) := code_call (some 18)
          have f1 : PCall Tryz.prog 11 [runsV [], runsV []] (bV true) := rsamer_call [] [] (by decide) (by decide) (fun x hx => by cases hx) (fun x hx => by cases hx)
          have f2 : PCall Tryz.prog 12 [runsV [], runsV []] (bV true) := rsamem_call [] [] (by decide) (by decide) (fun x hx => by cases hx) (fun x hx => by cases hx)
          (conv=>arg 2;whnf);refine wp_need hneed ?_
          (conv=>arg 2;whnf);refine wp_pcV (.cons (.refl _) (.cons (.refl _) (.cons hsl (.cons (.refl _) .nil)))) fa ?_
          (conv=>arg 2;whnf);refine wp_need hneed ?_
          (conv=>arg 2;whnf);refine wp_pcV (.cons (.refl _) (.cons (.refl _) (.cons hsl (.cons (.refl _) .nil)))) fb ?_
          (conv=>arg 2;whnf);refine wp_pcall fcd ?_
          (repeat ((conv=>arg 2;whnf);first|refine wp_it rfl ?_|refine wp_if rfl ?_))
          (conv=>arg 2;whnf);refine wp_pcall f1 ?_
          (repeat ((conv=>arg 2;whnf);first|refine wp_it rfl ?_|refine wp_if rfl ?_))
          (conv=>arg 2;whnf);refine wp_pcall f2 ?_
          (repeat ((conv=>arg 2;whnf);first|refine wp_it rfl ?_|refine wp_if rfl ?_))
          (conv=>arg 2;whnf)
          refine wp_leaf (loop_exit ?_)
          (conv=>arg 2;whnf)
          exact wp_cutR (frL [(2, .pt (some 4) (.agg (paC p)) 0), (5, .pt (some 1) (scV baseS) 0), (6, kpsV k)]) [] (.cons (.refl _) (.cons (.refl _) (.cons (.refl _) (.nil _)))) (List.nil_sublist _) (rest trivial)
        | some y =>
          obtain ⟨a, b⟩ := y
          obtain ⟨hI', hbl⟩ := hnx a b rfl
          have hbn := hms a b rfl
          have fa : PCall Tryz.prog 8 [scV baseS, .agg (paC p), kpsV (k.take (i + 1)), runsV r] (.tup [runsV a, runsV b, .c (errV none)]) := fa
          have fb : PCall Tryz.prog 9 [scV baseS, .agg (paC p), kpsV (k.take (i + 1)), runsV r] (.tup [runsV a, runsV b, i64V 0]) := fb
          have fcd : PCall Tryz.prog 10 [.c (errV none)] (i64V 0) := code_call none
          have han := hI'.n
          have hal := hI'.len
          have f1 := rsamer_call a a (by omega) (by omega) (fun x hx => by have := hal x hx; omega) (fun x hx => by have := hal x hx; omega)
          have f2 := rsamem_call b b (by omega) (by omega) (fun x hx => by have := hbl x hx; omega) (fun x hx => by have := hbl x hx; omega)
          rw [decide_eq_true rfl] at f1 f2
          (conv=>arg 2;whnf);refine wp_need hneed ?_
          (conv=>arg 2;whnf);refine wp_pcV (.cons (.refl _) (.cons (.refl _) (.cons hsl (.cons (.refl _) .nil)))) fa ?_
          (conv=>arg 2;whnf);refine wp_need hneed ?_
          (conv=>arg 2;whnf);refine wp_pcV (.cons (.refl _) (.cons (.refl _) (.cons hsl (.cons (.refl _) .nil)))) fb ?_
          (conv=>arg 2;whnf);refine wp_pcall fcd ?_
          (repeat ((conv=>arg 2;whnf);first|refine wp_it rfl ?_|refine wp_if rfl ?_))
          (conv=>arg 2;whnf);refine wp_pcall f1 ?_
          (repeat ((conv=>arg 2;whnf);first|refine wp_it rfl ?_|refine wp_if rfl ?_))
          (conv=>arg 2;whnf);refine wp_pcall f2 ?_
          (repeat ((conv=>arg 2;whnf);first|refine wp_it rfl ?_|refine wp_if rfl ?_))
          (conv=>arg 2;whnf)
          exact wp_leaf (loop_next (k.length - (i + 1)) _ [] hlt (.cons (.refl _) (.cons (.refl _) (.cons (.refl _) (.cons (.refl _) (.cons (.refl _) (.cons (Vle.inc i rfl hi62) (.nil _))))))) (List.nil_sublist _) ⟨i + 1, a, rfl, h, hI', rfl, rfl⟩)
      · (conv=>arg 2;whnf)
        refine wp_leaf (loop_exit ?_)
        (conv=>arg 2;whnf)
        exact wp_cutR (frL [(2, .pt (some 4) (.agg (paC p)) 0), (5, .pt (some 1) (scV baseS) 0), (6, kpsV k)]) [] (.cons (.refl _) (.cons (.refl _) (.cons (.refl _) (.nil _)))) (List.nil_sublist _) (rest trivial)
    case rest =>
      intro _
      have fa := all_call hC baseS base_ok p hpf.toStOkP k hkf.toStOkL (by omega)
      have fb := rall_call baseS base_ok p hpf k hkf (by omega) hkk
      rw [all_ref hpn hkk] at fb
      obtain ⟨hmo, hml⟩ := allGo_ms hpn hkk k.length 0 [] [] (by omega) (invS_nil hkk) (fun m hm => by cases hm)
      obtain ⟨ms, er, hae⟩ : ∃ ms er, allE baseS p k = (ms, er) := ⟨_, _, rfl⟩
      rw [show allGo baseS p k k.length 0 [] [] = (ms, er) from hae] at hmo hml
      rw [hae] at fa fb
      have fa : PCall Tryz.prog 13 [scV baseS, .agg (paC p), kpsV k] (.tup [mssV ms, .c (errV er)]) := fa
      have fb : PCall Tryz.prog 14 [scV baseS, .agg (paC p), kpsV k] (.tup [mssV ms, i64V (codeOf er)]) := fb
      have hml : ms.length ≤ 20 := by simp only [List.length_nil] at hml; omega
      have hmo : ∀ m ∈ ms, m.length ≤ 121 ∧ ∀ x ∈ m, x.length ≤ 30 := hmo
      have fcd := code_call er
      have e1 : (((codeOf er : Nat) : Int) != ((codeOf er : Nat) : Int)) = false := by simp
      have e2 : (((ms.map runsV).length : Int) != ((ms.map runsV).length : Int)) = false := by simp
      clear hi hI
      (conv=>arg 2;whnf);refine wp_pcall fa ?_
      (conv=>arg 2;whnf);refine wp_pcall fb ?_
      (conv=>arg 2;whnf);refine wp_cutR (frL [(17, mssV ms), (18, .c (errV er)), (19, mssV ms), (20, i64V (codeOf er))]) [] (.cons (.refl _) (.cons (.refl _) (.cons (.refl _) (.cons (.refl _) (.nil _))))) (List.nil_sublist _) ?_
      (conv=>arg 2;whnf);refine wp_pcall fcd ?_
      (conv=>arg 2;whnf);refine wp_if e1 ?_
      (conv=>arg 2;whnf);refine wp_if e2 ?_
      (conv=>arg 2;whnf);refine wp_loop (fun m fr R => ∃ i : Nat, m = ms.length - i ∧ i ≤ ms.length ∧ R = [] ∧ fr = frL [(17, mssV ms), (19, mssV ms), (21, i64V i)])
        ms.length _ _ (.cons (.refl _) (.cons (.refl _) (.cons (.refl _) (.nil _)))) (List.Sublist.refl _) ⟨0, rfl, Nat.zero_le _, rfl, rfl⟩ ?_
      rintro m fr R ⟨i, rfl, hi, rfl, rfl⟩
      (conv=>arg 2;whnf);refine wp_ite (fun h => ?_) (fun h => ?_)
      · have h : i < ms.length := by
          have := of_decide_eq_true h
          rw [List.length_map] at this; omega
        obtain ⟨mi, hmi⟩ : ∃ x, ms[i]? = some x := ⟨_, List.getElem?_eq_getElem h⟩
        obtain ⟨h3, h4⟩ := hmo mi (List.mem_of_getElem? hmi)
        have f2 := rsamem_call mi mi (by omega) (by omega) (fun x hx => by have := h4 x hx; omega) (fun x hx => by have := h4 x hx; omega)
        rw [decide_eq_true rfl] at f2
        (conv=>arg 2;whnf);refine wp_elem i (runsV mi) rfl (mss_at hmi) (Vle.refl _) ?_
        (conv=>arg 2;whnf);refine wp_elem i (runsV mi) rfl (mss_at hmi) (Vle.refl _) ?_
        (conv=>arg 2;whnf);refine wp_pc f2 ?_
        (repeat ((conv=>arg 2;whnf);first|refine wp_it rfl ?_|refine wp_if rfl ?_))
        (conv=>arg 2;whnf)
        exact wp_leaf (loop_next (ms.length - (i + 1)) _ [] (by omega) (.cons (.refl _) (.cons (.refl _) (.cons (Vle.inc i rfl (by omega)) (.nil _)))) (List.nil_sublist _) ⟨i + 1, rfl, h, rfl, rfl⟩)
      · (conv=>arg 2;whnf)
        refine wp_leaf (loop_exit ?_)
        (conv=>arg 2;whnf);refine w_ret1 rfl (Vle.refl _) (List.nil_sublist _) rfl
theorem steptells_law (p : Pa) (l : List Ev) (hp : PaBd p) (hrg : ∀ e ∈ p.els, exRg e.cond) (hl : l.length < 2 ^ 30) (hb : ∀ e ∈ l, EvBd e) : PCall Tryz.prog 3 [.agg (paC p), evsV l] (bV true) := steptells_call trivial p hp hrg l hl hb
end Go.Sv
