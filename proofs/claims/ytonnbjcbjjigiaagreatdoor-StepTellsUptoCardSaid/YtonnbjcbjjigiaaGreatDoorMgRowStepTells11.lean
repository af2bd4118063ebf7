/- Parts of the proof, one behind the other. -/
import Derived.Test.YtonnbjcbjjigiaaGreatDoorMgRowStepTells6
import Derived.Test.YtonnbjcbjjigiaaGreatDoorMgRowStepTells5
import Derived.Test.YtonnbjcbjjigiaaGreatDoorMgRowStepTells10
import Derived.Test.YtonnbjcbjjigiaaGreatDoorTie
import Derived.Test.YtonnbjcbjjigiaaGreatDoorCards
import Derived.ChangeVars
import Derived.LaidLaws
import Derived.LaidMore
import Derived.LaidHandle
import Derived.Lib.LaidU8
import Derived.Stop.Joined
import Derived.SevenTiedAt
import Derived.Lay
import Derived.Deep.DeepHandedRow
import Derived.Deep.DeepWitnessRowRef
import Derived.Test.YtonnbjcbjjigiaaGreatDoorMgRowStepTells7
namespace Go.Sv
open Go Go.Proofs
theorem bl_irrefl : ∀ x : List UInt8, Op.bytesLess x x = false
  | [] => rfl
  | a :: x => by
    rw [Op.bytesLess]
    have : ¬ a < a := UInt8.lt_irrefl a
    simp [this, bl_irrefl x]
theorem bl_asymm : ∀ x y : List UInt8, Op.bytesLess x y = true → Op.bytesLess y x = false
  | [], [], h => by cases h
  | [], _ :: _, _ => rfl
  | _ :: _, [], h => by cases h
  | a :: x, b :: y, h => by
    rw [Op.bytesLess, Bool.or_eq_true, Bool.and_eq_true] at h
    rw [Op.bytesLess, Bool.or_eq_false_iff, Bool.and_eq_false_iff]
    rcases h with h | ⟨h1, h2⟩
    · have h := of_decide_eq_true h
      refine ⟨decide_eq_false (UInt8.lt_asymm h), .inl ?_⟩
      rw [beq_eq_false_iff_ne]
      rintro rfl
      exact UInt8.lt_irrefl _ h
    · have h1 : a = b := by simpa using h1
      subst h1
      exact ⟨decide_eq_false (UInt8.lt_irrefl a), .inr (bl_asymm x y h2)⟩
theorem bl_total : ∀ x y : List UInt8, Op.bytesLess x y = false → Op.bytesLess y x = false → x = y
  | [], [], _, _ => rfl
  | [], _ :: _, h, _ => by cases h
  | _ :: _, [], _, h => by cases h
  | a :: x, b :: y, h, h' => by
    rw [Op.bytesLess, Bool.or_eq_false_iff, Bool.and_eq_false_iff] at h h'
    have h1 := of_decide_eq_false h.1
    have h2 := of_decide_eq_false h'.1
    have hab : a = b := by
      have e1 : b ≤ a := UInt8.not_lt.1 h1
      have e2 : a ≤ b := UInt8.not_lt.1 h2
      exact UInt8.le_antisymm e2 e1
    subst hab
    rw [bl_total x y (h.2.resolve_left (by simp)) (h'.2.resolve_left (by simp))]
theorem lt_total {x y : List UInt8} : (!ltS y x) = (ltS x y || decide (x = y)) := by
  unfold ltS
  have e1 : (S x).toList = x := by simp [S, ByteArray.toList_eq]
  have e2 : (S y).toList = y := by simp [S, ByteArray.toList_eq]
  rw [e1, e2]
  cases h1 : Op.bytesLess x y with
  | true => rw [bl_asymm _ _ h1]; rfl
  | false =>
    cases h2 : Op.bytesLess y x with
    | true =>
      have : x ≠ y := by rintro rfl; rw [bl_irrefl] at h2; cases h2
      simp [this]
    | false => simp [bl_total _ _ h1 h2]
theorem lt_irr {x : List UInt8} : ltS x x = false := by unfold ltS; exact bl_irrefl _
def resN : Except Nat Val → V
  | .ok v => .tup [valV v, i64V 0]
  | .error e => .tup [valV val0, i64V e]
set_option maxRecDepth 100000 in
theorem rtruth_call (b : Bool) : PCall Tryz.prog 115 [bV b] (valV (boolV b)) := by
  refine scall_of (live := []) (ords := []) Tryz.func115 rfl (by kernel_rfl) (by kernel_rfl) (Nat.le_of_ble_eq_true rfl) ?_
  (conv=>arg 2;whnf);refine wp_allocE valZ rfl fun c => ?_
  cases b with
  | true =>
    (repeat ((conv=>arg 2;whnf);first|refine wp_it rfl ?_|refine wp_if rfl ?_))
    (conv=>arg 2;whnf);refine wp_storeE (cs := valZ) 0 0 (valL (boolV true)) rfl rfl (boolZ_vle true) (Nat.le_refl _) rfl (R' := [.obj c (valL (boolV true))]) rfl ?_
    (conv=>arg 2;whnf);refine w_ret1k (R' := []) c 0 0 rfl rfl rfl rfl rfl (Vle.refl _) (List.nil_sublist _) rfl
  | false =>
    (repeat ((conv=>arg 2;whnf);first|refine wp_it rfl ?_|refine wp_if rfl ?_))
    (conv=>arg 2;whnf);refine wp_storeE (cs := valZ) 0 0 (valL (boolV false)) rfl rfl (boolZ_vle false) (Nat.le_refl _) rfl (R' := [.obj c (valL (boolV false))]) rfl ?_
    (conv=>arg 2;whnf);refine w_ret1k (R' := []) c 0 0 rfl rfl rfl rfl rfl (Vle.refl _) (List.nil_sublist _) rfl
theorem beq_iff_bool {a b : Bool} {p : Prop} [Decidable p] (h : (a = true ↔ b = true) ↔ p) : (a == b) = decide p := by
  rw [Bool.eq_iff_iff, beq_iff_eq, decide_eq_true_iff, ← h, Bool.eq_iff_iff]
instance (n : Int) : Decidable (InR n) := inferInstanceAs (Decidable (_ ≤ _ ∧ _ < _))
theorem inI_dec (n : Int) : inI n = decide (InR n) := by
  cases h : inI n with
  | true => rw [inI, Bool.and_eq_true] at h; exact (decide_eq_true ⟨of_decide_eq_true h.1, of_decide_eq_true h.2⟩).symm
  | false => exact (decide_eq_false fun hr => by rw [inI_t hr] at h; cases h).symm
theorem over_add {a b : Int} (ha : InR a) (hb : InR b) : (decide (b ≥ 0) == decide (IntKind.i64.wrap (a + b) ≥ a)) = inI (a + b) := by
  rw [inI_dec]
  refine beq_iff_bool (p := InR _) ?_
  rw [decide_eq_true_iff, decide_eq_true_iff, w_i64]
  unfold InR at *
  omega
theorem over_sub {a b : Int} (ha : InR a) (hb : InR b) : (decide (b ≥ 0) == decide (IntKind.i64.wrap (a - b) ≤ a)) = inI (a - b) := by
  rw [inI_dec]
  refine beq_iff_bool (p := InR _) ?_
  rw [decide_eq_true_iff, decide_eq_true_iff, w_i64]
  unfold InR at *
  omega
theorem opI_3 (a b : Int) : opI 3 a b = a + b := rfl
theorem opI_4 (a b : Int) : opI 4 a b = a - b := rfl
theorem opI_5 (a b : Int) : opI 5 a b = a * b := rfl
theorem in_w {n m : Int} (hm : m = IntKind.i64.wrap n) : inI n = true → m = n := fun h => by rw [hm]; exact w_in (by rw [inI_dec] at h; exact of_decide_eq_true h)
set_option maxRecDepth 100000 in
set_option maxHeartbeats 1000000 in
theorem over_call (op a b : Int) (h3 : 3 ≤ op) (h5 : op ≤ 5) (ha : InR a) (hb : InR b) : ∃ n, (inI (opI op a b) = true → n = opI op a b) ∧ PCall Tryz.prog 139 [i64V op, i64V a, i64V b] (.tup [i64V n, bV (inI (opI op a b))]) := by
  rcases (by omega : op = 3 ∨ op = 4 ∨ op = 5) with rfl | rfl | rfl
  · rw [opI_3]
    refine ⟨_, in_w rfl, ?_⟩
    refine scall_of (live := []) (ords := [(5, []), (8, []), (10, []), (13, [])]) Tryz.func139 rfl (by kernel_rfl) (by kernel_rfl) (Nat.le_of_ble_eq_true rfl) ?_
    (repeat ((conv=>arg 2;whnf);first|refine wp_it rfl ?_|refine wp_if rfl ?_))
    (conv=>arg 2;whnf);refine w_ret2 (b := bV (inI (a + b))) rfl (Vle.refl _) ?_ (List.nil_sublist _) rfl
    (conv => arg 1; whnf; arg 1; whnf)
    exact Vle.eq (cBool (over_add ha hb))
  · rw [opI_4]
    refine ⟨_, in_w rfl, ?_⟩
    refine scall_of (live := []) (ords := [(5, []), (8, []), (10, []), (13, [])]) Tryz.func139 rfl (by kernel_rfl) (by kernel_rfl) (Nat.le_of_ble_eq_true rfl) ?_
    (repeat ((conv=>arg 2;whnf);first|refine wp_it rfl ?_|refine wp_if rfl ?_))
    refine wp_cutR (frL [(1, i64V a), (2, i64V b), (12, i64V 4)]) [] (.cons (.refl _) (.cons (.refl _) (.cons (.refl _) (.nil _)))) (List.nil_sublist _) ?_
    (repeat ((conv=>arg 2;whnf);first|refine wp_it rfl ?_|refine wp_if rfl ?_))
    (conv=>arg 2;whnf);refine w_ret2 (b := bV (inI (a - b))) rfl (Vle.refl _) ?_ (List.nil_sublist _) rfl
    (conv => arg 1; whnf; arg 1; whnf)
    exact Vle.eq (cBool (over_sub ha hb))
  · rw [opI_5]
    have hmb := @mul_back a b ha hb
    have hz0 : a = 0 ∨ b = 0 → a * b = 0 := fun hz => by rcases hz with rfl | rfl <;> simp
    obtain ⟨n, hn⟩ : ∃ n, n = if a = 0 ∨ b = 0 then 0 else if (a = -1 ∧ b = -9223372036854775808) ∨ (b = -1 ∧ a = -9223372036854775808) then 0 else IntKind.i64.wrap (a * b) := ⟨_, rfl⟩
    have hno : a ≠ 0 → b ≠ 0 → (a = -1 ∧ b = -9223372036854775808) ∨ (b = -1 ∧ a = -9223372036854775808) → inI (a * b) = false := fun ha0 hb0 hx => inI_f fun h => by
      have := (hmb hb0).1 h
      rcases hx with hx | hx
      · exact this.2.1 hx
      · exact this.2.2 hx
    refine ⟨n, fun h => ?_, ?_⟩
    · rw [hn]
      split
      · rename_i hz; exact (hz0 hz).symm
      · rename_i hz
        split
        · rename_i hx
          rw [hno (fun e => hz (.inl e)) (fun e => hz (.inr e)) hx] at h; cases h
        · exact in_w rfl h
    refine scall_of (live := []) (ords := [(5, []), (8, []), (10, []), (13, [])]) Tryz.func139 rfl (by kernel_rfl) (by kernel_rfl) (Nat.le_of_ble_eq_true rfl) ?_
    (repeat ((conv=>arg 2;whnf);first|refine wp_it rfl ?_|refine wp_if rfl ?_))
    refine wp_cutR (frL [(1, i64V a), (2, i64V b), (12, i64V 5)]) [] (.cons (.refl _) (.cons (.refl _) (.cons (.refl _) (.nil _)))) (List.nil_sublist _) ?_
    (repeat ((conv=>arg 2;whnf);first|refine wp_it rfl ?_|refine wp_if rfl ?_))
    refine wp_cutR (frL [(1, i64V a), (2, i64V b)]) [] (.cons (.refl _) (.cons (.refl _) (.nil _))) (List.nil_sublist _) ?_
    by_cases hz : a = 0 ∨ b = 0
    · rw [if_pos hz] at hn
      have hr : bV true = bV (inI (a * b)) := by rw [hz0 hz]; rfl
      rw [hn]
      (conv=>arg 2;whnf);refine wp_ite (fun h1 => ?_) (fun h1 => ?_)
      · (repeat ((conv=>arg 2;whnf);first|refine wp_it rfl ?_|refine wp_if rfl ?_))
        (conv=>arg 2;whnf);refine w_ret2 rfl (Vle.refl _) (Vle.eq hr) (List.nil_sublist _) rfl
      · have h1 : a ≠ 0 := by simpa using h1
        have hb0 : (b == 0) = true := by have := hz.resolve_left h1; simpa using this
        (conv=>arg 2;whnf);refine wp_it hb0 ?_
        (conv=>arg 2;whnf);refine w_ret2 rfl (Vle.refl _) (Vle.eq hr) (List.nil_sublist _) rfl
    · have ha0 : (a == 0) = false := by have := fun e => hz (.inl e); simpa using this
      have hb0 : b ≠ 0 := fun e => hz (.inr e)
      have hb0' : (b == 0) = false := by simpa using hb0
      have hmb := hmb hb0
      have hno := hno (fun e => hz (.inl e)) hb0
      rw [if_neg hz] at hn
      (conv=>arg 2;whnf);refine wp_if ha0 ?_
      (conv=>arg 2;whnf);refine wp_if hb0' ?_
      (conv=>arg 2;whnf)
      refine wp_cutR (frL [(1, i64V a), (2, i64V b)]) [] (.cons (.refl _) (.cons (.refl _) (.nil _))) (List.nil_sublist _) ?_
      by_cases hx : (a = -1 ∧ b = -9223372036854775808) ∨ (b = -1 ∧ a = -9223372036854775808)
      · rw [if_pos hx] at hn
        rw [hno hx, hn]
        by_cases ha1 : a = -1
        · have hb1 : b = -9223372036854775808 := by omega
          have e1 : (a == -1) = true := by simpa using ha1
          have e2 : (b == -9223372036854775808) = true := by simpa using hb1
          clear hx ha1 hb1
          (conv=>arg 2;whnf);refine wp_it e1 ?_
          (conv=>arg 2;whnf);refine wp_it e2 ?_
          (repeat ((conv=>arg 2;whnf);first|refine wp_it rfl ?_|refine wp_if rfl ?_))
          (conv=>arg 2;whnf);refine w_ret2 rfl (Vle.refl _) (Vle.refl _) (List.nil_sublist _) rfl
        · have hx := hx.resolve_left (fun h => ha1 h.1)
          have e0 : (a == -1) = false := by simpa using ha1
          have e1 : (b == -1) = true := by simpa using hx.1
          have e2 : (a == -9223372036854775808) = true := by simpa using hx.2
          clear hx ha1
          (conv=>arg 2;whnf);refine wp_if e0 ?_
          (repeat ((conv=>arg 2;whnf);first|refine wp_it rfl ?_|refine wp_if rfl ?_))
          (conv=>arg 2;whnf);refine wp_it e1 ?_
          (conv=>arg 2;whnf);refine wp_it e2 ?_
          (conv=>arg 2;whnf);refine w_ret2 rfl (Vle.refl _) (Vle.refl _) (List.nil_sublist _) rfl
      · rw [if_neg hx] at hn
        have hq : (IntKind.i64.wrap ((IntKind.i64.wrap (a * b)).tdiv b) == a) = inI (a * b) := by
          rw [inI_dec, Bool.eq_iff_iff, beq_iff_eq, decide_eq_true_iff, hmb]
          exact ⟨fun h => ⟨h, fun e => hx (.inl e), fun e => hx (.inr e)⟩, fun h => h.1⟩
        rw [hn]
        apply wp_joinT
        case h1 =>
          intro rest
          (conv=>arg 2;whnf);refine wp_ite (fun h1 => ?_) (fun h1 => ?_)
          · have h1 : a = -1 := by simpa using h1
            (conv=>arg 2;whnf);refine wp_ite (fun h2 => ?_) (fun h2 => ?_)
            · exact absurd (.inl ⟨h1, by simpa using h2⟩) hx
            · (conv=>arg 2;whnf);refine wp_ite (fun h3 => ?_) (fun h3 => ?_)
              · (conv=>arg 2;whnf);refine wp_ite (fun h => absurd (.inr ⟨by simpa using h3, by simpa using h⟩) hx) (fun _ => ?_)
                (conv=>arg 2;whnf)
                exact wp_cutR (frL [(1, i64V a), (2, i64V b)]) [] (.cons (.refl _) (.cons (.refl _) (.nil _))) (List.nil_sublist _) rest
              · (repeat ((conv=>arg 2;whnf);first|refine wp_it rfl ?_|refine wp_if rfl ?_))
                exact wp_cutR (frL [(1, i64V a), (2, i64V b)]) [] (.cons (.refl _) (.cons (.refl _) (.nil _))) (List.nil_sublist _) rest
          · (repeat ((conv=>arg 2;whnf);first|refine wp_it rfl ?_|refine wp_if rfl ?_))
            (conv=>arg 2;whnf);refine wp_ite (fun h3 => ?_) (fun h3 => ?_)
            · (conv=>arg 2;whnf);refine wp_ite (fun h => absurd (.inr ⟨by simpa using h3, by simpa using h⟩) hx) (fun _ => ?_)
              (conv=>arg 2;whnf)
              exact wp_cutR (frL [(1, i64V a), (2, i64V b)]) [] (.cons (.refl _) (.cons (.refl _) (.nil _))) (List.nil_sublist _) rest
            · (repeat ((conv=>arg 2;whnf);first|refine wp_it rfl ?_|refine wp_if rfl ?_))
              exact wp_cutR (frL [(1, i64V a), (2, i64V b)]) [] (.cons (.refl _) (.cons (.refl _) (.nil _))) (List.nil_sublist _) rest
        case rest =>
          (conv=>arg 2;whnf);refine wp_need hb0 ?_
          (conv=>arg 2;whnf);refine w_ret2 (b := bV (inI (a * b))) rfl (Vle.refl _) ?_ (List.nil_sublist _) rfl
          (conv => arg 1; whnf; arg 1; whnf)
          exact Vle.eq (cBool hq)
end Go.Sv
namespace Go.Sv
open Go Go.Proofs
theorem val_kinds {a b : Val} (ha : valIs a = true) (hb : valIs b = true) (hk : a.kind = b.kind) (h3 : a.kind ≠ 3) : (a.kind = 1 ∧ a.s = [] ∧ b.s = []) ∨ (a.kind = 2 ∧ a.n = 0 ∧ b.n = 0) := by
  unfold valIs at ha hb
  by_cases h1 : a.kind = 1
  · rw [if_pos h1] at ha
    rw [if_pos (hk ▸ h1)] at hb
    exact .inl ⟨h1, of_decide_eq_true ha, of_decide_eq_true hb⟩
  · rw [if_neg h1] at ha
    rw [if_neg (hk ▸ h1)] at hb
    by_cases h2 : a.kind = 2
    · rw [if_pos h2, Bool.and_eq_true] at ha
      rw [if_pos (hk ▸ h2), Bool.and_eq_true] at hb
      exact .inr ⟨h2, of_decide_eq_true ha.1, of_decide_eq_true hb.1⟩
    · rw [if_neg h2, if_neg h3] at ha; cases ha
theorem val_ext {a b : Val} : a = b ↔ a.kind = b.kind ∧ a.n = b.n ∧ a.s = b.s := by
  cases a; cases b; simp
theorem lt_val {a b : Val} (ha : valIs a = true) (hb : valIs b = true) (hk : a.kind = b.kind) (h3 : a.kind ≠ 3) : lessV a b = (decide (a.n < b.n) || ltS a.s b.s) := by
  unfold lessV
  rcases val_kinds ha hb hk h3 with ⟨h1, e1, e2⟩ | ⟨h1, e1, e2⟩
  · rw [if_pos h1, e1, e2, lt_irr, Bool.or_false]
  · rw [if_neg (by omega), e1, e2]; rfl
theorem le_val {a b : Val} (ha : valIs a = true) (hb : valIs b = true) (hk : a.kind = b.kind) (h3 : a.kind ≠ 3) : (!lessV b a) = (decide (a.n < b.n) || ltS a.s b.s || decide (a = b)) := by
  rw [lt_val hb ha hk.symm (hk ▸ h3)]
  rcases val_kinds ha hb hk h3 with ⟨h1, e1, e2⟩ | ⟨h1, e1, e2⟩
  · have h4 : decide (a = b) = decide (a.n = b.n) := by
      rw [Bool.eq_iff_iff]; simp [val_ext, hk, e1, e2]
    rw [h4, e1, e2, lt_irr, Bool.or_false, Bool.or_false, Bool.eq_iff_iff]
    simp only [Bool.not_eq_true', decide_eq_false_iff_not, Bool.or_eq_true, decide_eq_true_iff]
    omega
  · have h4 : decide (a = b) = decide (a.s = b.s) := by
      rw [Bool.eq_iff_iff]; simp [val_ext, hk, e1, e2]
    rw [e1, e2, h4]
    simp only [Int.lt_irrefl, decide_false, Bool.false_or]
    exact lt_total
theorem pair_ok {op : Int} {a b : Val} (hs : a.kind = b.kind) (h : ¬ (op ≤ 5 ∧ a.kind = 1)) : pairE op a b = if op = 6 then .ok (boolV (decide (a = b))) else if op = 7 then .ok (boolV (!decide (a = b))) else if op = 8 ∧ a.kind ≠ 3 then .ok (boolV (lessV a b)) else if op = 9 ∧ a.kind ≠ 3 then .ok (boolV (!lessV b a)) else .error 14 := by
  rw [pairE, if_pos hs, if_neg h]
set_option maxRecDepth 100000 in
set_option maxHeartbeats 2000000 in
theorem rtwo_call (op : Int) (a b : Val) (h3 : 3 ≤ op) (ha : InR a.n) (hb : InR b.n) (hva : valIs a = true) (hvb : valIs b = true) : PCall Tryz.prog 131 [i64V op, valV a, valV b] (resN (pairE op a b)) := by
  refine scall_of (live := []) (ords := [(3, []), (8, []), (10, []), (12, []), (14, []), (16, [])]) Tryz.func131 rfl (by kernel_rfl) (by kernel_rfl) (Nat.le_of_ble_eq_true rfl) ?_
  (conv=>arg 2;whnf);refine wp_allocE valZ rfl fun c => ?_
  (conv=>arg 2;whnf);refine wp_ite (fun hs => ?_) (fun hs => ?_)
  · have hs : a.kind ≠ b.kind := by simpa using hs
    have hr : pairE op a b = .error 14 := by rw [pairE, if_neg hs]
    rw [hr]
    (conv=>arg 2;whnf);refine wp_storeE (cs := valZ) 0 0 (valL val0) rfl rfl (VleL.refl _) (Nat.le_refl _) rfl (R' := [.obj c (valL val0)]) rfl ?_
    (conv=>arg 2;whnf);refine w_ret2ck (R' := []) (a := valV val0) (u := i64V 14) c 0 0 rfl rfl rfl rfl rfl (Vle.refl _) (Vle.refl _) (List.nil_sublist _) rfl
  have hs : a.kind = b.kind := by simpa using hs
  (conv=>arg 2;whnf)
  refine wp_cutR (frL [(0, i64V op), (4, .pt (some 3) (valV a) 0), (5, .pt (some 3) (valV b) 0), (6, .loc c 0)]) [.obj c valZ] (.cons (.refl _) (.cons (.refl _) (.cons (.refl _) (.cons (.refl _) (.nil _))))) (List.Sublist.refl _) ?_
  by_cases h5 : op ≤ 5 ∧ a.kind = 1
  · have hr : pairE op a b = arithE op a.n b.n := by rw [pairE, if_pos hs, if_pos h5]
    obtain ⟨n, hn, f1⟩ := over_call op a.n b.n h3 h5.1 ha hb
    have e1 : decide (op ≤ 5) = true := decide_eq_true h5.1
    have e2 : (a.kind == 1) = true := by simpa using h5.2
    (conv=>arg 2;whnf);refine wp_it e1 ?_
    (conv=>arg 2;whnf);refine wp_it e2 ?_
    cases hi : inI (opI op a.n b.n) with
    | true =>
      rw [hi] at f1
      rw [hr, arith_t hi, ← hn hi]
      (conv=>arg 2;whnf);refine wp_pcall f1 ?_
      (repeat ((conv=>arg 2;whnf);first|refine wp_it rfl ?_|refine wp_if rfl ?_))
      (conv=>arg 2;whnf);refine wp_storeE (cs := valZ) 0 0 (valL ⟨1, n, []⟩) rfl rfl (VleL.refl _) (Nat.le_refl _) rfl (R' := [.obj c (valL ⟨1, n, []⟩)]) rfl ?_
      (conv=>arg 2;whnf);refine w_ret2ck (R' := []) (a := valV ⟨1, n, []⟩) (u := i64V 0) c 0 0 rfl rfl rfl rfl rfl (Vle.refl _) (Vle.refl _) (List.nil_sublist _) rfl
    | false =>
      rw [hi] at f1
      rw [hr, arith_f hi]
      (conv=>arg 2;whnf);refine wp_pcall f1 ?_
      (repeat ((conv=>arg 2;whnf);first|refine wp_it rfl ?_|refine wp_if rfl ?_))
      (conv=>arg 2;whnf);refine wp_storeE (cs := valZ) 0 0 (valL val0) rfl rfl (VleL.refl _) (Nat.le_refl _) rfl (R' := [.obj c (valL val0)]) rfl ?_
      (conv=>arg 2;whnf);refine w_ret2ck (R' := []) (a := valV val0) (u := i64V 16) c 0 0 rfl rfl rfl rfl rfl (Vle.refl _) (Vle.refl _) (List.nil_sublist _) rfl
  have hp := pair_ok hs h5
  apply wp_joinT
  case h1 =>
    intro rest
    (conv=>arg 2;whnf);refine wp_ite (fun h6 => ?_) (fun h6 => ?_)
    · have h6 : op ≤ 5 := of_decide_eq_true h6
      have e2 : (a.kind == 1) = false := by have : a.kind ≠ 1 := fun e => h5 ⟨h6, e⟩; simpa using this
      (conv=>arg 2;whnf);refine wp_if e2 ?_
      (conv=>arg 2;whnf)
      exact wp_cutR (frL [(0, i64V op), (4, .pt (some 3) (valV a) 0), (5, .pt (some 3) (valV b) 0), (6, .loc c 0)]) [.obj c valZ] (.cons (.refl _) (.cons (.refl _) (.cons (.refl _) (.cons (.refl _) (.nil _))))) (List.Sublist.refl _) rest
    · (repeat ((conv=>arg 2;whnf);first|refine wp_it rfl ?_|refine wp_if rfl ?_))
      exact wp_cutR (frL [(0, i64V op), (4, .pt (some 3) (valV a) 0), (5, .pt (some 3) (valV b) 0), (6, .loc c 0)]) [.obj c valZ] (.cons (.refl _) (.cons (.refl _) (.cons (.refl _) (.cons (.refl _) (.nil _))))) (List.Sublist.refl _) rest
  case rest =>
    (conv=>arg 2;whnf);refine wp_ite (fun h6 => ?_) (fun h6 => ?_)
    · have h6 : op = 6 := by simpa using h6
      rw [if_pos h6] at hp
      rw [hp]
      (conv=>arg 2;whnf);refine wp_need valEqB ?_
      (conv=>arg 2;whnf);refine wp_pcallV (.cons (Vle.eq (cBool (val_eq a b))) .nil) (rtruth_call _) ?_
      (conv=>arg 2;whnf);refine wp_storeE (cs := valZ) 0 0 (valL (boolV (decide (a = b)))) rfl rfl (VleL.refl _) (Nat.le_refl _) rfl (R' := [.obj c (valL (boolV (decide (a = b))))]) rfl ?_
      (conv=>arg 2;whnf);refine w_ret2ck (R' := []) (a := valV (boolV (decide (a = b)))) (u := i64V 0) c 0 0 rfl rfl rfl rfl rfl (Vle.refl _) (Vle.refl _) (List.nil_sublist _) rfl
    have h6 : op ≠ 6 := by simpa using h6
    rw [if_neg h6] at hp
    (conv=>arg 2;whnf)
    refine wp_cutR (frL [(0, i64V op), (4, .pt (some 3) (valV a) 0), (5, .pt (some 3) (valV b) 0), (6, .loc c 0)]) [.obj c valZ] (.cons (.refl _) (.cons (.refl _) (.cons (.refl _) (.cons (.refl _) (.nil _))))) (List.Sublist.refl _) ?_
    (conv=>arg 2;whnf);refine wp_ite (fun h7 => ?_) (fun h7 => ?_)
    · have h7 : op = 7 := by simpa using h7
      rw [if_pos h7] at hp
      rw [hp]
      (conv=>arg 2;whnf);refine wp_need valEqB ?_
      (conv=>arg 2;whnf);refine wp_pcallV (.cons (Vle.eq (cBool (congrArg (!·) (val_eq a b)))) .nil) (rtruth_call _) ?_
      (conv=>arg 2;whnf);refine wp_storeE (cs := valZ) 0 0 (valL (boolV (!decide (a = b)))) rfl rfl (VleL.refl _) (Nat.le_refl _) rfl (R' := [.obj c (valL (boolV (!decide (a = b))))]) rfl ?_
      (conv=>arg 2;whnf);refine w_ret2ck (R' := []) (a := valV (boolV (!decide (a = b)))) (u := i64V 0) c 0 0 rfl rfl rfl rfl rfl (Vle.refl _) (Vle.refl _) (List.nil_sublist _) rfl
    have h7 : op ≠ 7 := by simpa using h7
    rw [if_neg h7] at hp
    (conv=>arg 2;whnf)
    refine wp_cutR (frL [(0, i64V op), (4, .pt (some 3) (valV a) 0), (5, .pt (some 3) (valV b) 0), (6, .loc c 0)]) [.obj c valZ] (.cons (.refl _) (.cons (.refl _) (.cons (.refl _) (.cons (.refl _) (.nil _))))) (List.Sublist.refl _) ?_
    by_cases h8 : op = 8 ∧ a.kind ≠ 3
    · rw [if_pos h8, lt_val hva hvb hs h8.2] at hp
      have e1 : (op == 8) = true := by simpa using h8.1
      have e2 : (a.kind != 3) = true := by simpa using h8.2
      (conv=>arg 2;whnf);refine wp_it e1 ?_
      (conv=>arg 2;whnf);refine wp_it e2 ?_
      (conv=>arg 2;whnf);refine wp_ite (fun h9 => ?_) (fun h9 => ?_)
      · have hp : pairE op a b = .ok (boolV true) := by rw [hp, h9]; rfl
        rw [hp]
        (conv=>arg 2;whnf);refine wp_pcall (rtruth_call true) ?_
        (conv=>arg 2;whnf);refine wp_storeE (cs := valZ) 0 0 (valL (boolV true)) rfl rfl (VleL.refl _) (Nat.le_refl _) rfl (R' := [.obj c (valL (boolV true))]) rfl ?_
        (conv=>arg 2;whnf);refine w_ret2ck (R' := []) (a := valV (boolV true)) (u := i64V 0) c 0 0 rfl rfl rfl rfl rfl (Vle.refl _) (Vle.refl _) (List.nil_sublist _) rfl
      · have hp : pairE op a b = .ok (boolV (ltS a.s b.s)) := by rw [hp, h9]; rfl
        rw [hp]
        (conv=>arg 2;whnf);refine wp_pcallV (args' := [bV (ltS a.s b.s)]) (.cons (Vle.of (bV (ltS a.s b.s)) rfl rfl) .nil) (rtruth_call _) ?_
        (conv=>arg 2;whnf);refine wp_storeE (cs := valZ) 0 0 (valL (boolV (ltS a.s b.s))) rfl rfl (VleL.refl _) (Nat.le_refl _) rfl (R' := [.obj c (valL (boolV (ltS a.s b.s)))]) rfl ?_
        (conv=>arg 2;whnf);refine w_ret2ck (R' := []) (a := valV (boolV (ltS a.s b.s))) (u := i64V 0) c 0 0 rfl rfl rfl rfl rfl (Vle.refl _) (Vle.refl _) (List.nil_sublist _) rfl
    rw [if_neg h8] at hp
    apply wp_joinT
    case h1 =>
      intro rest
      (conv=>arg 2;whnf);refine wp_ite (fun h6 => ?_) (fun h6 => ?_)
      · have e2 : (a.kind != 3) = false := by
          have h6 : op = 8 := by simpa using h6
          have : a.kind = 3 := Classical.byContradiction fun e => h8 ⟨h6, e⟩
          simpa using this
        (conv=>arg 2;whnf);refine wp_if e2 ?_
        (conv=>arg 2;whnf)
        exact wp_cutR (frL [(0, i64V op), (4, .pt (some 3) (valV a) 0), (5, .pt (some 3) (valV b) 0), (6, .loc c 0)]) [.obj c valZ] (.cons (.refl _) (.cons (.refl _) (.cons (.refl _) (.cons (.refl _) (.nil _))))) (List.Sublist.refl _) rest
      · (repeat ((conv=>arg 2;whnf);first|refine wp_it rfl ?_|refine wp_if rfl ?_))
        exact wp_cutR (frL [(0, i64V op), (4, .pt (some 3) (valV a) 0), (5, .pt (some 3) (valV b) 0), (6, .loc c 0)]) [.obj c valZ] (.cons (.refl _) (.cons (.refl _) (.cons (.refl _) (.cons (.refl _) (.nil _))))) (List.Sublist.refl _) rest
    case rest =>
      by_cases h9 : op = 9 ∧ a.kind ≠ 3
      · rw [if_pos h9, le_val hva hvb hs h9.2] at hp
        have e1 : (op == 9) = true := by simpa using h9.1
        have e2 : (a.kind != 3) = true := by simpa using h9.2
        (conv=>arg 2;whnf);refine wp_it e1 ?_
        (conv=>arg 2;whnf);refine wp_it e2 ?_
        (conv=>arg 2;whnf);refine wp_ite (fun h10 => ?_) (fun h10 => ?_)
        · have hp : pairE op a b = .ok (boolV true) := by rw [hp, h10]; rfl
          rw [hp]
          (repeat ((conv=>arg 2;whnf);first|refine wp_it rfl ?_|refine wp_if rfl ?_))
          (conv=>arg 2;whnf);refine wp_pcall (rtruth_call true) ?_
          (conv=>arg 2;whnf);refine wp_storeE (cs := valZ) 0 0 (valL (boolV true)) rfl rfl (VleL.refl _) (Nat.le_refl _) rfl (R' := [.obj c (valL (boolV true))]) rfl ?_
          (conv=>arg 2;whnf);refine w_ret2ck (R' := []) (a := valV (boolV true)) (u := i64V 0) c 0 0 rfl rfl rfl rfl rfl (Vle.refl _) (Vle.refl _) (List.nil_sublist _) rfl
        · (conv=>arg 2;whnf);refine wp_ite (fun h11 => ?_) (fun h11 => ?_)
          · have h11 : ltS a.s b.s = true := h11
            have hp : pairE op a b = .ok (boolV true) := by rw [hp, h11, Bool.or_true, Bool.true_or]
            rw [hp]
            (conv=>arg 2;whnf);refine wp_pcall (rtruth_call true) ?_
            (conv=>arg 2;whnf);refine wp_storeE (cs := valZ) 0 0 (valL (boolV true)) rfl rfl (VleL.refl _) (Nat.le_refl _) rfl (R' := [.obj c (valL (boolV true))]) rfl ?_
            (conv=>arg 2;whnf);refine w_ret2ck (R' := []) (a := valV (boolV true)) (u := i64V 0) c 0 0 rfl rfl rfl rfl rfl (Vle.refl _) (Vle.refl _) (List.nil_sublist _) rfl
          · have h11 : ltS a.s b.s = false := h11
            have hp : pairE op a b = .ok (boolV (decide (a = b))) := by rw [hp, h10, h11]; rfl
            rw [hp]
            (conv=>arg 2;whnf);refine wp_need valEqB ?_
            (conv=>arg 2;whnf);refine wp_pcallV (.cons (Vle.eq (cBool (val_eq a b))) .nil) (rtruth_call _) ?_
            (conv=>arg 2;whnf);refine wp_storeE (cs := valZ) 0 0 (valL (boolV (decide (a = b)))) rfl rfl (VleL.refl _) (Nat.le_refl _) rfl (R' := [.obj c (valL (boolV (decide (a = b))))]) rfl ?_
            (conv=>arg 2;whnf);refine w_ret2ck (R' := []) (a := valV (boolV (decide (a = b)))) (u := i64V 0) c 0 0 rfl rfl rfl rfl rfl (Vle.refl _) (Vle.refl _) (List.nil_sublist _) rfl
      · rw [if_neg h9] at hp
        rw [hp]
        apply wp_joinT
        case h1 =>
          intro rest
          (conv=>arg 2;whnf);refine wp_ite (fun h6 => ?_) (fun h6 => ?_)
          · have e2 : (a.kind != 3) = false := by
              have h6 : op = 9 := by simpa using h6
              have : a.kind = 3 := Classical.byContradiction fun e => h9 ⟨h6, e⟩
              simpa using this
            (conv=>arg 2;whnf);refine wp_if e2 ?_
            (conv=>arg 2;whnf)
            exact wp_cutR (frL [(6, .loc c 0)]) [.obj c valZ] (.cons (.refl _) (.nil _)) (List.Sublist.refl _) rest
          · (repeat ((conv=>arg 2;whnf);first|refine wp_it rfl ?_|refine wp_if rfl ?_))
            exact wp_cutR (frL [(6, .loc c 0)]) [.obj c valZ] (.cons (.refl _) (.nil _)) (List.Sublist.refl _) rest
        case rest =>
          (conv=>arg 2;whnf);refine wp_storeE (cs := valZ) 0 0 (valL val0) rfl rfl (VleL.refl _) (Nat.le_refl _) rfl (R' := [.obj c (valL val0)]) rfl ?_
          (conv=>arg 2;whnf);refine w_ret2ck (R' := []) (a := valV val0) (u := i64V 14) c 0 0 rfl rfl rfl rfl rfl (Vle.refl _) (Vle.refl _) (List.nil_sublist _) rfl
end Go.Sv
namespace Go.Sv
open Go Go.Proofs
def GoodR (r : Except Nat Val) : Prop := (∀ v, r = .ok v → valIs v = true) ∧ ∀ e, r = .error e → e ≠ 0
theorem good_ok {v : Val} (h : valIs v = true) : GoodR (.ok v) := ⟨fun _ e => by cases e; exact h, fun _ e => by cases e⟩
theorem good_err {n : Nat} (h : n ≠ 0) : GoodR (.error n) := ⟨fun _ e => (by cases e), fun _ e => by cases e; exact h⟩
theorem boolV_is (b : Bool) : valIs (boolV b) = true := by cases b <;> rfl
theorem pair_good {op : Int} {a b : Val} : GoodR (pairE op a b) := by
  unfold pairE arithE
  split
  · split
    · split
      · exact good_ok rfl
      · exact good_err (by decide)
    · repeat' split
      all_goals first | exact good_ok (boolV_is _) | exact good_err (by decide)
  · exact good_err (by decide)
def BnIs (l : List Bn) : Prop := ∀ b ∈ l, ∀ v ∈ b.e.vals, valIs v = true
theorem lastB_mem {al : List UInt8} {l : List Bn} {b : Bn} (h : lastB al l = some b) : b ∈ l := List.mem_reverse.1 (List.mem_of_find?_eq_some h)
theorem field_good {s : Sc} {l : List Bn} (hl : BnIs l) {al f : List UInt8} : GoodR (fieldE s l al f) := by
  unfold fieldE
  split
  · exact good_err (by decide)
  · rename_i b hb
    split
    · exact good_err (by decide)
    · rename_i v hv
      exact good_ok (hl b (lastB_mem hb) v (getV_mem hv))
theorem shaped_lit {k : Nat} {v : Val} {a f : List UInt8} {ks : List Ex} (h : shapedN (k + 1) (.mk 1 v a f ks) = true) : valIs v = true := by
  rw [shapedN] at h
  split at h
  · cases h
  · rw [if_pos (show Ex.op _ = 1 from rfl), Bool.and_eq_true] at h
    exact h.1
theorem ev_good {s : Sc} {l : List Bn} (hl : BnIs l) : ∀ (k : Nat) (x : Ex), shapedN k x = true → GoodR (evE s l k x)
  | 0, _, h => by cases h
  | k + 1, .mk o xv xa xf ks, hsh => by
    rcases shape_cases hsh with rfl | rfl | ⟨rfl, a, rfl, ha⟩ | ⟨h3, h11, a, b, rfl, ha, hb2⟩
    · rw [evE, if_pos (show Ex.op _ = 1 from rfl)]; exact good_ok (shaped_lit hsh)
    · rw [evE, if_neg (show ¬ Ex.op (.mk 2 xv xa xf ks) = 1 from (by decide : ¬ (2 : Int) = 1)), if_pos (show Ex.op _ = 2 from rfl)]; exact field_good hl
    · rw [evE_not]
      have := ev_good (s := s) hl k a ha
      unfold notE
      split
      · rename_i e he; rw [he] at this; exact good_err (this.2 e rfl)
      · split
        · exact good_err (by decide)
        · exact good_ok (boolV_is _)
    · have ga := ev_good (s := s) hl k a ha
      have gb := ev_good (s := s) hl k b hb2
      by_cases h10 : o = 10 ∨ o = 11
      · rw [evE_ch h10]
        unfold chE
        split
        · rename_i e he; rw [he] at ga; exact good_err (ga.2 e rfl)
        · rename_i v hv
          rw [hv] at ga
          split
          · exact good_err (by decide)
          · split
            · exact good_ok (ga.1 v rfl)
            · split
              · rename_i e he; rw [he] at gb; exact good_err (gb.2 e rfl)
              · rename_i u hu
                rw [hu] at gb
                split
                · exact good_err (by decide)
                · exact good_ok (gb.1 u rfl)
      · rw [evE_two h3 (by omega)]
        unfold twoE
        split
        · rename_i e he; rw [he] at ga; exact good_err (ga.2 e rfl)
        · split
          · rename_i e he; rw [he] at gb; exact good_err (gb.2 e rfl)
          · exact pair_good
theorem lastB_hit {al : List UInt8} {l : List Bn} {n : Nat} {y : Bn} (h : (l.drop (n + 1)).any (fun b => decide (b.al = al)) = false) (hy : l[n]? = some y) (hq : decide (y.al = al) = true) : lastB al l = some y := by
  have hs : l = l.take n ++ y :: l.drop (n + 1) := by rw [← drop_at hy, List.take_append_drop]
  rw [lastB, hs, List.reverse_append, List.reverse_cons, List.find?_append, List.find?_append]
  have h1 : (l.drop (n + 1)).reverse.find? (fun b => decide (b.al = al)) = none := find_none (by rw [List.any_reverse]; exact h)
  rw [h1]
  simp [hq]
theorem lastB_none {al : List UInt8} {l : List Bn} (h : l.any (fun b => decide (b.al = al)) = false) : lastB al l = none := find_none (by rw [List.any_reverse]; exact h)
theorem drop_any {al : List UInt8} {l : List Bn} {n : Nat} {y : Bn} (h : (l.drop (n + 1)).any (fun b => decide (b.al = al)) = false) (hy : l[n]? = some y) (hq : decide (y.al = al) = false) : (l.drop n).any (fun b => decide (b.al = al)) = false := by
  rw [drop_at hy, List.any_cons, h, hq]; rfl
theorem beq_dec (x y : Int) : (x == y) = decide (x = y) := by rw [Bool.eq_iff_iff]; simp
set_option maxRecDepth 100000 in
set_option maxHeartbeats 2000000 in
theorem rev_field (s : Sc) (hs : ScOk s) (l : List Bn) (hl : l.length < 2 ^ 60) (xv : Val) (xa xf : List UInt8) (ks : List Ex) :
    PCall Tryz.prog 124 [scV s, .agg (exC (.mk 2 xv xa xf ks)), bnsV l] (resN (fieldE s l xa xf)) := by
  refine scall_of (live := []) (ords := []) Tryz.func124 rfl (by kernel_rfl) (by kernel_rfl) (Nat.le_of_ble_eq_true rfl) ?_
  (conv=>arg 2;whnf);refine wp_allocE valZ rfl fun c => ?_
  (repeat ((conv=>arg 2;whnf);first|refine wp_it rfl ?_|refine wp_if rfl ?_))
  (conv=>arg 2;whnf);refine wp_loop (fun m fr R => ∃ n : Nat, m = n ∧ n ≤ l.length ∧ R = [.obj c valZ] ∧ (l.drop n).any (fun b => decide (b.al = xa)) = false ∧ fr = frL [(2, bnsV l), (3, .pt (some 1) (scV s) 0), (4, .pt (some 7) (.agg (exC (.mk 2 xv xa xf ks))) 0), (6, .loc c 0), (8, i64V ((n : Int) - 1))])
    l.length _ _ (.cons (.refl _) (.cons (.refl _) (.cons (.refl _) (.cons (.refl _) (.cons (Vle.i64 _ rfl (by rw [List.length_map, w_i64_small (by omega) (by omega)])) (.nil _)))))) (List.Sublist.refl _) ⟨l.length, rfl, Nat.le_refl _, rfl, by rw [List.drop_length]; rfl, rfl⟩ ?_
  rintro m fr R ⟨n, rfl, hn, rfl, ha, rfl⟩
  (conv=>arg 2;whnf);refine wp_ite (fun h => ?_) (fun h => ?_)
  · have h : 0 < m := by have := of_decide_eq_true h; omega
    obtain ⟨n, rfl⟩ : ∃ n, m = n + 1 := ⟨m - 1, by omega⟩
    obtain ⟨y, hy⟩ : ∃ y, l[n]? = some y := ⟨_, List.getElem?_eq_getElem (by omega)⟩
    (conv=>arg 2;whnf);refine wp_elem n (bnV y) (by omega) (bns_at hy) (Vle.refl _) ?_
    (conv=>arg 2;whnf);refine wp_ite (fun h1 => ?_) (fun h1 => ?_)
    · rw [strEq] at h1
      have h1 : decide (y.al = xa) = true := h1
      have hr := lastB_hit ha hy h1
      have f1 := rget_call s hs y.e xf
      cases hg : getV s y.e xf with
      | none =>
        have hr2 : fieldE s l xa xf = .error 13 := by rw [fieldE, hr]; simp only [hg]
        rw [hg] at f1
        rw [hr2]
        (conv=>arg 2;whnf);refine wp_elem n (bnV y) (by omega) (bns_at hy) (Vle.refl _) ?_
        (conv=>arg 2;whnf);refine wp_pc f1 ?_
        (conv=>arg 2;whnf);refine wp_allocE valZ rfl fun d => ?_
        (conv=>arg 2;whnf);refine wp_storeE (cs := valZ) 1 0 (valL val0) rfl rfl (VleL.refl _) (Nat.le_refl _) rfl (R' := [.obj c valZ, .obj d (valL val0)]) rfl ?_
        (repeat ((conv=>arg 2;whnf);first|refine wp_it rfl ?_|refine wp_if rfl ?_))
        (conv=>arg 2;whnf);refine wp_storeE (cs := valZ) 0 0 (valL val0) rfl rfl (VleL.refl _) (Nat.le_refl _) rfl (R' := [.obj c (valL val0), .obj d (valL val0)]) rfl ?_
        (conv=>arg 2;whnf)
        refine wp_leaf (loop_ret ?_)
        (conv=>arg 2;whnf);refine w_ret2ck (R' := []) (a := valV val0) (u := i64V 13) c 0 0 rfl rfl rfl rfl rfl (Vle.refl _) (Vle.refl _) (List.nil_sublist _) rfl
      | some v =>
        have hr2 : fieldE s l xa xf = .ok v := by rw [fieldE, hr]; simp only [hg]
        rw [hg] at f1
        rw [hr2]
        (conv=>arg 2;whnf);refine wp_elem n (bnV y) (by omega) (bns_at hy) (Vle.refl _) ?_
        (conv=>arg 2;whnf);refine wp_pc f1 ?_
        (conv=>arg 2;whnf);refine wp_allocE valZ rfl fun d => ?_
        (conv=>arg 2;whnf);refine wp_storeE (cs := valZ) 1 0 (valL v) rfl rfl (VleL.refl _) (Nat.le_refl _) rfl (R' := [.obj c valZ, .obj d (valL v)]) rfl ?_
        (repeat ((conv=>arg 2;whnf);first|refine wp_it rfl ?_|refine wp_if rfl ?_))
        (conv=>arg 2;whnf);refine wp_load (cs := valL v) 1 rfl rfl ?_
        (conv=>arg 2;whnf);refine wp_storeE (cs := valZ) 0 0 (valL v) rfl rfl (VleL.refl _) (Nat.le_refl _) rfl (R' := [.obj c (valL v), .obj d (valL v)]) rfl ?_
        (conv=>arg 2;whnf)
        refine wp_leaf (loop_ret ?_)
        (conv=>arg 2;whnf);refine w_ret2ck (R' := []) (a := valV v) (u := i64V 0) c 0 0 rfl rfl rfl rfl rfl (Vle.refl _) (Vle.refl _) (List.nil_sublist _) rfl
    · rw [strEq] at h1
      have h1 : decide (y.al = xa) = false := h1
      have hn' := drop_any ha hy h1
      (conv=>arg 2;whnf)
      exact wp_leaf (loop_next n _ [.obj c valZ] (by omega) (.cons (.refl _) (.cons (.refl _) (.cons (.refl _) (.cons (.refl _) (.cons (Vle.i64 _ rfl (by rw [w_i64_small (by omega) (by omega)]; omega)) (.nil _)))))) (List.Sublist.refl _) ⟨n, rfl, by omega, rfl, hn', rfl⟩)
  · have h : m = 0 := by have := of_decide_eq_false h; omega
    subst h
    have hr2 : fieldE s l xa xf = .error 13 := by rw [fieldE, lastB_none (by simpa using ha)]
    rw [hr2]
    (conv=>arg 2;whnf)
    refine wp_leaf (loop_exit ?_)
    (conv=>arg 2;whnf);refine wp_storeE (cs := valZ) 0 0 (valL val0) rfl rfl (VleL.refl _) (Nat.le_refl _) rfl (R' := [.obj c (valL val0)]) rfl ?_
    (conv=>arg 2;whnf);refine w_ret2ck (R' := []) (a := valV val0) (u := i64V 13) c 0 0 rfl rfl rfl rfl rfl (Vle.refl _) (Vle.refl _) (List.nil_sublist _) rfl
theorem resN_e {e : Nat} (h : e ≠ 0) : ((e : Int) != 0) = true := by simpa using h
theorem resN_eq {e : Nat} (h : e ≠ 0) : ((e : Int) == 0) = false := by simpa using h
set_option maxRecDepth 100000 in
set_option maxHeartbeats 4000000 in
theorem reval_call (s : Sc) (hs : ScOk s) (l : List Bn) (hl : l.length < 2 ^ 60) (hb : BnRg l) (hbi : BnIs l) : ∀ (k : Nat) (x : Ex), shapedN k x = true → exRg x → PCall Tryz.prog 124 [scV s, .agg (exC x), bnsV l] (resN (evE s l k x))
  | 0, _, h, _ => by cases h
  | k + 1, .mk o xv xa xf ks, hsh, hrg => by
    have hrg2 := (exRg_eq _).1 hrg
    rcases shape_cases hsh with rfl | rfl | ⟨rfl, a, rfl, ha⟩ | ⟨h3, h11, a, b, rfl, ha, hb2⟩
    · have hr : evE s l (k + 1) (.mk 1 xv xa xf ks) = .ok xv := by rw [evE, if_pos (show Ex.op _ = 1 from rfl)]; rfl
      rw [hr]
      refine scall_of (live := []) (ords := []) Tryz.func124 rfl (by kernel_rfl) (by kernel_rfl) (Nat.le_of_ble_eq_true rfl) ?_
      (conv=>arg 2;whnf);refine wp_allocE valZ rfl fun c => ?_
      (repeat ((conv=>arg 2;whnf);first|refine wp_it rfl ?_|refine wp_if rfl ?_))
      (conv=>arg 2;whnf);refine wp_storeE (cs := valZ) 0 0 (valL xv) rfl rfl (VleL.refl _) (Nat.le_refl _) rfl (R' := [.obj c (valL xv)]) rfl ?_
      (conv=>arg 2;whnf);refine w_ret2ck (R' := []) (a := valV xv) (u := i64V 0) c 0 0 rfl rfl rfl rfl rfl (Vle.refl _) (Vle.refl _) (List.nil_sublist _) rfl
    · have hr : evE s l (k + 1) (.mk 2 xv xa xf ks) = fieldE s l xa xf := by rw [evE, if_neg (show ¬ Ex.op (.mk 2 xv xa xf ks) = 1 from (by decide : ¬ (2 : Int) = 1)), if_pos (show Ex.op _ = 2 from rfl)]; rfl
      rw [hr]; exact rev_field s hs l hl xv xa xf ks
    · have ca := reval_call s hs l hl hb hbi k a ha (hrg2.2 a (by simp [Ex.kids]))
      have ga := ev_good (s := s) hbi k a ha
      rw [evE_not]
      refine scall_of (live := []) (ords := [(14, []), (16, []), (27, [])]) Tryz.func124 rfl (by kernel_rfl) (by kernel_rfl) (Nat.le_of_ble_eq_true rfl) ?_
      (conv=>arg 2;whnf);refine wp_allocE valZ rfl fun c => ?_
      (repeat ((conv=>arg 2;whnf);first|refine wp_it rfl ?_|refine wp_if rfl ?_))
      (conv=>arg 2;whnf);refine wp_elem 0 (.agg (exC a)) rfl (map1 a) (Vle.refl _) ?_
      cases hf : evE s l k a with
      | error e =>
        rw [hf] at ca ga
        have he := resN_e (ga.2 e rfl)
        (conv=>arg 2;whnf);refine wp_pc ca ?_
        (conv=>arg 2;whnf);refine wp_allocE valZ rfl fun d => ?_
        (conv=>arg 2;whnf);refine wp_storeE (cs := valZ) 1 0 (valL val0) rfl rfl (VleL.refl _) (Nat.le_refl _) rfl (R' := [.obj c valZ, .obj d (valL val0)]) rfl ?_
        (conv=>arg 2;whnf)
        refine wp_cutR (frL [(6, .loc c 0), (12, i64V e)]) [.obj c valZ] (.cons (.refl _) (.cons (.refl _) (.nil _))) (by simp) ?_
        (conv=>arg 2;whnf);refine wp_it he ?_
        (conv=>arg 2;whnf);refine wp_storeE (cs := valZ) 0 0 (valL val0) rfl rfl (VleL.refl _) (Nat.le_refl _) rfl (R' := [.obj c (valL val0)]) rfl ?_
        (conv=>arg 2;whnf);refine w_ret2ck (R' := []) (a := valV val0) (u := i64V e) c 0 0 rfl rfl rfl rfl rfl (Vle.refl _) (Vle.refl _) (List.nil_sublist _) rfl
      | ok v =>
        rw [hf] at ca
        (conv=>arg 2;whnf);refine wp_pc ca ?_
        (conv=>arg 2;whnf);refine wp_allocE valZ rfl fun d => ?_
        (conv=>arg 2;whnf);refine wp_storeE (cs := valZ) 1 0 (valL v) rfl rfl (VleL.refl _) (Nat.le_refl _) rfl (R' := [.obj c valZ, .obj d (valL v)]) rfl ?_
        (conv=>arg 2;whnf)
        refine wp_cutP (frL [(4, .pt (some 7) (.agg (exC (.mk 12 xv xa xf [a]))) 0), (6, .loc c 0), (11, .pt (some 3) (valV v) 0), (12, i64V 0)]) [.obj c valZ] [.obj d (valL v)] (.cons (.refl _) (.cons (.refl _) (.cons (.all (List.Mem.head _) rfl (by decide) (VleL.refl _)) (.cons (.refl _) (.nil _))))) ?_
        (repeat ((conv=>arg 2;whnf);first|refine wp_it rfl ?_|refine wp_if rfl ?_))
        refine wp_cutR (frL [(4, .pt (some 7) (.agg (exC (.mk 12 xv xa xf [a]))) 0), (6, .loc c 0), (11, .pt (some 3) (valV v) 0)]) [.obj c valZ] (.cons (.refl _) (.cons (.refl _) (.cons (.refl _) (.nil _)))) (List.Sublist.refl _) ?_
        (repeat ((conv=>arg 2;whnf);first|refine wp_it rfl ?_|refine wp_if rfl ?_))
        refine wp_cutR (frL [(4, .pt (some 7) (.agg (exC (.mk 12 xv xa xf [a]))) 0), (6, .loc c 0), (11, .pt (some 3) (valV v) 0)]) [.obj c valZ] (.cons (.refl _) (.cons (.refl _) (.cons (.refl _) (.nil _)))) (List.Sublist.refl _) ?_
        (repeat ((conv=>arg 2;whnf);first|refine wp_it rfl ?_|refine wp_if rfl ?_))
        (conv=>arg 2;whnf);refine wp_ite (fun h1 => ?_) (fun h1 => ?_)
        · have h1 : v.kind ≠ 3 := by simpa using h1
          have hr : notE (.ok v) = .error 14 := by rw [notE, if_pos h1]
          rw [hr]
          (conv=>arg 2;whnf);refine wp_storeE (cs := valZ) 0 0 (valL val0) rfl rfl (VleL.refl _) (Nat.le_refl _) rfl (R' := [.obj c (valL val0)]) rfl ?_
          (conv=>arg 2;whnf);refine w_ret2ck (R' := []) (a := valV val0) (u := i64V 14) c 0 0 rfl rfl rfl rfl rfl (Vle.refl _) (Vle.refl _) (List.nil_sublist _) rfl
        · have h1 : ¬ v.kind ≠ 3 := by simpa using h1
          have hr : notE (.ok v) = .ok (boolV (decide (v.n = 0))) := by rw [notE, if_neg h1]
          rw [hr]
          (conv=>arg 2;whnf);refine wp_pcallV (.cons (Vle.eq (cBool (beq_dec v.n 0))) .nil) (rtruth_call _) ?_
          (conv=>arg 2;whnf);refine wp_storeE (cs := valZ) 0 0 (valL (boolV (decide (v.n = 0)))) rfl rfl (VleL.refl _) (Nat.le_refl _) rfl (R' := [.obj c (valL (boolV (decide (v.n = 0))))]) rfl ?_
          (conv=>arg 2;whnf);refine w_ret2ck (R' := []) (a := valV (boolV (decide (v.n = 0)))) (u := i64V 0) c 0 0 rfl rfl rfl rfl rfl (Vle.refl _) (Vle.refl _) (List.nil_sublist _) rfl
    · have ca := reval_call s hs l hl hb hbi k a ha (hrg2.2 a (by simp [Ex.kids]))
      have cb := reval_call s hs l hl hb hbi k b hb2 (hrg2.2 b (by simp [Ex.kids]))
      have ga := ev_good (s := s) hbi k a ha
      have gb := ev_good (s := s) hbi k b hb2
      have hra : ∀ v, evE s l k a = .ok v → InR v.n := fun v hv => evE_rg hb k a v (hrg2.2 a (by simp [Ex.kids])) hv
      have hrb : ∀ v, evE s l k b = .ok v → InR v.n := fun v hv => evE_rg hb k b v (hrg2.2 b (by simp [Ex.kids])) hv
      have h1' : (o == 1) = false := by have : o ≠ 1 := by omega
                                        simpa using this
      have h2' : (o == 2) = false := by have : o ≠ 2 := by omega
                                        simpa using this
      obtain ⟨rb, hrbE⟩ : ∃ rb, rb = evE s l k b := ⟨_, rfl⟩
      have hev : evE s l (k + 1) (.mk o xv xa xf [a, b]) = if o = 10 ∨ o = 11 then chE o (evE s l k a) rb else twoE o (evE s l k a) rb := by
        rw [hrbE]
        split
        · rename_i h; exact evE_ch h
        · exact evE_two h3 (by omega)
      rw [hev]
      rw [← hrbE] at cb gb hrb
      clear hev hrbE hrg2 hrg hsh
      refine scall_of (live := []) (ords := [(14, []), (16, []), (17, []), (22, []), (27, []), (32, [])]) Tryz.func124 rfl (by kernel_rfl) (by kernel_rfl) (Nat.le_of_ble_eq_true rfl) ?_
      (conv=>arg 2;whnf);refine wp_allocE valZ rfl fun c => ?_
      (conv=>arg 2;whnf);refine wp_if h1' ?_
      (conv=>arg 2;whnf);refine wp_if h2' ?_
      (conv=>arg 2;whnf);refine wp_elem 0 (.agg (exC a)) rfl (map20 a b) (Vle.refl _) ?_
      cases hf : evE s l k a with
      | error e =>
        rw [hf] at ca ga
        have he := resN_e (ga.2 e rfl)
        have hr : (if o = 10 ∨ o = 11 then chE o (.error e) rb else twoE o (.error e) rb) = .error e := by split <;> rfl
        rw [hr]
        (conv=>arg 2;whnf);refine wp_pc ca ?_
        (conv=>arg 2;whnf);refine wp_allocE valZ rfl fun d => ?_
        (conv=>arg 2;whnf);refine wp_storeE (cs := valZ) 1 0 (valL val0) rfl rfl (VleL.refl _) (Nat.le_refl _) rfl (R' := [.obj c valZ, .obj d (valL val0)]) rfl ?_
        (conv=>arg 2;whnf)
        refine wp_cutR (frL [(6, .loc c 0), (12, i64V e)]) [.obj c valZ] (.cons (.refl _) (.cons (.refl _) (.nil _))) (by simp) ?_
        (conv=>arg 2;whnf);refine wp_it he ?_
        (conv=>arg 2;whnf);refine wp_storeE (cs := valZ) 0 0 (valL val0) rfl rfl (VleL.refl _) (Nat.le_refl _) rfl (R' := [.obj c (valL val0)]) rfl ?_
        (conv=>arg 2;whnf);refine w_ret2ck (R' := []) (a := valV val0) (u := i64V e) c 0 0 rfl rfl rfl rfl rfl (Vle.refl _) (Vle.refl _) (List.nil_sublist _) rfl
      | ok v =>
        rw [hf] at ca ga
        have hva := ga.1 v rfl
        have hrv := hra v hf
        (conv=>arg 2;whnf);refine wp_pc ca ?_
        (conv=>arg 2;whnf);refine wp_allocE valZ rfl fun d => ?_
        (conv=>arg 2;whnf);refine wp_storeE (cs := valZ) 1 0 (valL v) rfl rfl (VleL.refl _) (Nat.le_refl _) rfl (R' := [.obj c valZ, .obj d (valL v)]) rfl ?_
        (conv=>arg 2;whnf)
        refine wp_cutP (frL [(2, bnsV l), (3, .pt (some 1) (scV s) 0), (4, .pt (some 7) (.agg (exC (.mk o xv xa xf [a, b]))) 0), (6, .loc c 0), (11, .pt (some 3) (valV v) 0), (12, i64V 0)]) [.obj c valZ] [.obj d (valL v)] (.cons (.refl _) (.cons (.refl _) (.cons (.refl _) (.cons (.refl _) (.cons (.all (List.Mem.head _) rfl (by decide) (VleL.refl _)) (.cons (.refl _) (.nil _))))))) ?_
        clear ca hf hra
        (repeat ((conv=>arg 2;whnf);first|refine wp_it rfl ?_|refine wp_if rfl ?_))
        refine wp_cutR (frL [(2, bnsV l), (3, .pt (some 1) (scV s) 0), (4, .pt (some 7) (.agg (exC (.mk o xv xa xf [a, b]))) 0), (6, .loc c 0), (11, .pt (some 3) (valV v) 0)]) [.obj c valZ] (.cons (.refl _) (.cons (.refl _) (.cons (.refl _) (.cons (.refl _) (.cons (.refl _) (.nil _)))))) (List.Sublist.refl _) ?_
        by_cases h10 : o = 10 ∨ o = 11
        · rw [if_pos h10]
          apply wp_joinT
          case h1 =>
            intro rest
            (conv=>arg 2;whnf);refine wp_ite (fun h6 => ?_) (fun h6 => ?_)
            · (repeat ((conv=>arg 2;whnf);first|refine wp_it rfl ?_|refine wp_if rfl ?_))
              exact wp_cutR (frL [(2, bnsV l), (3, .pt (some 1) (scV s) 0), (4, .pt (some 7) (.agg (exC (.mk o xv xa xf [a, b]))) 0), (6, .loc c 0), (11, .pt (some 3) (valV v) 0)]) [.obj c valZ] (.cons (.refl _) (.cons (.refl _) (.cons (.refl _) (.cons (.refl _) (.cons (.refl _) (.nil _)))))) (List.Sublist.refl _) rest
            · have h11 : (o == 11) = true := by
                have h6 : (o == 10) = false := h6
                have h6 : o ≠ 10 := by simpa using h6
                have := h10.resolve_left h6
                simpa using this
              (conv=>arg 2;whnf);refine wp_it h11 ?_
              (conv=>arg 2;whnf)
              exact wp_cutR (frL [(2, bnsV l), (3, .pt (some 1) (scV s) 0), (4, .pt (some 7) (.agg (exC (.mk o xv xa xf [a, b]))) 0), (6, .loc c 0), (11, .pt (some 3) (valV v) 0)]) [.obj c valZ] (.cons (.refl _) (.cons (.refl _) (.cons (.refl _) (.cons (.refl _) (.cons (.refl _) (.nil _)))))) (List.Sublist.refl _) rest
          case rest =>
            (conv=>arg 2;whnf);refine wp_ite (fun h7 => ?_) (fun h7 => ?_)
            · have h7 : v.kind ≠ 3 := by simpa using h7
              rw [show chE o (.ok v) rb = .error 14 from if_pos h7]
              (conv=>arg 2;whnf);refine wp_storeE (cs := valZ) 0 0 (valL val0) rfl rfl (VleL.refl _) (Nat.le_refl _) rfl (R' := [.obj c (valL val0)]) rfl ?_
              (conv=>arg 2;whnf);refine w_ret2ck (R' := []) (a := valV val0) (u := i64V 14) c 0 0 rfl rfl rfl rfl rfl (Vle.refl _) (Vle.refl _) (List.nil_sublist _) rfl
            · have h7 : ¬ v.kind ≠ 3 := by simpa using h7
              (conv=>arg 2;whnf);refine wp_ite (fun h8 => ?_) (fun h8 => ?_)
              · have h8 : decide (v.n = 1) = decide (o = 11) := by rw [← beq_dec, ← beq_dec]; exact beq_iff_eq.1 h8
                rw [show chE o (.ok v) rb = .ok v from (if_neg h7).trans (if_pos h8)]
                (conv=>arg 2;whnf);refine wp_storeE (cs := valZ) 0 0 (valL v) rfl rfl (VleL.refl _) (Nat.le_refl _) rfl (R' := [.obj c (valL v)]) rfl ?_
                (conv=>arg 2;whnf);refine w_ret2ck (R' := []) (a := valV v) (u := i64V 0) c 0 0 rfl rfl rfl rfl rfl (Vle.refl _) (Vle.refl _) (List.nil_sublist _) rfl
              · have h8 : ¬ decide (v.n = 1) = decide (o = 11) := by rw [← beq_dec, ← beq_dec]; exact beq_eq_false_iff_ne.1 h8
                (conv=>arg 2;whnf);refine wp_elem 1 (.agg (exC b)) rfl (map21 a b) (Vle.refl _) ?_
                cases rb with
                | error e =>
                  have he := resN_e (gb.2 e rfl)
                  have he0 := resN_eq (gb.2 e rfl)
                  rw [show chE o (.ok v) (.error e) = .error e from (if_neg h7).trans (if_neg h8)]
                  (conv=>arg 2;whnf);refine wp_pc cb ?_
                  (conv=>arg 2;whnf);refine wp_allocE valZ rfl fun d => ?_
                  (conv=>arg 2;whnf);refine wp_storeE (cs := valZ) 1 0 (valL val0) rfl rfl (VleL.refl _) (Nat.le_refl _) rfl (R' := [.obj c valZ, .obj d (valL val0)]) rfl ?_
                  (conv=>arg 2;whnf)
                  refine wp_cutR (frL [(6, .loc c 0), (14, i64V e)]) [.obj c valZ] (.cons (.refl _) (.cons (.refl _) (.nil _))) (by simp) ?_
                  (conv=>arg 2;whnf);refine wp_if he0 ?_
                  (repeat ((conv=>arg 2;whnf);first|refine wp_it rfl ?_|refine wp_if rfl ?_))
                  (conv=>arg 2;whnf);refine wp_it he ?_
                  (conv=>arg 2;whnf);refine wp_storeE (cs := valZ) 0 0 (valL val0) rfl rfl (VleL.refl _) (Nat.le_refl _) rfl (R' := [.obj c (valL val0)]) rfl ?_
                  (conv=>arg 2;whnf);refine w_ret2ck (R' := []) (a := valV val0) (u := i64V e) c 0 0 rfl rfl rfl rfl rfl (Vle.refl _) (Vle.refl _) (List.nil_sublist _) rfl
                | ok u =>
                  have hc2 : chE o (.ok v) (.ok u) = if u.kind ≠ 3 then .error 14 else .ok u := (if_neg h7).trans (if_neg h8)
                  (conv=>arg 2;whnf);refine wp_pc cb ?_
                  (conv=>arg 2;whnf);refine wp_allocE valZ rfl fun d => ?_
                  (conv=>arg 2;whnf);refine wp_storeE (cs := valZ) 1 0 (valL u) rfl rfl (VleL.refl _) (Nat.le_refl _) rfl (R' := [.obj c valZ, .obj d (valL u)]) rfl ?_
                  (conv=>arg 2;whnf)
                  refine wp_cutP (frL [(6, .loc c 0), (13, .pt (some 3) (valV u) 0), (14, i64V 0)]) [.obj c valZ] [.obj d (valL u)] (.cons (.refl _) (.cons (.all (List.Mem.head _) rfl (by decide) (VleL.refl _)) (.cons (.refl _) (.nil _)))) ?_
                  (repeat ((conv=>arg 2;whnf);first|refine wp_it rfl ?_|refine wp_if rfl ?_))
                  (conv=>arg 2;whnf);refine wp_ite (fun h9 => ?_) (fun h9 => ?_)
                  · have h9 : u.kind ≠ 3 := by simpa using h9
                    rw [if_pos h9] at hc2
                    rw [hc2]
                    (repeat ((conv=>arg 2;whnf);first|refine wp_it rfl ?_|refine wp_if rfl ?_))
                    (conv=>arg 2;whnf);refine wp_storeE (cs := valZ) 0 0 (valL val0) rfl rfl (VleL.refl _) (Nat.le_refl _) rfl (R' := [.obj c (valL val0)]) rfl ?_
                    (conv=>arg 2;whnf);refine w_ret2ck (R' := []) (a := valV val0) (u := i64V 14) c 0 0 rfl rfl rfl rfl rfl (Vle.refl _) (Vle.refl _) (List.nil_sublist _) rfl
                  · have h9 : ¬ u.kind ≠ 3 := by simpa using h9
                    rw [if_neg h9] at hc2
                    rw [hc2]
                    (repeat ((conv=>arg 2;whnf);first|refine wp_it rfl ?_|refine wp_if rfl ?_))
                    (conv=>arg 2;whnf);refine wp_storeE (cs := valZ) 0 0 (valL u) rfl rfl (VleL.refl _) (Nat.le_refl _) rfl (R' := [.obj c (valL u)]) rfl ?_
                    (conv=>arg 2;whnf);refine w_ret2ck (R' := []) (a := valV u) (u := i64V 0) c 0 0 rfl rfl rfl rfl rfl (Vle.refl _) (Vle.refl _) (List.nil_sublist _) rfl
        · rw [if_neg h10]
          have h10' : (o == 10) = false := by have : o ≠ 10 := fun e => h10 (.inl e)
                                              simpa using this
          have h11' : (o == 11) = false := by have : o ≠ 11 := fun e => h10 (.inr e)
                                              simpa using this
          have h12' : (o == 12) = false := by have : o ≠ 12 := by omega
                                              simpa using this
          (conv=>arg 2;whnf);refine wp_if h10' ?_
          (conv=>arg 2;whnf);refine wp_if h11' ?_
          (conv=>arg 2;whnf)
          refine wp_cutR (frL [(2, bnsV l), (3, .pt (some 1) (scV s) 0), (4, .pt (some 7) (.agg (exC (.mk o xv xa xf [a, b]))) 0), (6, .loc c 0), (11, .pt (some 3) (valV v) 0)]) [.obj c valZ] (.cons (.refl _) (.cons (.refl _) (.cons (.refl _) (.cons (.refl _) (.cons (.refl _) (.nil _)))))) (List.Sublist.refl _) ?_
          (conv=>arg 2;whnf);refine wp_if h12' ?_
          (conv=>arg 2;whnf);refine wp_elem 1 (.agg (exC b)) rfl (map21 a b) (Vle.refl _) ?_
          cases rb with
          | error e =>
            have he := resN_e (gb.2 e rfl)
            rw [show twoE o (.ok v) (.error e) = .error e from rfl]
            (conv=>arg 2;whnf);refine wp_pc cb ?_
            (conv=>arg 2;whnf);refine wp_allocE valZ rfl fun d => ?_
            (conv=>arg 2;whnf);refine wp_storeE (cs := valZ) 1 0 (valL val0) rfl rfl (VleL.refl _) (Nat.le_refl _) rfl (R' := [.obj c valZ, .obj d (valL val0)]) rfl ?_
            (conv=>arg 2;whnf)
            refine wp_cutR (frL [(6, .loc c 0), (12, i64V e)]) [.obj c valZ] (.cons (.refl _) (.cons (.refl _) (.nil _))) (by simp) ?_
            (conv=>arg 2;whnf);refine wp_it he ?_
            (conv=>arg 2;whnf);refine wp_storeE (cs := valZ) 0 0 (valL val0) rfl rfl (VleL.refl _) (Nat.le_refl _) rfl (R' := [.obj c (valL val0)]) rfl ?_
            (conv=>arg 2;whnf);refine w_ret2ck (R' := []) (a := valV val0) (u := i64V e) c 0 0 rfl rfl rfl rfl rfl (Vle.refl _) (Vle.refl _) (List.nil_sublist _) rfl
          | ok u =>
            have f3 := rtwo_call o v u h3 hrv (hrb u rfl) hva (gb.1 u rfl)
            rw [show twoE o (.ok v) (.ok u) = pairE o v u from rfl]
            (conv=>arg 2;whnf);refine wp_pc cb ?_
            (conv=>arg 2;whnf);refine wp_allocE valZ rfl fun d => ?_
            (conv=>arg 2;whnf);refine wp_storeE (cs := valZ) 1 0 (valL u) rfl rfl (VleL.refl _) (Nat.le_refl _) rfl (R' := [.obj c valZ, .obj d (valL u)]) rfl ?_
            (conv=>arg 2;whnf)
            refine wp_cutP (frL [(4, .pt (some 7) (.agg (exC (.mk o xv xa xf [a, b]))) 0), (6, .loc c 0), (11, .pt (some 3) (valV v) 0), (15, .pt (some 3) (valV u) 0), (12, i64V 0)]) [.obj c valZ] [.obj d (valL u)] (.cons (.refl _) (.cons (.refl _) (.cons (.refl _) (.cons (.all (List.Mem.head _) rfl (by decide) (VleL.refl _)) (.cons (.refl _) (.nil _)))))) ?_
            (repeat ((conv=>arg 2;whnf);first|refine wp_it rfl ?_|refine wp_if rfl ?_))
            cases hp : pairE o v u with
            | ok w =>
              rw [hp] at f3
              (conv=>arg 2;whnf);refine wp_pcall f3 ?_
              (conv=>arg 2;whnf);refine wp_storeE (cs := valZ) 0 0 (valL w) rfl rfl (VleL.refl _) (Nat.le_refl _) rfl (R' := [.obj c (valL w)]) rfl ?_
              (conv=>arg 2;whnf);refine w_ret2ck (R' := []) (a := valV w) (u := i64V 0) c 0 0 rfl rfl rfl rfl rfl (Vle.refl _) (Vle.refl _) (List.nil_sublist _) rfl
            | error e =>
              rw [hp] at f3
              (conv=>arg 2;whnf);refine wp_pcall f3 ?_
              (conv=>arg 2;whnf);refine wp_storeE (cs := valZ) 0 0 (valL val0) rfl rfl (VleL.refl _) (Nat.le_refl _) rfl (R' := [.obj c (valL val0)]) rfl ?_
              (conv=>arg 2;whnf);refine w_ret2ck (R' := []) (a := valV val0) (u := i64V e) c 0 0 rfl rfl rfl rfl rfl (Vle.refl _) (Vle.refl _) (List.nil_sublist _) rfl
set_option maxRecDepth 100000 in
theorem revaltop_call (s : Sc) (hs : ScOk s) (l : List Bn) (hl : l.length < 2 ^ 60) (hb : BnRg l) (hbi : BnIs l) (x : Ex) (hx : ExBd x) (hrg : exRg x) : PCall Tryz.prog 114 [scV s, .agg (exC x), bnsV l] (resN (topE s l x)) := by
  have f1 := refisexpr_call x hx.1 hx.2.1 hx.2.2.2
  rw [isEx_same] at f1
  refine scall_of (live := []) (ords := []) Tryz.func114 rfl (by kernel_rfl) (by kernel_rfl) (Nat.le_of_ble_eq_true rfl) ?_
  cases hi : isExB x with
  | false =>
    rw [hi] at f1
    have hr : topE s l x = .error 10 := by rw [topE, hi]; rfl
    rw [hr]
    (conv=>arg 2;whnf);refine wp_allocE valZ rfl fun c => ?_
    (conv=>arg 2;whnf);refine wp_pcall f1 ?_
    (repeat ((conv=>arg 2;whnf);first|refine wp_it rfl ?_|refine wp_if rfl ?_))
    (conv=>arg 2;whnf);refine wp_storeE (cs := valZ) 0 0 (valL val0) rfl rfl (VleL.refl _) (Nat.le_refl _) rfl (R' := [.obj c (valL val0)]) rfl ?_
    (conv=>arg 2;whnf);refine w_ret2ck (R' := []) (a := valV val0) (u := i64V 10) c 0 0 rfl rfl rfl rfl rfl (Vle.refl _) (Vle.refl _) (List.nil_sublist _) rfl
  | true =>
    rw [hi] at f1
    have hsh : shapedN 5 x = true := by
      rw [← isEx_same, isExR, Bool.and_eq_true] at hi
      exact hi.1
    have hr : topE s l x = evE s l 5 x := by rw [topE, if_pos hi]
    have f2 := reval_call s hs l hl hb hbi 5 x hsh hrg
    rw [← hr] at f2
    (conv=>arg 2;whnf);refine wp_allocE valZ rfl fun c => ?_
    (conv=>arg 2;whnf);refine wp_pcall f1 ?_
    (repeat ((conv=>arg 2;whnf);first|refine wp_it rfl ?_|refine wp_if rfl ?_))
    cases hf : topE s l x with
    | ok v =>
      rw [hf] at f2
      (conv=>arg 2;whnf);refine wp_pcall f2 ?_
      (conv=>arg 2;whnf);refine wp_storeE (cs := valZ) 0 0 (valL v) rfl rfl (VleL.refl _) (Nat.le_refl _) rfl (R' := [.obj c (valL v)]) rfl ?_
      (conv=>arg 2;whnf);refine w_ret2ck (R' := []) (a := valV v) (u := i64V 0) c 0 0 rfl rfl rfl rfl rfl (Vle.refl _) (Vle.refl _) (List.nil_sublist _) rfl
    | error e =>
      rw [hf] at f2
      (conv=>arg 2;whnf);refine wp_pcall f2 ?_
      (conv=>arg 2;whnf);refine wp_storeE (cs := valZ) 0 0 (valL val0) rfl rfl (VleL.refl _) (Nat.le_refl _) rfl (R' := [.obj c (valL val0)]) rfl ?_
      (conv=>arg 2;whnf);refine w_ret2ck (R' := []) (a := valV val0) (u := i64V e) c 0 0 rfl rfl rfl rfl rfl (Vle.refl _) (Vle.refl _) (List.nil_sublist _) rfl
theorem top_ne0 {s : Sc} {l : List Bn} (hbi : BnIs l) {x : Ex} {e : Nat} (h : topE s l x = .error e) : e ≠ 0 := by
  unfold topE at h
  split at h
  · rename_i hi
    have hsh : shapedN 5 x = true := by
      rw [← isEx_same, isExR, Bool.and_eq_true] at hi
      exact hi.1
    have g := ev_good (s := s) hbi 5 x hsh
    exact g.2 e h
  · cases h; decide
set_option maxRecDepth 100000 in
theorem rholds_call (s : Sc) (hs : ScOk s) (x : Ex) (l : List Bn) (hl : l.length < 2 ^ 60) (hb : BnRg l) (hbi : BnIs l) (hx : ExBd x) (hrg : exRg x) : PCall Tryz.prog 99 [scV s, .agg (exC x), bnsV l] (bV (holdsE s x l)) := by
  have f1 := refsame0_call x hx.kids
  have f2 := revaltop_call s hs l hl hb hbi x hx hrg
  have f3 := rtruth_call true
  refine scall_of (live := [27]) (ords := [(3, [])]) Tryz.func99 rfl (by kernel_rfl) (by kernel_rfl) (Nat.le_of_ble_eq_true rfl) ?_
  cases h0 : zeroB x with
  | true =>
    have hx0 : x = ex0 := zeroB_iff.1 h0
    have hr : bV true = bV (holdsE s x l) := by rw [holdsE, h0]; rfl
    rw [h0] at f1
    have e0 : (x.op == 0) = true := by rw [hx0]; rfl
    (conv=>arg 2;whnf);refine wp_it e0 ?_
    (conv=>arg 2;whnf);refine wp_pcallV (.cons (.refl _) (.cons zero_vle .nil)) f1 ?_
    (repeat ((conv=>arg 2;whnf);first|refine wp_it rfl ?_|refine wp_if rfl ?_))
    (conv=>arg 2;whnf);refine w_retp rfl (Vle.eq hr)
  | false =>
    rw [h0] at f1
    apply wp_joinT
    case h1 =>
      intro rest
      (conv=>arg 2;whnf);refine wp_ite (fun h6 => ?_) (fun h6 => ?_)
      · (conv=>arg 2;whnf);refine wp_pcallV (.cons (.refl _) (.cons zero_vle .nil)) f1 ?_
        (repeat ((conv=>arg 2;whnf);first|refine wp_it rfl ?_|refine wp_if rfl ?_))
        exact wp_cutR (frL [(2, bnsV l), (3, .pt (some 1) (scV s) 0), (4, .pt (some 7) (.agg (exC x)) 0)]) [] (.cons (.refl _) (.cons (.refl _) (.cons (.refl _) (.nil _)))) (List.Sublist.refl _) rest
      · (repeat ((conv=>arg 2;whnf);first|refine wp_it rfl ?_|refine wp_if rfl ?_))
        exact wp_cutR (frL [(2, bnsV l), (3, .pt (some 1) (scV s) 0), (4, .pt (some 7) (.agg (exC x)) 0)]) [] (.cons (.refl _) (.cons (.refl _) (.cons (.refl _) (.nil _)))) (List.Sublist.refl _) rest
    case rest =>
      cases hf : topE s l x with
      | ok v =>
        rw [hf] at f2
        have hr := holdsE_ok h0 hf
        have hv := val_eq v (boolV true)
        (conv=>arg 2;whnf);refine wp_pcall f2 ?_
        (conv=>arg 2;whnf);refine wp_allocE valZ rfl fun c => ?_
        (conv=>arg 2;whnf);refine wp_storeE (cs := valZ) 0 0 (valL v) rfl rfl (VleL.refl _) (Nat.le_refl _) rfl (R' := [.obj c (valL v)]) rfl ?_
        (repeat ((conv=>arg 2;whnf);first|refine wp_it rfl ?_|refine wp_if rfl ?_))
        (conv=>arg 2;whnf);refine wp_load (cs := valL v) 0 rfl rfl ?_
        (conv=>arg 2;whnf);refine wp_pc f3 ?_
        (conv=>arg 2;whnf);refine wp_need valEqB ?_
        (conv=>arg 2;whnf);refine w_ret1 rfl (Vle.eq (cBool (hv.trans hr.symm))) (List.nil_sublist _) rfl
      | error e =>
        have he0 := resN_eq (top_ne0 hbi hf)
        rw [hf] at f2
        have hr := holdsE_err h0 hf
        (conv=>arg 2;whnf);refine wp_pcall f2 ?_
        (conv=>arg 2;whnf);refine wp_allocE valZ rfl fun c => ?_
        (conv=>arg 2;whnf);refine wp_storeE (cs := valZ) 0 0 (valL val0) rfl rfl (VleL.refl _) (Nat.le_refl _) rfl (R' := [.obj c (valL val0)]) rfl ?_
        (conv=>arg 2;whnf);refine wp_if he0 ?_
        (repeat ((conv=>arg 2;whnf);first|refine wp_it rfl ?_|refine wp_if rfl ?_))
        (conv=>arg 2;whnf);refine w_ret1 rfl (Vle.eq (cBool hr.symm)) (List.nil_sublist _) rfl
end Go.Sv
namespace Go.Sv
open Go Go.Proofs
structure RfOkP (p : Pa) : Prop extends StOkP p where
  bd : ∀ e ∈ p.els, ExBd e.cond
def EvIs (e : Ev) : Prop := EvRg e ∧ ∀ v ∈ e.vals, valIs v = true
structure RfOkL (l : List Kp) : Prop extends StOkL l where
  is : ∀ k ∈ l, ∀ v ∈ k.e.vals, valIs v = true
theorem RfOkL.ev {l : List Kp} (h : RfOkL l) {k : Kp} (hk : k ∈ l) : EvIs k.e := ⟨h.rg k hk, h.is k hk⟩
theorem RfOkL.at_ {l : List Kp} (h : RfOkL l) {i : Int} {e : Ev} (he : atE l i = some e) : EvIs e := by
  obtain ⟨k, hk, rfl, _⟩ := at_mem he
  exact h.ev hk
theorem ev0_is : EvIs ev0 := ⟨⟨fun v hv => (by cases hv), by decide, by decide⟩, fun v hv => (by cases hv)⟩
theorem RfOkL.atD {l : List Kp} (h : RfOkL l) (i : Int) : EvIs ((atE l i).getD ev0) := by
  cases he : atE l i with
  | none => exact ev0_is
  | some e => exact h.at_ he
theorem binds_len (p : Pa) (l : List Kp) (b : List Bd) : (bindsR p l b).length = b.length := by rw [bindsR, List.length_map]
theorem binds_rg {p : Pa} {l : List Kp} (hl : RfOkL l) {b : List Bd} {al : List UInt8} {e : Ev} (he : EvIs e) : BnRg (bindsR p l b ++ [⟨al, e⟩]) ∧ BnIs (bindsR p l b ++ [⟨al, e⟩]) := by
  have h : ∀ y ∈ bindsR p l b ++ [⟨al, e⟩], EvIs y.e := by
    intro y hy
    rcases List.mem_append.1 hy with hy | hy
    · rw [bindsR, List.mem_map] at hy
      obtain ⟨x, _, rfl⟩ := hy
      exact hl.atD _
    · rw [List.mem_singleton.1 hy]; exact he
  exact ⟨fun y hy v hv => (h y hy).1.1 v hv, fun y hy v hv => (h y hy).2 v hv⟩
theorem firstR_call (l : List Kp) (hl : l.length < 2 ^ 60) (b : List Bd) : ∃ ok, PCall Tryz.prog 56 [kpsV l, i64V (b.headD bd0).at_] (.tup [evV (firstEv l b), bV ok]) := by
  have fa := rat_call l (b.headD bd0).at_ hl
  rw [firstEv]
  cases ha : atE l (b.headD bd0).at_ with
  | none => rw [ha] at fa; exact ⟨false, fa⟩
  | some e => rw [ha] at fa; exact ⟨true, fa⟩
set_option maxRecDepth 100000 in
set_option maxHeartbeats 2000000 in
theorem rtakes_call (s : Sc) (hs : ScOk s) (p : Pa) (hp : RfOkP p) (l : List Kp) (hl : RfOkL l) (b : List Bd) (hb : b.length < 2 ^ 29) (hbe : ∀ y ∈ b, y.elem < p.els.length) (bv : V) (hbv : Vle bv (bdsV b)) (k : Nat) (hk : k < p.els.length) (e : Ev) (he : EvIs e) :
    PCall Tryz.prog 74 [scV s, .agg (paC p), kpsV l, bv, i64V k, evV e] (bV (takesR s p l b k e)) := by
  obtain ⟨y, hy, _, hey⟩ := nt_at p hk
  have hym := List.mem_of_getElem? hy
  have f1 := rhastype_call y (hp.ty y hym) e.ty
  have f2 := rbinds_call p l hl.n b (by omega) hbe
  obtain ⟨g1, g2⟩ := binds_rg (p := p) hl (b := b) (al := y.al) he
  have f3 := rholds_call s hs y.cond (bindsR p l b ++ [⟨y.al, e⟩]) (by rw [List.length_append, List.length_singleton, binds_len]; omega) g1 g2 (hp.bd y hym) (hp.rg y hym)
  have hr : takesR s p l b k e = (y.ty.contains e.ty && (if b ≠ [] ∧ p.by_ ≠ [] ∧ byR s p (firstEv l b) ≠ byR s p e then false else holdsE s y.cond (bindsR p l b ++ [⟨y.al, e⟩]))) := by rw [takesR, hey]
  refine scall_of (live := [58]) (ords := [(4, []), (6, []), (8, [0, 1, 2, 3, 4, 5, 7, 8, 9, 10, 11, 6, 12, 13, 14])]) Tryz.func74 rfl (by kernel_rfl) (by kernel_rfl) (Nat.le_of_ble_eq_true rfl) ?_
  (conv=>arg 2;whnf);refine wp_elem k (elV y) rfl (els_at2 hy) (Vle.refl _) ?_
  (conv=>arg 2;whnf);refine wp_allocE elZ rfl fun q => ?_
  (conv=>arg 2;whnf);refine wp_storeE (cs := elZ) 0 0 (elC y) rfl rfl (VleL.refl _) (Nat.le_refl _) rfl (R' := [.obj q (elC y)]) rfl ?_
  (conv=>arg 2;whnf);refine wp_load (cs := elC y) 0 rfl rfl ?_
  (conv=>arg 2;whnf);refine wp_pcall f1 ?_
  cases hc : y.ty.contains e.ty with
  | false =>
    rw [hc] at hr
    (repeat ((conv=>arg 2;whnf);first|refine wp_it rfl ?_|refine wp_if rfl ?_))
    (conv=>arg 2;whnf);refine w_ret1 rfl (Vle.eq (cBool hr.symm)) (List.nil_sublist _) rfl
  | true =>
    rw [hc, Bool.true_and] at hr
    (repeat ((conv=>arg 2;whnf);first|refine wp_it rfl ?_|refine wp_if rfl ?_))
    (conv=>arg 2;whnf)
    refine wp_cutP (frL [(2, kpsV l), (3, bdsV b), (6, .pt (some 1) (scV s) 0), (7, .pt (some 4) (.agg (paC p)) 0), (11, .pt (some 3) (evV e) 0), (13, .pt (some 11) (elV y) 0)]) [] [.obj q (elC y)] (.cons (.refl _) (.cons (.vle hbv) (.cons (.refl _) (.cons (.refl _) (.cons (.refl _) (.cons (.all (List.Mem.head _) rfl (by decide) (VleL.refl _)) (.nil _))))))) ?_
    obtain ⟨okf, ff⟩ := firstR_call l hl.n b
    have fb1 := rby_call s hs p (firstEv l b)
    have fb2 := rby_call s hs p e
    by_cases hcond : b ≠ [] ∧ p.by_ ≠ [] ∧ byR s p (firstEv l b) ≠ byR s p e
    · rw [if_pos hcond] at hr
      obtain ⟨hb0, hby, hne⟩ := hcond
      have e1 : decide (((b.map bdV).length : Int) > 0) = true := decide_eq_true (by rw [List.length_map]; have := List.length_pos_iff.2 hb0; omega)
      have e2 : (!((S p.by_).toList == (S []).toList)) = true := by rw [strEq, decide_eq_false hby]; rfl
      have e3 : (!((byR s p (firstEv l b)).kind == (byR s p e).kind && ((byR s p (firstEv l b)).n == (byR s p e).n && ((S (byR s p (firstEv l b)).s).toList == (S (byR s p e).s).toList && true)))) = true := by rw [val_eq, decide_eq_false hne]; rfl
      (conv=>arg 2;whnf);refine wp_it e1 ?_
      (conv=>arg 2;whnf);refine wp_it e2 ?_
      (conv=>arg 2;whnf);refine wp_elem 0 (bdV (b.headD bd0)) rfl (bds_at (head_at hb0)) (Vle.refl _) ?_
      (conv=>arg 2;whnf);refine wp_pcall ff ?_
      (conv=>arg 2;whnf);refine wp_allocE evZ rfl fun u => ?_
      (conv=>arg 2;whnf);refine wp_storeE (cs := evZ) 0 0 (evC (firstEv l b)) rfl rfl (VleL.refl _) (Nat.le_refl _) rfl (R' := [.obj u (evC (firstEv l b))]) rfl ?_
      (conv=>arg 2;whnf)
      refine wp_cutP (frL [(6, .pt (some 1) (scV s) 0), (7, .pt (some 4) (.agg (paC p)) 0), (11, .pt (some 3) (evV e) 0), (14, .pt (some 3) (evV (firstEv l b)) 0)]) [] [.obj u (evC (firstEv l b))] (.cons (.refl _) (.cons (.refl _) (.cons (.refl _) (.cons (.all (List.Mem.head _) rfl (by decide) (VleL.refl _)) (.nil _))))) ?_
      (conv=>arg 2;whnf);refine wp_pc fb1 ?_
      (conv=>arg 2;whnf);refine wp_pc fb2 ?_
      (conv=>arg 2;whnf);refine wp_need valEqB ?_
      (conv=>arg 2;whnf);refine wp_it e3 ?_
      (conv=>arg 2;whnf);refine w_ret1 rfl (Vle.eq (cBool hr.symm)) (List.nil_sublist _) rfl
    · rw [if_neg hcond] at hr
      apply wp_joinT
      case h1 =>
        intro rest
        by_cases hb0 : b = []
        · have e1 : decide (((b.map bdV).length : Int) > 0) = false := decide_eq_false (by rw [hb0]; decide)
          (conv=>arg 2;whnf);refine wp_if e1 ?_
          (repeat ((conv=>arg 2;whnf);first|refine wp_it rfl ?_|refine wp_if rfl ?_))
          exact wp_cutR (frL [(2, kpsV l), (3, bdsV b), (6, .pt (some 1) (scV s) 0), (7, .pt (some 4) (.agg (paC p)) 0), (11, .pt (some 3) (evV e) 0), (13, .pt (some 11) (elV y) 0)]) [] (.cons (.refl _) (.cons (.refl _) (.cons (.refl _) (.cons (.refl _) (.cons (.refl _) (.cons (.refl _) (.nil _))))))) (List.Sublist.refl _) rest
        · have e1 : decide (((b.map bdV).length : Int) > 0) = true := decide_eq_true (by rw [List.length_map]; have := List.length_pos_iff.2 hb0; omega)
          (conv=>arg 2;whnf);refine wp_it e1 ?_
          by_cases hby : p.by_ = []
          · have e2 : (!((S p.by_).toList == (S []).toList)) = false := by rw [strEq, decide_eq_true hby]; rfl
            (conv=>arg 2;whnf);refine wp_if e2 ?_
            (conv=>arg 2;whnf)
            exact wp_cutR (frL [(2, kpsV l), (3, bdsV b), (6, .pt (some 1) (scV s) 0), (7, .pt (some 4) (.agg (paC p)) 0), (11, .pt (some 3) (evV e) 0), (13, .pt (some 11) (elV y) 0)]) [] (.cons (.refl _) (.cons (.refl _) (.cons (.refl _) (.cons (.refl _) (.cons (.refl _) (.cons (.refl _) (.nil _))))))) (List.Sublist.refl _) rest
          · have e2 : (!((S p.by_).toList == (S []).toList)) = true := by rw [strEq, decide_eq_false hby]; rfl
            have hne : byR s p (firstEv l b) = byR s p e := Classical.byContradiction fun h => hcond ⟨hb0, hby, h⟩
            have e3 : (!((byR s p (firstEv l b)).kind == (byR s p e).kind && ((byR s p (firstEv l b)).n == (byR s p e).n && ((S (byR s p (firstEv l b)).s).toList == (S (byR s p e).s).toList && true)))) = false := by rw [val_eq, decide_eq_true hne]; rfl
            (conv=>arg 2;whnf);refine wp_it e2 ?_
            (conv=>arg 2;whnf);refine wp_elem 0 (bdV (b.headD bd0)) rfl (bds_at (head_at hb0)) (Vle.refl _) ?_
            (conv=>arg 2;whnf);refine wp_pcall ff ?_
            (conv=>arg 2;whnf);refine wp_allocE evZ rfl fun u => ?_
            (conv=>arg 2;whnf);refine wp_storeE (cs := evZ) 0 0 (evC (firstEv l b)) rfl rfl (VleL.refl _) (Nat.le_refl _) rfl (R' := [.obj u (evC (firstEv l b))]) rfl ?_
            (conv=>arg 2;whnf)
            refine wp_cutP (frL [(2, kpsV l), (3, bdsV b), (6, .pt (some 1) (scV s) 0), (7, .pt (some 4) (.agg (paC p)) 0), (11, .pt (some 3) (evV e) 0), (13, .pt (some 11) (elV y) 0), (14, .pt (some 3) (evV (firstEv l b)) 0)]) [] [.obj u (evC (firstEv l b))] (.cons (.refl _) (.cons (.refl _) (.cons (.refl _) (.cons (.refl _) (.cons (.refl _) (.cons (.refl _) (.cons (.all (List.Mem.head _) rfl (by decide) (VleL.refl _)) (.nil _)))))))) ?_
            (conv=>arg 2;whnf);refine wp_pc fb1 ?_
            (conv=>arg 2;whnf);refine wp_pc fb2 ?_
            (conv=>arg 2;whnf);refine wp_need valEqB ?_
            (conv=>arg 2;whnf);refine wp_if e3 ?_
            (conv=>arg 2;whnf)
            exact wp_cutR (frL [(2, kpsV l), (3, bdsV b), (6, .pt (some 1) (scV s) 0), (7, .pt (some 4) (.agg (paC p)) 0), (11, .pt (some 3) (evV e) 0), (13, .pt (some 11) (elV y) 0)]) [] (.cons (.refl _) (.cons (.refl _) (.cons (.refl _) (.cons (.refl _) (.cons (.refl _) (.cons (.refl _) (.nil _))))))) (List.Sublist.refl _) rest
      case rest =>
        (conv=>arg 2;whnf);refine wp_callF [] [] [] rfl f2 ?_
        rintro v R' ⟨t, h1, rfl, rfl⟩
        (conv=>arg 2;whnf);refine wp_append_x (A := []) (B := []) (sh := some 4) (t := t) (xs := (bindsR p l b).map bnV) (ys := [bnV ⟨y.al, e⟩]) (fun h => by rw [h1 h]; rfl) (okE_bn [⟨y.al, e⟩]) (show (_ + 1) * 64 ≤ _ by rw [List.length_map, binds_len]; omega) (fun t' S' hS => ?_)
        (conv=>arg 2;whnf);refine wp_pcV (.cons (.refl _) (.cons (.refl _) (.cons (bns_app _ _ _) .nil))) f3 ?_
        (conv=>arg 2;whnf);refine w_ret1 rfl (Vle.eq (cBool hr.symm)) (List.nil_sublist _) rfl
theorem all_hit {α : Type} {q : α → Bool} {l : List α} {y : α} (hy : y ∈ l) (hq : q y = false) : l.all q = false := by
  rw [List.all_eq_false]
  exact ⟨y, hy, by simp [hq]⟩
set_option maxRecDepth 100000 in
set_option maxHeartbeats 2000000 in
theorem rfree_call (s : Sc) (hs : ScOk s) (p : Pa) (hp : RfOkP p) (l : List Kp) (hl : RfOkL l) (b : List Bd) (hb : b.length < 2 ^ 29) (hbe : ∀ y ∈ b, y.elem < p.els.length) (k : Nat) (hk : k < p.els.length) (i j : Int) :
    PCall Tryz.prog 75 [scV s, .agg (paC p), kpsV l, bdsV b, i64V k, i64V i, i64V j] (bV (freeR s p l b k i j)) := by
  have hpn := hp.n
  have hln := hl.n
  refine scall_of (live := []) (ords := [(2, []), (3, [])]) Tryz.func75 rfl (by kernel_rfl) (by kernel_rfl) (Nat.le_of_ble_eq_true rfl) ?_
  by_cases hc : k = 0 ∨ ntAt p.els (k - 1) = false
  · have hr : freeR s p l b k i j = true := by rw [freeR, if_pos hc]
    rw [hr]
    apply wp_joinT
    case h1 =>
      intro rest
      (conv=>arg 2;whnf);refine wp_ite (fun h1 => ?_) (fun h1 => ?_)
      · (repeat ((conv=>arg 2;whnf);first|refine wp_it rfl ?_|refine wp_if rfl ?_))
        exact wp_cutR (frL []) [] (.nil _) (List.Sublist.refl _) rest
      · have h1 : ¬ k = 0 := by have := of_decide_eq_false h1; omega
        obtain ⟨y, hy, hnt, _⟩ := nt_at p (n := k - 1) (by omega)
        have e1 : (!y.nt) = true := by rw [hnt, hc.resolve_left h1]; rfl
        (conv=>arg 2;whnf);refine wp_elem (k - 1) (elV y) (by rw [w_i64_small (by omega) (by omega)]; omega) (els_at2 hy) (Vle.refl _) ?_
        (conv=>arg 2;whnf);refine wp_it e1 ?_
        (conv=>arg 2;whnf)
        exact wp_cutR (frL []) [] (.nil _) (List.Sublist.refl _) rest
    case rest =>
      (conv=>arg 2;whnf);refine w_ret1 rfl (Vle.refl _) (List.nil_sublist _) rfl
  · have hr : freeR s p l b k i j = (betw l i j).all fun y => !takesR s p l b (k - 1) y.e := by rw [freeR, if_neg hc]
    have hk0 : k ≠ 0 := fun e => hc (.inl e)
    obtain ⟨y, hy, hnt, _⟩ := nt_at p (n := k - 1) (by omega)
    have e0 : decide ((k : Int) < 1) = false := decide_eq_false (by omega)
    have e1 : (!y.nt) = false := by
      rw [hnt]
      have : ntAt p.els (k - 1) ≠ false := fun e => hc (.inr e)
      simpa using this
    have hw : IntKind.i64.wrap ((k : Int) - 1) = ((k - 1 : Nat) : Int) := by rw [w_i64_small (by omega) (by omega)]; omega
    (conv=>arg 2;whnf);refine wp_if e0 ?_
    (conv=>arg 2;whnf);refine wp_elem (k - 1) (elV y) hw (els_at2 hy) (Vle.refl _) ?_
    (conv=>arg 2;whnf);refine wp_if e1 ?_
    (conv=>arg 2;whnf)
    refine wp_cutR (frL [(2, kpsV l), (3, bdsV b), (4, i64V k), (5, i64V i), (6, i64V j), (7, .pt (some 1) (scV s) 0), (8, .pt (some 4) (.agg (paC p)) 0)]) [] (.cons (.refl _) (.cons (.refl _) (.cons (.refl _) (.cons (.refl _) (.cons (.refl _) (.cons (.refl _) (.cons (.refl _) (.nil _)))))))) (List.Sublist.refl _) ?_
    clear e0 e1 hy hnt
    (conv=>arg 2;whnf);refine wp_loop (fun m fr R => ∃ n : Nat, m = l.length - n ∧ n ≤ l.length ∧ R = [] ∧ (betw (l.take n) i j).all (fun y => !takesR s p l b (k - 1) y.e) = true ∧ fr = frL [(2, kpsV l), (3, bdsV b), (4, i64V k), (5, i64V i), (6, i64V j), (7, .pt (some 1) (scV s) 0), (8, .pt (some 4) (.agg (paC p)) 0), (15, i64V n)])
      l.length _ _ (.cons (.refl _) (.cons (.refl _) (.cons (.refl _) (.cons (.refl _) (.cons (.refl _) (.cons (.refl _) (.cons (.refl _) (.cons (.refl _) (.nil _))))))))) (List.Sublist.refl _) ⟨0, rfl, Nat.zero_le _, rfl, rfl, rfl⟩ ?_
    rintro m fr R ⟨n, rfl, hn, rfl, ha, rfl⟩
    (conv=>arg 2;whnf);refine wp_ite (fun h => ?_) (fun h => ?_)
    · have h : n < l.length := by
        have := of_decide_eq_true h
        rw [List.length_map] at this; omega
      obtain ⟨x, hx⟩ : ∃ x, l[n]? = some x := ⟨_, List.getElem?_eq_getElem h⟩
      have hxm := List.mem_of_getElem? hx
      have ft := rtakes_call s hs p hp l hl b hb hbe (bdsV b) (Vle.refl _) (k - 1) (by omega) x.e (hl.ev hxm)
      have hnx := filt_next (fun k : Kp => decide (i < k.at_) && decide (k.at_ < j)) hx
      have hnx : betw (l.take (n + 1)) i j = betw (l.take n) i j ++ (if (decide (i < x.at_) && decide (x.at_ < j)) then [x] else []) := hnx
      have hstay : (decide (i < x.at_) && decide (x.at_ < j)) = false → (betw (l.take (n + 1)) i j).all (fun y => !takesR s p l b (k - 1) y.e) = true := fun e => by rw [hnx, e]; simpa using ha
      (conv=>arg 2;whnf);refine wp_elem n (kpV x) rfl (kps_at hx) (Vle.refl _) ?_
      (conv=>arg 2;whnf);refine wp_ite (fun h1 => ?_) (fun h1 => ?_)
      · have h1 : decide (i < x.at_) = true := h1
        (conv=>arg 2;whnf);refine wp_elem n (kpV x) rfl (kps_at hx) (Vle.refl _) ?_
        (conv=>arg 2;whnf);refine wp_ite (fun h2 => ?_) (fun h2 => ?_)
        · have h2 : decide (x.at_ < j) = true := h2
          rw [h1, h2, Bool.and_self, if_pos rfl] at hnx
          (conv=>arg 2;whnf);refine wp_elem n (kpV x) rfl (kps_at hx) (Vle.refl _) ?_
          (conv=>arg 2;whnf);refine wp_pcV (.cons (.refl _) (.cons (.refl _) (.cons (.refl _) (.cons (.refl _) (.cons (Vle.i64 _ rfl hw) (.cons (.refl _) .nil)))))) ft ?_
          cases ht : takesR s p l b (k - 1) x.e with
          | true =>
            have hr2 : freeR s p l b k i j = false := by
              rw [hr]
              refine all_hit (y := x) ?_ (by rw [ht]; rfl)
              exact List.mem_filter.2 ⟨hxm, by rw [h1, h2]; rfl⟩
            (repeat ((conv=>arg 2;whnf);first|refine wp_it rfl ?_|refine wp_if rfl ?_))
            (conv=>arg 2;whnf)
            refine wp_leaf (loop_ret ?_)
            (conv=>arg 2;whnf);refine w_ret1 rfl (Vle.eq (cBool hr2.symm)) (List.nil_sublist _) rfl
          | false =>
            have hn' : (betw (l.take (n + 1)) i j).all (fun y => !takesR s p l b (k - 1) y.e) = true := by
              rw [hnx, List.all_append, ha]; simp [ht]
            (repeat ((conv=>arg 2;whnf);first|refine wp_it rfl ?_|refine wp_if rfl ?_))
            (conv=>arg 2;whnf)
            exact wp_leaf (loop_next (l.length - (n + 1)) _ [] (by omega) (.cons (.refl _) (.cons (.refl _) (.cons (.refl _) (.cons (.refl _) (.cons (.refl _) (.cons (.refl _) (.cons (.refl _) (.cons (Vle.inc n rfl (by omega)) (.nil _))))))))) (List.Sublist.refl _) ⟨n + 1, rfl, h, rfl, hn', rfl⟩)
        · have h2 : decide (x.at_ < j) = false := h2
          have hn' := hstay (by rw [h2, Bool.and_false])
          (repeat ((conv=>arg 2;whnf);first|refine wp_it rfl ?_|refine wp_if rfl ?_))
          (conv=>arg 2;whnf)
          exact wp_leaf (loop_next (l.length - (n + 1)) _ [] (by omega) (.cons (.refl _) (.cons (.refl _) (.cons (.refl _) (.cons (.refl _) (.cons (.refl _) (.cons (.refl _) (.cons (.refl _) (.cons (Vle.inc n rfl (by omega)) (.nil _))))))))) (List.Sublist.refl _) ⟨n + 1, rfl, h, rfl, hn', rfl⟩)
      · have h1 : decide (i < x.at_) = false := h1
        have hn' := hstay (by rw [h1]; rfl)
        (repeat ((conv=>arg 2;whnf);first|refine wp_it rfl ?_|refine wp_if rfl ?_))
        (conv=>arg 2;whnf)
        exact wp_leaf (loop_next (l.length - (n + 1)) _ [] (by omega) (.cons (.refl _) (.cons (.refl _) (.cons (.refl _) (.cons (.refl _) (.cons (.refl _) (.cons (.refl _) (.cons (.refl _) (.cons (Vle.inc n rfl (by omega)) (.nil _))))))))) (List.Sublist.refl _) ⟨n + 1, rfl, h, rfl, hn', rfl⟩)
    · have h : n = l.length := by
        have := of_decide_eq_false h
        rw [List.length_map] at this; omega
      rw [h, List.take_length] at ha
      have hr2 : freeR s p l b k i j = true := by rw [hr]; exact ha
      (conv=>arg 2;whnf)
      refine wp_leaf (loop_exit ?_)
      (conv=>arg 2;whnf);refine w_ret1 rfl (Vle.eq (cBool hr2.symm)) (List.nil_sublist _) rfl
end Go.Sv
namespace Go.Sv
open Go Go.Proofs
def baseS : Sc := [⟨[116], [⟨[98], 3⟩, ⟨[110], 1⟩, ⟨[115], 2⟩]⟩, ⟨[117], [⟨[110], 1⟩]⟩]
theorem base_ok : ScOk baseS := ⟨by decide, fun t ht => by
  have : t = ⟨[116], [⟨[98], 3⟩, ⟨[110], 1⟩, ⟨[115], 2⟩]⟩ ∨ t = ⟨[117], [⟨[110], 1⟩]⟩ := by simpa [baseS] using ht
  rcases this with rfl | rfl <;> exact (by decide)⟩
def scZ : List V := [.sl none [] .zero]
set_option maxRecDepth 100000 in
theorem base_call : PCall Tryz.prog 5 [] (scV baseS) := by
  refine scall_of (live := []) (ords := []) Tryz.func5 rfl (by kernel_rfl) (by kernel_rfl) (Nat.le_of_ble_eq_true rfl) ?_
  (conv=>arg 2;whnf);refine wp_allocE scZ rfl fun c => ?_
  (conv=>arg 2;whnf);refine wp_storeE (cs := scZ) 0 0 (scC baseS) rfl rfl (VleL.refl _) (Nat.le_refl _) rfl (R' := [.obj c (scC baseS)]) rfl ?_
  (conv=>arg 2;whnf);refine w_ret1k (R' := []) c 0 0 rfl rfl rfl rfl rfl (Vle.refl _) (List.nil_sublist _) rfl
def evT (ts n : Int) : Ev := ⟨[116], ts, [⟨3, 0, []⟩, ⟨1, n, []⟩, ⟨2, 0, []⟩]⟩
def evU (ts n : Int) : Ev := ⟨[117], ts, [⟨1, n, []⟩]⟩
set_option maxRecDepth 100000 in
theorem evt_call (ts n : Int) : PCall Tryz.prog 15 [str [116], i64V ts, i64V n] (evV (evT ts n)) := by
  have e : ((S [116]).toList == (S [117]).toList) = false := by rw [strEq]; rfl
  refine scall_of (live := []) (ords := []) Tryz.func15 rfl (by kernel_rfl) (by kernel_rfl) (Nat.le_of_ble_eq_true rfl) ?_
  (conv=>arg 2;whnf);refine wp_allocE evZ rfl fun c => ?_
  (conv=>arg 2;whnf);refine wp_if e ?_
  (conv=>arg 2;whnf);refine wp_storeE (cs := evZ) 0 0 (evC (evT ts n)) rfl rfl (VleL.refl _) (Nat.le_refl _) rfl (R' := [.obj c (evC (evT ts n))]) rfl ?_
  (conv=>arg 2;whnf);refine w_ret1k (R' := []) c 0 0 rfl rfl rfl rfl rfl (Vle.refl _) (List.nil_sublist _) rfl
set_option maxRecDepth 100000 in
theorem evu_call (ts n : Int) : PCall Tryz.prog 15 [str [117], i64V ts, i64V n] (evV (evU ts n)) := by
  have e : ((S [117]).toList == (S [117]).toList) = true := by rw [strEq]; rfl
  refine scall_of (live := []) (ords := []) Tryz.func15 rfl (by kernel_rfl) (by kernel_rfl) (Nat.le_of_ble_eq_true rfl) ?_
  (conv=>arg 2;whnf);refine wp_allocE evZ rfl fun c => ?_
  (conv=>arg 2;whnf);refine wp_it e ?_
  (conv=>arg 2;whnf);refine wp_storeE (cs := evZ) 0 0 (evC (evU ts n)) rfl rfl (VleL.refl _) (Nat.le_refl _) rfl (R' := [.obj c (evC (evU ts n))]) rfl ?_
  (conv=>arg 2;whnf);refine w_ret1k (R' := []) c 0 0 rfl rfl rfl rfl rfl (Vle.refl _) (List.nil_sublist _) rfl
def elemE (al ty : List UInt8) : El := ⟨al, [ty], false, false, ex0⟩
theorem elem_vle (al ty : List UInt8) : VleL [str al, .sl none [str ty] .no, bV false, bV false, i64V 0, i64V 0, i64V 0, str [], str [], str [], .sl none [] .zero] (elC (elemE al ty)) :=
  .cons (.refl _) (.cons (.refl _) (.cons (.refl _) (.cons (.refl _) (.cons (.refl _) (.cons (.refl _) (.cons (.refl _) (.cons (.refl _) (.cons (.refl _) (.cons (.refl _) (.cons (Vle.nil _ _ _) .nil))))))))))
set_option maxRecDepth 100000 in
theorem helem_call (al ty : List UInt8) : PCall Tryz.prog 16 [str al, str ty] (elV (elemE al ty)) := by
  refine scall_of (live := []) (ords := []) Tryz.func16 rfl (by kernel_rfl) (by kernel_rfl) (Nat.le_of_ble_eq_true rfl) ?_
  (conv=>arg 2;whnf);refine wp_allocE elZ rfl fun c => ?_
  (conv=>arg 2;whnf);refine wp_storeE (cs := elZ) 0 0 (elC (elemE al ty)) rfl rfl (elem_vle al ty) (Nat.le_refl _) rfl (R' := [.obj c (elC (elemE al ty))]) rfl ?_
  (conv=>arg 2;whnf);refine w_ret1k (R' := []) c 0 0 rfl rfl rfl rfl rfl (Vle.refl _) (List.nil_sublist _) rfl
def evsV (l : List Ev) : V := .sl (some 3) (l.map evV) .no
def strm1 (l : List Ev) (i : Nat) : Bool := decide (isEvI baseS (l.getD i ev0) = 0) && (decide (i = 0) || !decide ((l.getD (i - 1) ev0).ts > (l.getD i ev0).ts))
def strmB (l : List Ev) : Bool := (List.range l.length).all (strm1 l)
def keptE (at_ : Int) (l : List Ev) : List Kp := (List.range l.length).map fun (i : Nat) => ⟨at_ + i, l.getD i ev0⟩
def keptN (at_ : Int) (l : List Ev) (n : Nat) : List Kp := (List.range n).map fun (i : Nat) => ⟨at_ + i, l.getD i ev0⟩
def streamR (at_ : Int) (l : List Ev) : V := if strmB l then .tup [kpsV (keptE at_ l), bV true] else .tup [kpsV [], bV false]
def EvBd (e : Ev) : Prop := e.vals.length < 2 ^ 40 ∧ ∀ v ∈ e.vals, v.s.length < 2 ^ 40 ∧ InR v.n
theorem evs_at {l : List Ev} {n : Nat} {k : Ev} (h : l[n]? = some k) : (l.map evV)[n]? = some (.agg (evC k)) := by rw [List.getElem?_map, h]; rfl
theorem okE_kp (l : List Kp) : ∀ y ∈ l.map kpV, okE (some 4) y := by
  intro y hy
  obtain ⟨b, _, rfl⟩ := List.mem_map.1 hy
  exact ⟨_, rfl, rfl, fun c hc => by
    have : c = i64V b.at_ ∨ c = str b.e.ty ∨ c = i64V b.e.ts ∨ c = valsV b.e.vals := by simpa [kpC, evC] using hc
    rcases this with rfl | rfl | rfl | rfl <;> rfl⟩
theorem kept_next (at_ : Int) (l : List Ev) (n : Nat) : keptN at_ l (n + 1) = keptN at_ l n ++ [⟨at_ + n, l.getD n ev0⟩] := by
  rw [keptN, List.range_succ, List.map_append]; rfl
theorem kept_len (at_ : Int) (l : List Ev) (n : Nat) : (keptN at_ l n).length = n := by rw [keptN, List.length_map, List.length_range]
set_option maxRecDepth 100000 in
set_option maxHeartbeats 2000000 in
theorem stream_call (l : List Ev) (hl : l.length < 2 ^ 30) (hb : ∀ e ∈ l, EvBd e) (at_ : Int) (h0 : 0 ≤ at_) (h1 : at_ < 2 ^ 40) : PCall Tryz.prog 6 [evsV l, i64V at_] (streamR at_ l) := by
  refine scall_of (live := []) (ords := [(7, [])]) Tryz.func6 rfl (by kernel_rfl) (by kernel_rfl) (Nat.le_of_ble_eq_true rfl) ?_
  (conv=>arg 2;whnf);refine wp_loop (fun m fr R => ∃ (n : Nat) (t : Option Nat), m = l.length - n ∧ n ≤ l.length ∧ (t = none → keptN at_ l n = []) ∧ (List.range n).all (strm1 l) = true ∧ R = [] ++ (tokR (some 4) t ++ []) ∧
      fr = frL [(0, evsV l), (1, i64V at_), (6, .sl (shOf (some 4) t) ((keptN at_ l n).map kpV) (tkOf t)), (7, i64V n)])
    l.length _ _ (.cons (.refl _) (.cons (.refl _) (.cons (.refl _) (.cons (.refl _) (.nil _))))) (List.Sublist.refl _) ⟨0, none, rfl, Nat.zero_le _, fun _ => rfl, rfl, rfl, rfl⟩ ?_
  rintro m fr R ⟨n, t, rfl, hn, ht, ha, rfl, rfl⟩
  (conv=>arg 2;whnf);refine wp_ite (fun h => ?_) (fun h => ?_)
  · have h : n < l.length := by
      have := of_decide_eq_true h
      rw [List.length_map] at this; omega
    obtain ⟨e, he⟩ : ∃ e, l[n]? = some e := ⟨_, List.getElem?_eq_getElem h⟩
    have hbe := hb e (List.mem_of_getElem? he)
    have fe := isevent_call baseS base_ok e (by have := hbe.1; omega) (fun v hv => by have := (hbe.2 v hv).1; omega)
    have hge : l.getD n ev0 = e := getD_at he
    have hs1 : strm1 l n = (decide (isEvI baseS e = 0) && (decide (n = 0) || !decide ((l.getD (n - 1) ev0).ts > e.ts))) := by rw [strm1, hge]
    have hstop : strm1 l n = false → streamR at_ l = .tup [kpsV [], bV false] := fun e => by rw [streamR, show strmB l = false from rng_miss h e]; rfl
    have hw : IntKind.i64.wrap (at_ + (n : Int)) = at_ + n := w_i64_small (by omega) (by omega)
    have hwn : n ≠ 0 → IntKind.i64.wrap ((n : Int) - 1) = ((n - 1 : Nat) : Int) := fun _ => by rw [w_i64_small (by omega) (by omega)]; omega
    have hlen := kept_len at_ l n
    have hnx : keptN at_ l (n + 1) = keptN at_ l n ++ [⟨at_ + n, e⟩] := by rw [kept_next, hge]
    have hall : strm1 l n = true → (List.range (n + 1)).all (strm1 l) = true := fun e => rng_next ha e
    have hv : ∀ t', V.sl (some 4) ((keptN at_ l n).map kpV ++ [kpV ⟨at_ + n, e⟩]) (.t t') = .sl (shOf (some 4) (some t')) ((keptN at_ l (n + 1)).map kpV) (tkOf (some t')) := fun t' => by rw [hnx, List.map_append]; rfl
    have hlt : l.length - (n + 1) < l.length - n := by omega
    have hsz : (((keptN at_ l n).map kpV).length + 1) * 56 ≤ 140737488355328 := by rw [List.length_map, hlen]; omega
    have hn62 : n < 2 ^ 62 := by omega
    have hxs : t = none → (keptN at_ l n).map kpV = [] := fun h => by rw [ht h]; rfl
    apply @wp_joinT _ (strm1 l n = true → _)
    case h1 =>
      intro rest
      (conv=>arg 2;whnf);refine wp_pc base_call ?_
      (conv=>arg 2;whnf);refine wp_elem n (evV e) rfl (evs_at he) (Vle.refl _) ?_
      (conv=>arg 2;whnf);refine wp_pc fe ?_
      (conv=>arg 2;whnf);refine wp_ite (fun h2 => ?_) (fun h2 => ?_)
      · have h2 : decide (isEvI baseS e = 0) = false := decide_eq_false (bne_iff_ne.1 h2)
        rw [h2, Bool.false_and] at hs1
        have hr := hstop hs1
        (repeat ((conv=>arg 2;whnf);first|refine wp_it rfl ?_|refine wp_if rfl ?_))
        (conv=>arg 2;whnf)
        refine wp_leaf (loop_ret ?_)
        (conv=>arg 2;whnf);refine w_ret2 (a := kpsV []) (b := bV false) rfl (Vle.nil _ _ _) (Vle.refl _) (List.nil_sublist _) hr.symm
      · have h2 : decide (isEvI baseS e = 0) = true := decide_eq_true (bne_eq_false_iff_eq.1 h2)
        rw [h2, Bool.true_and] at hs1
        (conv=>arg 2;whnf);refine wp_ite (fun h3 => ?_) (fun h3 => ?_)
        · have h3 : n ≠ 0 := by have := of_decide_eq_true h3; exact fun e => by rw [e] at this; exact absurd this (by decide)
          rw [decide_eq_false h3, Bool.false_or] at hs1
          obtain ⟨e', he'⟩ : ∃ e', l[n - 1]? = some e' := ⟨_, List.getElem?_eq_getElem (Nat.lt_of_le_of_lt (Nat.sub_le _ _) h)⟩
          rw [getD_at he'] at hs1
          (conv=>arg 2;whnf);refine wp_elem (n - 1) (evV e') (hwn h3) (evs_at he') (Vle.refl _) ?_
          (conv=>arg 2;whnf);refine wp_elem n (evV e) rfl (evs_at he) (Vle.refl _) ?_
          (conv=>arg 2;whnf);refine wp_ite (fun h4 => ?_) (fun h4 => ?_)
          · have h4 : decide (e'.ts > e.ts) = true := h4
            rw [h4] at hs1
            have hr := hstop hs1
            (conv=>arg 2;whnf)
            refine wp_leaf (loop_ret ?_)
            (conv=>arg 2;whnf);refine w_ret2 (a := kpsV []) (b := bV false) rfl (Vle.nil _ _ _) (Vle.refl _) (List.nil_sublist _) hr.symm
          · have h4 : decide (e'.ts > e.ts) = false := h4
            rw [h4] at hs1
            (conv=>arg 2;whnf)
            exact wp_cutR (frL [(0, evsV l), (1, i64V at_), (6, .sl (shOf (some 4) t) ((keptN at_ l n).map kpV) (tkOf t)), (7, i64V n)]) ([] ++ (tokR (some 4) t ++ [])) (.cons (.refl _) (.cons (.refl _) (.cons (.refl _) (.cons (.refl _) (.nil _))))) (List.Sublist.refl _) (rest hs1)
        · have h3 : n = 0 := by have := of_decide_eq_false h3; exact Nat.eq_zero_of_not_pos fun h => this (Int.ofNat_lt.2 h)
          rw [decide_eq_true h3, Bool.true_or] at hs1
          (repeat ((conv=>arg 2;whnf);first|refine wp_it rfl ?_|refine wp_if rfl ?_))
          exact wp_cutR (frL [(0, evsV l), (1, i64V at_), (6, .sl (shOf (some 4) t) ((keptN at_ l n).map kpV) (tkOf t)), (7, i64V n)]) ([] ++ (tokR (some 4) t ++ [])) (.cons (.refl _) (.cons (.refl _) (.cons (.refl _) (.cons (.refl _) (.nil _))))) (List.Sublist.refl _) (rest hs1)
    case rest =>
      intro hs
      have hall := hall hs
      (conv=>arg 2;whnf);refine wp_elem n (evV e) rfl (evs_at he) (Vle.refl _) ?_
      (conv=>arg 2;whnf);refine wp_append_x (A := []) (B := []) (sh := some 4) (t := t) (xs := (keptN at_ l n).map kpV) (ys := [.agg (.c (.int .i64 (IntKind.i64.wrap (at_ + (n : Int)))) :: evC e)]) hxs (by rw [hw]; exact okE_kp [⟨at_ + n, e⟩]) hsz (fun t' S' hS => ?_)
      (conv=>arg 2;whnf)
      refine wp_leaf (loop_next (l.length - (n + 1)) _ [.tok t' (some 4)] hlt (.cons (.refl _) (.cons (.refl _) (.cons (Vle.of (.sl (some 4) ((keptN at_ l n).map kpV ++ [.agg (.c (.int .i64 (IntKind.i64.wrap (at_ + (n : Int)))) :: evC e)]) (.t t')) rfl ?_) (.cons (Vle.inc n rfl hn62) (.nil _))))) hS ⟨n + 1, some t', rfl, h, (fun e => by cases e), hall, rfl, rfl⟩)
      rw [hw]; exact hv t'
  · have h : n = l.length := by
      have := of_decide_eq_false h
      rw [List.length_map] at this; omega
    rw [h] at ha
    have hr : streamR at_ l = .tup [kpsV (keptE at_ l), bV true] := by rw [streamR, show strmB l = true from ha]; rfl
    have hv : Vle (.sl (shOf (some 4) t) ((keptN at_ l n).map kpV) (tkOf t)) (kpsV (keptE at_ l)) := by
      have e1 : keptE at_ l = keptN at_ l n := by rw [h]; rfl
      rw [e1]
      cases t with
      | none => rw [ht rfl]; exact Vle.nil _ _ _
      | some t => exact Vle.sl _ _ _
    (conv=>arg 2;whnf)
    refine wp_leaf (loop_exit ?_)
    (conv=>arg 2;whnf);refine w_ret2 (a := kpsV (keptE at_ l)) (b := bV true) rfl hv (Vle.refl _) (List.nil_sublist _) hr.symm
end Go.Sv
namespace Go.Sv
open Go Go.Proofs Go.RowKit Go.ChangeShapes Go.WideShapes Go.Proofs.YtonnbjcbjjigiaaGreatDoor
section
variable {H : Type} {enc : TypeId × Value → H} {W : World} {base : Nat} {held : Bool} {fuel : Nat} {cs : List Value} {x : DataW H × List MemPlace}
theorem cEv : Tryz.prog.cellsOf 54 = 3 := by kernel_rfl
theorem cVals : Tryz.prog.cellsOf 52 = 1 := by kernel_rfl
def valSize (v : Val) : Nat := v.s.length + 1
def evSize (e : Ev) : Nat := e.ty.length + (e.vals.map valSize).sum + 1
def EvNum (e : Ev) : Prop := ∀ v ∈ e.vals, I64 v.n
set_option maxRecDepth 100000 in
theorem opens_ev {fuel : Nat} {cs : List Value} {x : DataW H × List MemPlace} (h : DataW.trod enc Tryz.prog W base (fun _ => true) held fuel 54 cs = some x) :
    ∃ e : Ev, cs.length = 3 ∧ RelL (Gh.start W) W (evC e) cs ∧ EvNum e ∧ evSize e ≤ Rows.uptoBulk x.1 := by
  obtain ⟨xs, n, rfl, rfl, hl, hlen, hf⟩ := DataW.trod_struct Tryz.underlying54 h
  rw [cEv] at hl
  match cs, hl with
  | [c0, c1, c2], _ =>
    match xs, hlen with
    | [y0, y1, y2], _ =>
      have h0 : DataW.trod enc Tryz.prog W base (fun _ => true) held n 9 (List.take (Tryz.prog.cellsOf 9) (List.drop 0 [c0, c1, c2])) = some y0 := hf 0 _ rfl
      have h1 : DataW.trod enc Tryz.prog W base (fun _ => true) held n 3 (List.take (Tryz.prog.cellsOf 3) (List.drop 1 [c0, c1, c2])) = some y1 := hf 1 _ rfl
      have h2 : DataW.trod enc Tryz.prog W base (fun _ => true) held n 52 (List.take (Tryz.prog.cellsOf 52) (List.drop 2 [c0, c1, c2])) = some y2 := hf 2 _ rfl
      rw [cS] at h0
      rw [cI] at h1
      rw [cVals] at h2
      obtain ⟨s, r0, s0⟩ := opens_str (cs := [c0]) Tryz.underlying9 h0
      obtain ⟨k, r1, _, _⟩ := opens_i64 (cs := [c1]) Tryz.underlying3 h1
      obtain ⟨l, r2, b2, s2⟩ := opens_row (cs := [c2]) (sh := some 3) (toV := valV) (Pr := fun v => I64 v.n) (sz := valSize) Tryz.underlying52 cVal (by decide) (fun m ds y hm hy => by
        obtain ⟨v, q1, q2, q3⟩ := opens_val hy
        have hc : ds.length = 3 := by have := relL_length q1; exact this
        exact ⟨v, relE_cells hc q1, q2, q3⟩) h2
      refine ⟨⟨s, k, l⟩, rfl, relCons (rel1 r0) (relCons (rel1 r1) (relCons (rel1 r2) (by simp [RelL]))), b2, ?_⟩
      simp only [evSize, List.map_cons, List.map_nil, Rows.uptoBulk, Rows.uptoBulkAll]
      omega
theorem opens_evs {fuel : Nat} {cs : List Value} {x : DataW H × List MemPlace} (h : DataW.trod enc Tryz.prog W base (fun _ => true) held fuel 25 cs = some x) :
    ∃ l : List Ev, RelL (Gh.start W) W [evsV l] cs ∧ (∀ e ∈ l, EvNum e) ∧ (l.map evSize).sum + 1 ≤ Rows.uptoBulk x.1 :=
  opens_row (sh := some 3) (toV := evV) (Pr := EvNum) (sz := evSize) Tryz.underlying25 cEv (by decide) (fun m ds y hm hy => by
    obtain ⟨e, q1, q2, q3, q4⟩ := opens_ev hy
    exact ⟨e, relE_cells q1 q2, q3, q4⟩) h
end
theorem evs_len {l : List Ev} {n : Nat} (h : (l.map evSize).sum ≤ n) : l.length ≤ n := Nat.le_trans (sum_len (f := evSize) (fun e => by unfold evSize; omega) l) h
theorem evs_bd {l : List Ev} (h : (l.map evSize).sum ≤ 2 ^ 39) (hn : ∀ e ∈ l, EvNum e) : ∀ e ∈ l, EvBd e := fun e he => by
  have h1 : e.ty.length + (e.vals.map valSize).sum + 1 ≤ (l.map evSize).sum := sum_mem (f := evSize) he
  have h2 := sum_len (f := valSize) (fun e => by unfold valSize; omega) e.vals
  refine ⟨by omega, fun v hv => ⟨?_, hn e he v hv⟩⟩
  have h3 : v.s.length + 1 ≤ (e.vals.map valSize).sum := sum_mem (f := valSize) hv
  omega
end Go.Sv
namespace Go.Sv
open Go Go.Proofs Go.RowKit Go.ChangeShapes Go.WideShapes
theorem gErrorType : Tryz.prog.globalNamed "errors.errorType" = some 0 := by kernel_rfl
theorem rtCut : (Tryz.prog.cutTypes.find? (·.1 == "internal/reflectlite.rtype")).map (·.2) = some 150 := by kernel_rfl
theorem oneRow : ((List.range Tryz.prog.types.size).filter fun t => Tryz.prog.rowNamed t [101, 114, 114, 111, 114]) = [38] := by kernel_rfl
theorem handle_of_laid {l : List (String × DataW Unit)} {W : World} (h : laidMetH Tryz.prog l W) (hm : ("errors.errorType", Go.Proofs.YtonnbjcbjjigiaaGreatDoor.Rows.laid_errors_errorType) ∈ l) :
    cell W 0 0 = some (.iface 150 (.agg #[.pointer (some ⟨1, 38, none⟩)])) := by
  unfold laidMetH at h
  split at h
  · rename_i he
    have : ("errors.errorType", Go.Proofs.YtonnbjcbjjigiaaGreatDoor.Rows.laid_errors_errorType) ∈ l.filter fun x => x.2.handleName?.isSome := List.mem_filter.2 ⟨hm, rfl⟩
    rw [he] at this; cases this
  · rename_i x xs he
    have hin : ("errors.errorType", Go.Proofs.YtonnbjcbjjigiaaGreatDoor.Rows.laid_errors_errorType) ∈ x :: xs := by rw [← he]; exact List.mem_filter.2 ⟨hm, rfl⟩
    obtain ⟨name, u, ty, e1, e2, e3, e4, e5⟩ := h.2 _ hin
    have en : name = [101, 114, 114, 111, 114] := (Option.some.inj e1).symm
    subst en
    obtain rfl := Option.some.inj (rtCut.symm.trans e2)
    have hmm : ty ∈ (List.range Tryz.prog.types.size).filter fun t => Tryz.prog.rowNamed t [101, 114, 114, 111, 114] := List.mem_filter.2 ⟨List.mem_range.2 e3, e4⟩
    rw [oneRow] at hmm
    obtain rfl := List.mem_singleton.1 hmm
    have hh : typeHandle Tryz.prog 38 = .pointer (some ⟨1, 38, none⟩) := by kernel_rfl
    rw [hh] at e5
    have h6 := World.var?_cell gErrorType e5 0
    unfold cell
    rw [h6]; rfl
theorem statOk8 {l : List (String × DataW Unit)} {W : World} (h : laidMetH Tryz.prog l W) (he : ("errors.errorType", Go.Proofs.YtonnbjcbjjigiaaGreatDoor.Rows.laid_errors_errorType) ∈ l) : statOk W := by
  refine ⟨fun p hp => ?_, fun p hp => by cases hp⟩
  rw [List.mem_singleton.1 hp]
  exact ⟨_, handle_of_laid h he, rfl⟩
noncomputable def worldH (os : Os) : World :=
  { World.holding Tryz.prog os ⟨#[], #[], []⟩ with heap := ⟨Lay.setRows (World.holding Tryz.prog os ⟨#[], #[], []⟩).heap.toList [(0, [.iface 150 (.agg #[.pointer (some ⟨1, 38, none⟩)])])]⟩ }
noncomputable def laidAllH (os : Os) (laid : List (String × DataW Unit)) : World := (worldH os).layVars Tryz.prog (laid.filter fun x => x.2.handleName?.isNone)
theorem laidAllH_os (os : Os) (laid : List (String × DataW Unit)) : (laidAllH os laid).os = os := World.layVars_os _ _ _
theorem laidMetH_laidAllH {os : Os} {laid : List (String × DataW Unit)} (args : Array Value)
    (hf : (worldH os).layFits Tryz.prog (laid.filter fun x => x.2.handleName?.isNone) [] = true)
    (hi : (worldH os).layIfaces Tryz.prog (laid.filter fun x => x.2.handleName?.isNone) (laidAllH os laid) = true)
    (hh : (laid.filter fun x => x.2.handleName?.isSome).all (handleAtB Tryz.prog ((laidAllH os laid).forCall (fun _ _ => 0) ⟨#[], args, []⟩).memory) = true) :
    laidMetH Tryz.prog laid ((laidAllH os laid).forCall (fun _ _ => 0) ⟨#[], args, []⟩).memory := by
  obtain ⟨l, hl⟩ : ∃ l, l = laid.filter fun x => x.2.handleName?.isNone := ⟨_, rfl⟩
  have e1 : (l.filter fun x => (l.map (·.1)).contains x.1) = l := List.filter_eq_self.2 fun x hx => List.contains_iff_mem.2 (List.mem_map.2 ⟨x, hx, rfl⟩)
  have e2 : (l.filter fun x => !(l.map (·.1)).contains x.1) = [] := List.filter_eq_nil_iff.2 fun x hx => by rw [List.contains_iff_mem.2 (List.mem_map.2 ⟨x, hx, rfl⟩)]; simp
  rw [← hl] at hf hi
  have h : laidMet Tryz.prog l (laidAllH os laid) := laidMet_layVars (w0 := worldH os) (l.map (·.1)) [] (by rw [e1, hl]; rfl) (by rw [e1]; exact hf) (by rw [e1]; exact hi) (by rw [e2]; exact LaidIn.none)
  refine laidMetH_of_parts ?_ hh
  rw [← hl]
  exact h.of_heap (by simp [World.memory, World.forCall, Input.heap])
end Go.Sv
namespace Go.Sv
open Go Go.Proofs
theorem goesR_none {s : Sc} {p : Pa} {l : List Kp} {b : List Bd} {k : Nat} {x : Kp} (hb : b ≠ []) (h : atE l (b.headD bd0).at_ = none) : goesR s p l b k x = false := by
  rw [goesR, if_neg hb, h]
theorem goesR_some {s : Sc} {p : Pa} {l : List Kp} {b : List Bd} {k : Nat} {x : Kp} {f : Ev} (hb : b ≠ []) (h : atE l (b.headD bd0).at_ = some f) : goesR s p l b k x = (if x.at_ ≤ (lastBd b).at_ then false
      else if sameR p b k = false ∧ nextI p (lastBd b).elem ≠ k then false
      else if x.e.ts - f.ts > p.within then false
      else takesR s p l b k x.e && (sameR p b k || freeR s p l b k (lastBd b).at_ x.at_)) := by
  rw [goesR, if_neg hb, h]
theorem sameR_eq {p : Pa} {b : List Bd} {k : Nat} {y : El} (hy : p.els[k]? = some y) : sameR p b k = (((k : Int) == ((lastBd b).elem : Int)) && y.plus) := by
  have e : elAt p k = y := by rw [elAt, getD_at hy]
  rw [sameR, e, beq_dec]
  congr 1
  rw [Bool.eq_iff_iff, decide_eq_true_iff, decide_eq_true_iff]; omega
set_option maxRecDepth 100000 in
set_option maxHeartbeats 2000000 in
theorem rgoes_nil (s : Sc) (hs : ScOk s) (p : Pa) (hp : RfOkP p) (l : List Kp) (hl : RfOkL l) (bv : V) (hbv : bv = .sl (some 2) [] .no ∨ bv = .sl none [] .zero) (k : Nat) (hk : 0 < p.els.length) (x : Kp) (hx : EvIs x.e) :
    PCall Tryz.prog 58 [scV s, .agg (paC p), kpsV l, bv, i64V k, kpV x] (bV (goesR s p l [] k x)) := by
  have ft := rtakes_call s hs p hp l hl [] (by decide) (fun y hy => by cases hy) (.sl none [] .zero) (Vle.nil _ _ _) 0 hk x.e hx
  have hr : goesR s p l [] k x = (decide (k = 0) && takesR s p l [] 0 x.e) := rfl
  rw [hr]
  rcases hbv with rfl | rfl
  all_goals
    refine scall_of (live := []) (ords := []) Tryz.func58 rfl (by kernel_rfl) (by kernel_rfl) (Nat.le_of_ble_eq_true rfl) ?_
    (repeat ((conv=>arg 2;whnf);first|refine wp_it rfl ?_|refine wp_if rfl ?_))
    (conv=>arg 2;whnf);refine wp_ite (fun h1 => ?_) (fun h1 => ?_)
    · have h1 : decide (k = 0) = true := by rw [decide_eq_true_iff]; have := beq_iff_eq.1 h1; omega
      rw [h1, Bool.true_and]
      (conv=>arg 2;whnf);refine wp_pcall ft ?_
      (conv=>arg 2;whnf);refine w_ret1 rfl (Vle.refl _) (List.nil_sublist _) rfl
    · have h1 : decide (k = 0) = false := by rw [decide_eq_false_iff_not]; have := beq_eq_false_iff_ne.1 h1; omega
      rw [h1, Bool.false_and]
      (repeat ((conv=>arg 2;whnf);first|refine wp_it rfl ?_|refine wp_if rfl ?_))
      (conv=>arg 2;whnf);refine w_ret1 rfl (Vle.refl _) (List.nil_sublist _) rfl
set_option maxRecDepth 100000 in
set_option maxHeartbeats 4000000 in
theorem rgoes_cons (s : Sc) (hs : ScOk s) (p : Pa) (hp : RfOkP p) (l : List Kp) (hl : RfOkL l) (b : List Bd) (hb : b.length < 2 ^ 29) (hbe : ∀ y ∈ b, y.elem < p.els.length) (hb0 : b ≠ []) (k : Nat) (hk : k < p.els.length) (x : Kp) (hx : EvIs x.e) :
    PCall Tryz.prog 58 [scV s, .agg (paC p), kpsV l, bdsV b, i64V k, kpV x] (bV (goesR s p l b k x)) := by
  have hpn := hp.n
  have hlast : (lastBd b).elem < p.els.length := hbe _ (List.mem_of_getElem? (last_at hb0))
  have hbl := List.length_pos_iff.2 hb0
  have e0 : (((b.map bdV).length : Int) == 0) = false := len_ne hb0
  have hw : IntKind.i64.wrap (((b.map bdV).length : Int) - 1) = ((b.length - 1 : Nat) : Int) := len_pred hb0 (by omega)
  have fa := rat_call l (b.headD bd0).at_ hl.n
  have fn := rnext_call p (lastBd b).elem hpn (by omega)
  have ft := rtakes_call s hs p hp l hl b hb hbe (bdsV b) (Vle.refl _) k hk x.e hx
  have ff := rfree_call s hs p hp l hl b hb hbe k hk (lastBd b).at_ x.at_
  obtain ⟨y, hy, _, hey⟩ := nt_at p hk
  have hsm := sameR_eq (b := b) hy
  refine scall_of (live := []) (ords := [(6, []), (8, [])]) Tryz.func58 rfl (by kernel_rfl) (by kernel_rfl) (Nat.le_of_ble_eq_true rfl) ?_
  (conv=>arg 2;whnf);refine wp_if e0 ?_
  (conv=>arg 2;whnf);refine wp_elem (b.length - 1) (bdV (lastBd b)) hw (bds_at (last_at hb0)) (Vle.refl _) ?_
  (conv=>arg 2;whnf);refine wp_allocE bdZ rfl fun q => ?_
  (conv=>arg 2;whnf);refine wp_storeE (cs := bdZ) 0 0 (bdC (lastBd b)) rfl rfl (VleL.refl _) (Nat.le_refl _) rfl (R' := [.obj q (bdC (lastBd b))]) rfl ?_
  (conv=>arg 2;whnf);refine wp_elem 0 (bdV (b.headD bd0)) rfl (bds_at (head_at hb0)) (Vle.refl _) ?_
  cases ha : atE l (b.headD bd0).at_ with
  | none =>
    rw [ha] at fa
    have hr := goesR_none (s := s) (p := p) (k := k) (x := x) hb0 ha
    rw [hr]
    (conv=>arg 2;whnf);refine wp_pcall fa ?_
    (conv=>arg 2;whnf);refine wp_allocE evZ rfl fun u => ?_
    (conv=>arg 2;whnf);refine wp_storeE (cs := evZ) 1 0 (evC ev0) rfl rfl (VleL.refl _) (Nat.le_refl _) rfl (R' := [.obj q (bdC (lastBd b)), .obj u (evC ev0)]) rfl ?_
    (conv=>arg 2;whnf);refine wp_load (cs := bdC (lastBd b)) 0 rfl rfl ?_
    apply wp_joinT
    case h1 =>
      intro rest
      (conv=>arg 2;whnf);refine wp_ite (fun h1 => ?_) (fun h1 => ?_)
      · (conv=>arg 2;whnf);refine wp_elem k (elV y) rfl (els_at2 hy) (Vle.refl _) ?_
        (conv=>arg 2;whnf)
        exact wp_cutR (frL [(15, bV false)]) [] (.cons (.refl _) (.nil _)) (List.nil_sublist _) rest
      · (repeat ((conv=>arg 2;whnf);first|refine wp_it rfl ?_|refine wp_if rfl ?_))
        exact wp_cutR (frL [(15, bV false)]) [] (.cons (.refl _) (.nil _)) (List.nil_sublist _) rest
    case rest =>
      (repeat ((conv=>arg 2;whnf);first|refine wp_it rfl ?_|refine wp_if rfl ?_))
      (conv=>arg 2;whnf);refine w_ret1 rfl (Vle.refl _) (List.nil_sublist _) rfl
  | some f =>
    rw [ha] at fa
    have hr := goesR_some (s := s) (p := p) (k := k) (x := x) hb0 ha
    (conv=>arg 2;whnf);refine wp_pcall fa ?_
    (conv=>arg 2;whnf);refine wp_allocE evZ rfl fun u => ?_
    (conv=>arg 2;whnf);refine wp_storeE (cs := evZ) 1 0 (evC f) rfl rfl (VleL.refl _) (Nat.le_refl _) rfl (R' := [.obj q (bdC (lastBd b)), .obj u (evC f)]) rfl ?_
    (conv=>arg 2;whnf);refine wp_load (cs := bdC (lastBd b)) 0 rfl rfl ?_
    apply wp_joinT
    case h1 =>
      intro rest
      (conv=>arg 2;whnf);refine wp_ite (fun h1 => ?_) (fun h1 => ?_)
      · have hs2 : y.plus = sameR p b k := by rw [hsm, h1]; rfl
        (conv=>arg 2;whnf);refine wp_elem k (elV y) rfl (els_at2 hy) (Vle.refl _) ?_
        (conv=>arg 2;whnf)
        exact wp_cutP (frL [(2, kpsV l), (3, bdsV b), (4, i64V k), (6, .pt (some 1) (scV s) 0), (7, .pt (some 4) (.agg (paC p)) 0), (11, .pt (some 4) (kpV x) 0), (13, .pt (some 2) (bdV (lastBd b)) 0), (14, .pt (some 3) (evV f) 0), (15, bV true), (16, bV (sameR p b k))]) [] [.obj q (bdC (lastBd b)), .obj u (evC f)] (.cons (.refl _) (.cons (.refl _) (.cons (.refl _) (.cons (.refl _) (.cons (.refl _) (.cons (.refl _) (.cons (.all (List.Mem.head _) rfl (by decide) (VleL.refl _)) (.cons (.all (List.Mem.tail _ (List.Mem.head _)) rfl (by decide) (VleL.refl _)) (.cons (.refl _) (.cons (.vle (Vle.eq (cBool hs2))) (.nil _))))))))))) rest
      · have hs2 : false = sameR p b k := by rw [hsm, h1]; rfl
        (repeat ((conv=>arg 2;whnf);first|refine wp_it rfl ?_|refine wp_if rfl ?_))
        exact wp_cutP (frL [(2, kpsV l), (3, bdsV b), (4, i64V k), (6, .pt (some 1) (scV s) 0), (7, .pt (some 4) (.agg (paC p)) 0), (11, .pt (some 4) (kpV x) 0), (13, .pt (some 2) (bdV (lastBd b)) 0), (14, .pt (some 3) (evV f) 0), (15, bV true), (16, bV (sameR p b k))]) [] [.obj q (bdC (lastBd b)), .obj u (evC f)] (.cons (.refl _) (.cons (.refl _) (.cons (.refl _) (.cons (.refl _) (.cons (.refl _) (.cons (.refl _) (.cons (.all (List.Mem.head _) rfl (by decide) (VleL.refl _)) (.cons (.all (List.Mem.tail _ (List.Mem.head _)) rfl (by decide) (VleL.refl _)) (.cons (.refl _) (.cons (.vle (Vle.eq (cBool hs2))) (.nil _))))))))))) rest
    case rest =>
      obtain ⟨sm, hsmE⟩ : ∃ sm, sm = sameR p b k := ⟨_, rfl⟩
      rw [← hsmE] at hr ⊢
      have hts : ∀ {c : Bool}, goesR s p l b k x = (if x.e.ts - f.ts > p.within then false else c) → ¬ x.e.ts - f.ts > p.within → goesR s p l b k x = c := fun h h1 => by rw [h, if_neg h1]
      (repeat ((conv=>arg 2;whnf);first|refine wp_it rfl ?_|refine wp_if rfl ?_))
      (conv=>arg 2;whnf);refine wp_ite (fun h1 => ?_) (fun h1 => ?_)
      · have h1 : x.at_ ≤ (lastBd b).at_ := of_decide_eq_true h1
        rw [hr, if_pos h1]
        (repeat ((conv=>arg 2;whnf);first|refine wp_it rfl ?_|refine wp_if rfl ?_))
        (conv=>arg 2;whnf);refine w_ret1 rfl (Vle.refl _) (List.nil_sublist _) rfl
      · have h1 : ¬ x.at_ ≤ (lastBd b).at_ := of_decide_eq_false h1
        rw [if_neg h1] at hr
        have e4 : decide ((k : Int) < 0) = false := decide_eq_false (by omega)
        have hin : InR x.e.ts ∧ -1073741825 ≤ x.e.ts ∧ x.e.ts ≤ 1073741825 := ⟨by have := hx.1.2; unfold InR; omega, hx.1.2⟩
        have hfin := (hl.at_ ha).1.2
        have hsub : IntKind.i64.wrap (x.e.ts - f.ts) = x.e.ts - f.ts := w_i64_small (by omega) (by omega)
        clear fa ha
        cases sm with
        | true =>
          rw [if_neg (fun h => Bool.noConfusion h.1)] at hr
          (repeat ((conv=>arg 2;whnf);first|refine wp_it rfl ?_|refine wp_if rfl ?_))
          (conv=>arg 2;whnf);refine wp_ite (fun h5 => ?_) (fun h5 => ?_)
          · have h5 : IntKind.i64.wrap (x.e.ts - f.ts) > p.within := of_decide_eq_true h5
            rw [hsub] at h5
            rw [hr, if_pos h5]
            (conv=>arg 2;whnf);refine w_ret1 rfl (Vle.refl _) (List.nil_sublist _) rfl
          · have h5 : ¬ IntKind.i64.wrap (x.e.ts - f.ts) > p.within := of_decide_eq_false h5
            rw [hsub] at h5
            rw [if_neg h5, Bool.true_or, Bool.and_true] at hr
            (conv=>arg 2;whnf)
            refine wp_cutR (frL [(2, kpsV l), (3, bdsV b), (4, i64V k), (6, .pt (some 1) (scV s) 0), (7, .pt (some 4) (.agg (paC p)) 0), (11, .pt (some 4) (kpV x) 0), (16, bV true)]) [] (.cons (.refl _) (.cons (.refl _) (.cons (.refl _) (.cons (.refl _) (.cons (.refl _) (.cons (.refl _) (.cons (.refl _) (.nil _)))))))) (List.nil_sublist _) ?_
            (conv=>arg 2;whnf);refine wp_pcall ft ?_
            cases ht : takesR s p l b k x.e with
            | true =>
              (repeat ((conv=>arg 2;whnf);first|refine wp_it rfl ?_|refine wp_if rfl ?_))
              (conv=>arg 2;whnf);refine w_ret1 rfl (Vle.eq (cBool (by rw [hr, ht]))) (List.nil_sublist _) rfl
            | false =>
              (repeat ((conv=>arg 2;whnf);first|refine wp_it rfl ?_|refine wp_if rfl ?_))
              (conv=>arg 2;whnf);refine w_ret1 rfl (Vle.eq (cBool (by rw [hr, ht]))) (List.nil_sublist _) rfl
        | false =>
          (repeat ((conv=>arg 2;whnf);first|refine wp_it rfl ?_|refine wp_if rfl ?_))
          (conv=>arg 2;whnf);refine wp_pcall fn ?_
          (conv=>arg 2;whnf);refine wp_ite (fun h3 => ?_) (fun h3 => ?_)
          · have h3 : nextI p (lastBd b).elem ≠ k := by have := bne_iff_ne.1 h3; exact fun e => this e.symm
            rw [if_pos ⟨rfl, h3⟩] at hr
            rw [hr]
            (repeat ((conv=>arg 2;whnf);first|refine wp_it rfl ?_|refine wp_if rfl ?_))
            (conv=>arg 2;whnf);refine w_ret1 rfl (Vle.refl _) (List.nil_sublist _) rfl
          · have h3 : ¬ nextI p (lastBd b).elem ≠ k := by
              have := bne_eq_false_iff_eq.1 h3
              exact fun hc => hc this.symm
            rw [if_neg (fun h => h3 h.2)] at hr
            (conv=>arg 2;whnf);refine wp_if e4 ?_
            (conv=>arg 2;whnf);refine wp_ite (fun h5 => ?_) (fun h5 => ?_)
            · have h5 : IntKind.i64.wrap (x.e.ts - f.ts) > p.within := of_decide_eq_true h5
              rw [hsub] at h5
              rw [hr, if_pos h5]
              (conv=>arg 2;whnf);refine w_ret1 rfl (Vle.refl _) (List.nil_sublist _) rfl
            · have h5 : ¬ IntKind.i64.wrap (x.e.ts - f.ts) > p.within := of_decide_eq_false h5
              rw [hsub] at h5
              rw [if_neg h5, Bool.false_or] at hr
              (conv=>arg 2;whnf)
              refine wp_cutR (frL [(2, kpsV l), (3, bdsV b), (4, i64V k), (6, .pt (some 1) (scV s) 0), (7, .pt (some 4) (.agg (paC p)) 0), (11, .pt (some 4) (kpV x) 0), (13, .pt (some 2) (bdV (lastBd b)) 0), (16, bV false)]) [] (.cons (.refl _) (.cons (.refl _) (.cons (.refl _) (.cons (.refl _) (.cons (.refl _) (.cons (.refl _) (.cons (.refl _) (.cons (.refl _) (.nil _))))))))) (List.nil_sublist _) ?_
              (conv=>arg 2;whnf);refine wp_pcall ft ?_
              cases ht : takesR s p l b k x.e with
              | true =>
                (repeat ((conv=>arg 2;whnf);first|refine wp_it rfl ?_|refine wp_if rfl ?_))
                (conv=>arg 2;whnf);refine wp_pcall ff ?_
                (conv=>arg 2;whnf);refine w_ret1 rfl (Vle.eq (cBool (by rw [hr, ht]; rfl))) (List.nil_sublist _) rfl
              | false =>
                (repeat ((conv=>arg 2;whnf);first|refine wp_it rfl ?_|refine wp_if rfl ?_))
                (conv=>arg 2;whnf);refine w_ret1 rfl (Vle.eq (cBool (by rw [hr, ht]; rfl))) (List.nil_sublist _) rfl
set_option maxRecDepth 100000 in
set_option maxHeartbeats 4000000 in
theorem rgoes_neg (s : Sc) (p : Pa) (hpn : p.els.length < 2 ^ 60) (l : List Kp) (hl : l.length < 2 ^ 60) (b : List Bd) (hb : b.length < 2 ^ 29) (hbe : ∀ y ∈ b, y.elem < p.els.length) (hb0 : b ≠ []) (x : Kp) :
    PCall Tryz.prog 58 [scV s, .agg (paC p), kpsV l, bdsV b, i64V (-1), kpV x] (bV false) := by
  have hlast : (lastBd b).elem < p.els.length := hbe _ (List.mem_of_getElem? (last_at hb0))
  have e0 : (((b.map bdV).length : Int) == 0) = false := len_ne hb0
  have hw : IntKind.i64.wrap (((b.map bdV).length : Int) - 1) = ((b.length - 1 : Nat) : Int) := len_pred hb0 (by omega)
  obtain ⟨ok, fa⟩ := firstR_call l hl b
  have fn := rnext_call p (lastBd b).elem hpn (by omega)
  have e1 : ((-1 : Int) == ((lastBd b).elem : Int)) = false := by rw [beq_eq_false_iff_ne]; omega
  refine scall_of (live := []) (ords := [(6, [])]) Tryz.func58 rfl (by kernel_rfl) (by kernel_rfl) (Nat.le_of_ble_eq_true rfl) ?_
  (conv=>arg 2;whnf);refine wp_if e0 ?_
  (conv=>arg 2;whnf);refine wp_elem (b.length - 1) (bdV (lastBd b)) hw (bds_at (last_at hb0)) (Vle.refl _) ?_
  (conv=>arg 2;whnf);refine wp_allocE bdZ rfl fun q => ?_
  (conv=>arg 2;whnf);refine wp_storeE (cs := bdZ) 0 0 (bdC (lastBd b)) rfl rfl (VleL.refl _) (Nat.le_refl _) rfl (R' := [.obj q (bdC (lastBd b))]) rfl ?_
  (conv=>arg 2;whnf);refine wp_elem 0 (bdV (b.headD bd0)) rfl (bds_at (head_at hb0)) (Vle.refl _) ?_
  (conv=>arg 2;whnf);refine wp_pcall fa ?_
  (conv=>arg 2;whnf);refine wp_allocE evZ rfl fun u => ?_
  (conv=>arg 2;whnf);refine wp_storeE (cs := evZ) 1 0 (evC (firstEv l b)) rfl rfl (VleL.refl _) (Nat.le_refl _) rfl (R' := [.obj q (bdC (lastBd b)), .obj u (evC (firstEv l b))]) rfl ?_
  (conv=>arg 2;whnf);refine wp_load (cs := bdC (lastBd b)) 0 rfl rfl ?_
  (conv=>arg 2;whnf);refine wp_if e1 ?_
  (conv=>arg 2;whnf)
  refine wp_cutP (frL [(4, i64V (-1)), (7, .pt (some 4) (.agg (paC p)) 0), (11, .pt (some 4) (kpV x) 0), (13, .pt (some 2) (bdV (lastBd b)) 0), (15, bV ok), (16, bV false)]) [] [.obj q (bdC (lastBd b)), .obj u (evC (firstEv l b))] (.cons (.refl _) (.cons (.refl _) (.cons (.refl _) (.cons (.all (List.Mem.head _) rfl (by decide) (VleL.refl _)) (.cons (.refl _) (.cons (.refl _) (.nil _))))))) ?_
  cases ok with
  | false =>
    (repeat ((conv=>arg 2;whnf);first|refine wp_it rfl ?_|refine wp_if rfl ?_))
    (conv=>arg 2;whnf);refine w_ret1 rfl (Vle.refl _) (List.nil_sublist _) rfl
  | true =>
    (repeat ((conv=>arg 2;whnf);first|refine wp_it rfl ?_|refine wp_if rfl ?_))
    (conv=>arg 2;whnf);refine wp_ite (fun h1 => ?_) (fun h1 => ?_)
    · (repeat ((conv=>arg 2;whnf);first|refine wp_it rfl ?_|refine wp_if rfl ?_))
      (conv=>arg 2;whnf);refine w_ret1 rfl (Vle.refl _) (List.nil_sublist _) rfl
    · (repeat ((conv=>arg 2;whnf);first|refine wp_it rfl ?_|refine wp_if rfl ?_))
      (conv=>arg 2;whnf);refine wp_pcall fn ?_
      (conv=>arg 2;whnf);refine wp_ite (fun h3 => ?_) (fun h3 => ?_)
      · (repeat ((conv=>arg 2;whnf);first|refine wp_it rfl ?_|refine wp_if rfl ?_))
        (conv=>arg 2;whnf);refine w_ret1 rfl (Vle.refl _) (List.nil_sublist _) rfl
      · (repeat ((conv=>arg 2;whnf);first|refine wp_it rfl ?_|refine wp_if rfl ?_))
        (conv=>arg 2;whnf);refine w_ret1 rfl (Vle.refl _) (List.nil_sublist _) rfl
end Go.Sv
namespace Go.Sv
open Go Go.Proofs
def fitR (s : Sc) (p : Pa) (l : List Kp) (b : List Bd) (i : Nat) : Bool :=
  match atE l (b.getD i bd0).at_ with
  | none => false
  | some e => decide ((b.getD i bd0).elem < p.els.length) && (!ntAt p.els (b.getD i bd0).elem && goesR s p l (b.take i) (b.getD i bd0).elem ⟨(b.getD i bd0).at_, e⟩)
def goesI (s : Sc) (p : Pa) (l : List Kp) (b : List Bd) (k : Int) (x : Kp) : Bool := if k < 0 then false else goesR s p l b k.toNat x
def skip1 (s : Sc) (p : Pa) (l : List Kp) (b : List Bd) (i : Nat) (y : Kp) : Bool :=
  (decide ((b.getD (i - 1) bd0).at_ < y.at_) && decide (y.at_ < (b.getD i bd0).at_)) && (goesR s p l (b.take i) (b.getD (i - 1) bd0).elem y || goesI s p l (b.take i) (nextI p (b.getD (i - 1) bd0).elem) y)
def skipR (s : Sc) (p : Pa) (l : List Kp) (b : List Bd) (i : Nat) : Bool := l.any (skip1 s p l b i)
def preR (s : Sc) (p : Pa) (l : List Kp) (b : List Bd) : Bool :=
  decide (b ≠ []) && (List.range b.length).all fun i => fitR s p l b i && (decide (i = 0) || p.any || !skipR s p l b i)
theorem rgoes_call (s : Sc) (hs : ScOk s) (p : Pa) (hp : RfOkP p) (l : List Kp) (hl : RfOkL l) (b : List Bd) (hb : b.length < 2 ^ 29) (hbe : ∀ y ∈ b, y.elem < p.els.length) (k : Nat) (hk : k < p.els.length) (x : Kp) (hx : EvIs x.e) :
    PCall Tryz.prog 58 [scV s, .agg (paC p), kpsV l, bdsV b, i64V k, kpV x] (bV (goesR s p l b k x)) := by
  by_cases h : b = []
  · subst h; exact rgoes_nil s hs p hp l hl _ (.inl rfl) k (by omega) x hx
  · exact rgoes_cons s hs p hp l hl b hb hbe h k hk x hx
theorem rgoesI_call (s : Sc) (hs : ScOk s) (p : Pa) (hp : RfOkP p) (l : List Kp) (hl : RfOkL l) (b : List Bd) (hb : b.length < 2 ^ 29) (hbe : ∀ y ∈ b, y.elem < p.els.length) (h0 : b ≠ []) (k : Nat) (x : Kp) (hx : EvIs x.e) :
    PCall Tryz.prog 58 [scV s, .agg (paC p), kpsV l, bdsV b, i64V (nextI p k), kpV x] (bV (goesI s p l b (nextI p k) x)) := by
  unfold nextI
  cases h : nextE p k with
  | none => exact rgoes_neg s p hp.n l hl.n b hb hbe h0 x
  | some n =>
    have hn := (nextE_some h).2.1
    have e : goesI s p l b (n : Int) x = goesR s p l b n x := by rw [goesI, if_neg (by omega)]; rfl
    simp only [e]
    exact rgoes_call s hs p hp l hl b hb hbe n hn x hx
end Go.Sv
