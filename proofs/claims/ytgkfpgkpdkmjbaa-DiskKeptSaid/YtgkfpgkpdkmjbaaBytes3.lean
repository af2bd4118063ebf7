/- The package bytes: what its reader hands out. -/
import Derived.Test.YtgkfpgkpdkmjbaaBytes2
namespace Go.Sv
open Go Go.Proofs

def textPost (b : Nat) (e : Option Nat) (r : Except Nat (List UInt8 × List UInt8)) (v : V) (R' : List Res) : Prop :=
  match r with
  | .ok (s, l') => v = .tup [str s, .c .nilIface] ∧ R' = RRes b l' e
  | .error c => ∃ l', v = .tup [str [], .c (errV (some c))] ∧ R' = RRes b l' e

set_option maxRecDepth 100000 in
theorem rtext_call (b : Nat) (l : List UInt8) (e : Option Nat) (most : Nat) (hl : l.length < 2 ^ 60) :
    SCall Try.prog 44 [.loc b 0, u64V most] (RRes b l e) (textPost b e (decT most l)) := by
  refine scall_of (live := []) (ords := []) Try.func44 rfl (by kernel_rfl) (by kernel_rfl) (Nat.le_of_ble_eq_true rfl) ?_
  refine wp_call (rnum_call b l e most hl) ?_
  intro v R' hK
  unfold numPost at hK
  cases hd : decN most l with
  | error c =>
    rw [hd] at hK
    obtain ⟨l', rfl, rfl⟩ := hK
    refine wp_ite (fun h => ?_) (fun h => ?_)
    · refine wp_leaf (ends_ret (v := .tup [str [], .c (errV (some c))]) (resV_tmp (resV_tmp resV_nil)) (Vle.refl _) (List.Sublist.refl _) ?_)
      simp only [decT, hd]
      exact ⟨l', rfl, rfl⟩
    · cases h
  | ok p =>
    obtain ⟨n, r⟩ := p
    rw [hd] at hK
    obtain ⟨rfl, rfl⟩ := hK
    have hdl : n < 18446744073709551616 ∧ r.length < l.length := by
      unfold decN at hd
      cases h2 : dec 0 0 l with
      | error c => rw [h2] at hd; cases hd
      | ok p =>
        rw [h2] at hd
        simp only at hd
        split at hd
        · cases hd
        · cases hd
          exact dec_lt l 0 0 _ _ (by omega) (by omega) (by simpa using h2)
    have el : IntKind.u64.wrap ((r.length : Nat) : Int) = ((r.length : Nat) : Int) := by rw [w_u64]; omega
    refine wp_ite (fun h => ?_) (fun h => ?_)
    · cases h
    · refine wp_load 0 rfl rfl ?_
      refine wp_ite (fun h2 => ?_) (fun h2 => ?_)
      · have h2 : n > r.length := by
          have h3 := of_decide_eq_true h2
          simp only [S_size] at h3
          rw [el] at h3
          exact Int.ofNat_lt.1 h3
        refine wp_leaf (ends_ret (v := .tup [str [], .c (errV (some 11))]) (resV_tmp (resV_tmp resV_nil)) (Vle.refl _) (List.Sublist.refl _) ?_)
        simp only [decT, hd, if_pos h2]
        exact ⟨r, rfl, rfl⟩
      · have h2 : ¬ n > r.length := by
          have h3 := of_decide_eq_false h2
          simp only [S_size] at h3
          rw [el] at h3
          exact fun h => h3 (Int.ofNat_lt.2 h)
        refine wp_load 0 rfl rfl ?_
        refine wp_need ⟨by omega, by simp; omega⟩ ?_
        refine wp_load 0 rfl rfl ?_
        refine wp_need ⟨by omega, by simp; omega⟩ ?_
        refine wp_store 0 (us := [str (r.drop n)]) rfl (.cons (Vle.eq (cStr (by simp))) .nil) (Nat.le_add_right _ _) rfl ?_
        refine wp_leaf (ends_ret (v := .tup [str (r.take n), .c .nilIface]) (resV_tmp (resV_tmp resV_nil)) (Vle.tup (.cons (Vle.eq ?_) (.cons (.refl _) .nil))) (List.Sublist.refl _) ?_)
        · refine cStr ?_
          simp
        · simp only [decT, hd, if_neg h2]
          exact ⟨rfl, rfl⟩

set_option maxRecDepth 100000 in
theorem num1_call (b : Nat) (l : List UInt8) (e : Option Nat) (most : Nat) (hl : l.length < 2 ^ 60) :
    SCall Try.prog 40 [.pt none (.loc b 0) 0, .pt none (u64V most) 0] (RRes b l e) (numPost b e (decN most l)) := by
  refine scall_of (live := []) (ords := []) Try.func40 rfl (by kernel_rfl) (by kernel_rfl) (Nat.le_of_ble_eq_true rfl) ?_
  refine wp_call (rnum_call b l e most hl) ?_
  intro v R' hK
  unfold numPost at hK
  split at hK
  · obtain ⟨rfl, rfl⟩ := hK
    rename_i n l' hd
    exact wp_leaf (ends_ret (v := .tup [u64V n, .c .nilIface]) (resV_tmp (resV_tmp resV_nil)) (Vle.refl _) (List.Sublist.refl _) (by rw [hd]; exact ⟨rfl, rfl⟩))
  · obtain ⟨l', rfl, rfl⟩ := hK
    rename_i c hd
    exact wp_leaf (ends_ret (v := .tup [u64V 0, .c (errV (some c))]) (resV_tmp (resV_tmp resV_nil)) (Vle.refl _) (List.Sublist.refl _) (by rw [hd]; exact ⟨l', rfl, rfl⟩))

set_option maxRecDepth 100000 in
theorem text1_call (b : Nat) (l : List UInt8) (e : Option Nat) (most : Int) (hm : most < 2 ^ 62) (hl : l.length < 2 ^ 60) :
    SCall Try.prog 43 [.pt none (.loc b 0) 0, .pt none (i64V most) 0] (RRes b l e) (textPost b e (decT most.toNat l)) := by
  refine scall_of (live := []) (ords := []) Try.func43 rfl (by kernel_rfl) (by kernel_rfl) (Nat.le_of_ble_eq_true rfl) ?_
  refine wp_call ((rtext_call b l e most.toNat hl).vle (.cons (.refl _) (.cons (Vle.eq ?_) .nil))) ?_
  · refine cU64 ?_
    rw [w_u64]; omega
  intro v R' hK
  unfold textPost at hK
  split at hK
  · obtain ⟨rfl, rfl⟩ := hK
    rename_i n l' hd
    exact wp_leaf (ends_ret (v := .tup [str n, .c .nilIface]) (resV_tmp (resV_tmp resV_nil)) (Vle.refl _) (List.Sublist.refl _) (by rw [hd]; exact ⟨rfl, rfl⟩))
  · obtain ⟨l', rfl, rfl⟩ := hK
    rename_i c hd
    exact wp_leaf (ends_ret (v := .tup [str [], .c (errV (some c))]) (resV_tmp (resV_tmp resV_nil)) (Vle.refl _) (List.Sublist.refl _) (by rw [hd]; exact ⟨l', rfl, rfl⟩))

set_option maxRecDepth 100000 in
theorem part1_call (b : Nat) (l : List UInt8) (e : Option Nat) (tag : UInt8) (hl : l.length < 2 ^ 60) :
    SCall Try.prog 45 [.pt none (.loc b 0) 0, .pt none (byteV tag) 0] (RRes b l e) (textPost b e (decP tag l)) := by
  refine scall_of (live := [15, 24]) (ords := []) Try.func45 rfl (by kernel_rfl) (by kernel_rfl) (Nat.le_of_ble_eq_true rfl) ?_
  refine wp_load 0 rfl rfl ?_
  cases l with
  | nil =>
    refine wp_ite (fun h => ?_) (fun h => ?_)
    · exact wp_leaf (ends_ret (v := .tup [str [], .c (errV (some 11))]) (resV_tmp (resV_tmp resV_nil)) (Vle.refl _) (List.Sublist.refl _) ⟨[], rfl, rfl⟩)
    · simp [S_toList, emp_toList] at h
  | cons a l =>
    have hb := u8_lt a
    have ht := u8_lt tag
    refine wp_ite (fun h => ?_) (fun h => ?_)
    · simp [S_toList, emp_toList] at h
    · refine wp_load 0 rfl rfl ?_
      refine wp_need ⟨by omega, by simp⟩ ?_
      refine wp_ite (fun h2 => ?_) (fun h2 => ?_)
      · have h2 : a ≠ tag := by
          rintro rfl
          simp at h2
        refine wp_leaf (ends_ret (v := .tup [str [], .c (errV (some 10))]) (resV_tmp (resV_tmp resV_nil)) (Vle.refl _) (List.Sublist.refl _) ?_)
        simp only [decP, if_pos h2]
        exact ⟨_, rfl, rfl⟩
      · have h2 : ¬ a ≠ tag := by
          intro hne
          have h3 : ¬ ((a.toNat : Int) = (tag.toNat : Int)) := fun h => hne (UInt8.toNat_inj.1 (by omega))
          simp at h2
          exact h3 h2
        refine wp_load 0 rfl rfl ?_
        refine wp_need ⟨by omega, by simp; omega⟩ ?_
        refine wp_store 0 (us := [str l]) rfl (.cons (Vle.eq (cStr (by simp))) .nil) (Nat.le_add_right _ _) rfl ?_
        refine wp_call (rtext_call b l e 1000000 (by simp at hl; omega)) ?_
        intro v R' hK
        unfold textPost at hK
        split at hK
        · obtain ⟨rfl, rfl⟩ := hK
          rename_i n l' hd
          exact wp_leaf (ends_ret (v := .tup [str n, .c .nilIface]) (resV_tmp (resV_tmp resV_nil)) (Vle.refl _) (List.Sublist.refl _) (by simp only [decP, if_neg h2, hd]; exact ⟨rfl, rfl⟩))
        · obtain ⟨l', rfl, rfl⟩ := hK
          rename_i c hd
          exact wp_leaf (ends_ret (v := .tup [str [], .c (errV (some c))]) (resV_tmp (resV_tmp resV_nil)) (Vle.refl _) (List.Sublist.refl _) (by simp only [decP, if_neg h2, hd]; exact ⟨l', rfl, rfl⟩))
/-- What a taker hands out. -/
def takenPost (b : Nat) (l : List UInt8) (zero : V) (r : Except Nat (V × List UInt8)) (v : V) (R' : List Res) : Prop :=
  match r with
  | .ok (x, l') => v = x ∧ R' = RRes b l' none
  | .error c => v = zero ∧ R' = RRes b l (some c)
def closPost (b : Nat) (r : Except Nat (V × List UInt8)) (v : V) (R' : List Res) : Prop :=
  match r with
  | .ok (x, l') => v = .tup [x, .c .nilIface] ∧ R' = RRes b l' none
  | .error c => ∃ l' z, v = .tup [z, .c (errV (some c))] ∧ R' = RRes b l' none

set_option maxRecDepth 100000 in
theorem takenN_err (b : Nat) (l : List UInt8) (c : Nat) (g : FuncId) (caps : List V) : SCall Try.prog 39 [.loc b 0, .fn (.func g) [] caps] (RRes b l (some c)) fun v R' => v = u64V 0 ∧ R' = RRes b l (some c) := by
  refine scall_of (live := []) (ords := []) Try.func39 rfl (by kernel_rfl) (by kernel_rfl) (Nat.le_of_ble_eq_true rfl) ?_
  refine wp_load 0 rfl rfl ?_
  refine wp_ite (fun h => ?_) (fun h => by cases h)
  exact wp_leaf (ends_ret (v := u64V 0) (resV_tmp resV_nil) (Vle.refl _) (List.Sublist.refl _) ⟨rfl, rfl⟩)

set_option maxRecDepth 100000 in
theorem takenN_ok (b : Nat) (l : List UInt8) (g : FuncId) (caps : List V) (r : Except Nat (V × List UInt8)) (h : SCall Try.prog g caps (RRes b l none) (closPost b r)) :
    SCall Try.prog 39 [.loc b 0, .fn (.func g) [] caps] (RRes b l none) (takenPost b l (u64V 0) r) := by
  refine scall_of (live := []) (ords := []) Try.func39 rfl (by kernel_rfl) (by kernel_rfl) (Nat.le_of_ble_eq_true rfl) ?_
  refine wp_load 0 rfl rfl ?_
  refine wp_ite (fun h => by cases h) (fun _ => ?_)
  refine wp_load 0 rfl rfl ?_
  refine wp_call (by simpa using h) ?_
  intro v R' hK
  cases r with
  | ok p =>
    obtain ⟨x, l'⟩ := p
    obtain ⟨rfl, rfl⟩ := hK
    refine wp_ite (fun h => by cases h) (fun _ => ?_)
    exact wp_leaf (ends_ret (v := x) (resV_tmp resV_nil) (Vle.refl _) (List.Sublist.refl _) ⟨rfl, rfl⟩)
  | error c =>
    obtain ⟨l', z, rfl, rfl⟩ := hK
    refine wp_ite (fun _ => ?_) (fun h => by cases h)
    refine wp_store' 0 rfl (Nat.le_add_right _ _) rfl ?_
    refine wp_store' 0 rfl (Nat.le_refl _) rfl ?_
    exact wp_leaf (ends_ret (v := u64V 0) (resV_tmp resV_nil) (Vle.refl _) (List.Sublist.refl _) ⟨rfl, rfl⟩)

set_option maxRecDepth 100000 in
theorem takenS_err (b : Nat) (l : List UInt8) (c : Nat) (g : FuncId) (caps : List V) : SCall Try.prog 42 [.loc b 0, .fn (.func g) [] caps] (RRes b l (some c)) fun v R' => v = str [] ∧ R' = RRes b l (some c) := by
  refine scall_of (live := []) (ords := []) Try.func42 rfl (by kernel_rfl) (by kernel_rfl) (Nat.le_of_ble_eq_true rfl) ?_
  refine wp_load 0 rfl rfl ?_
  refine wp_ite (fun h => ?_) (fun h => by cases h)
  exact wp_leaf (ends_ret (v := str []) (resV_tmp resV_nil) (Vle.refl _) (List.Sublist.refl _) ⟨rfl, rfl⟩)

set_option maxRecDepth 100000 in
theorem takenS_ok (b : Nat) (l : List UInt8) (g : FuncId) (caps : List V) (r : Except Nat (V × List UInt8)) (h : SCall Try.prog g caps (RRes b l none) (closPost b r)) :
    SCall Try.prog 42 [.loc b 0, .fn (.func g) [] caps] (RRes b l none) (takenPost b l (str []) r) := by
  refine scall_of (live := []) (ords := []) Try.func42 rfl (by kernel_rfl) (by kernel_rfl) (Nat.le_of_ble_eq_true rfl) ?_
  refine wp_load 0 rfl rfl ?_
  refine wp_ite (fun h => by cases h) (fun _ => ?_)
  refine wp_load 0 rfl rfl ?_
  refine wp_call (by simpa using h) ?_
  intro v R' hK
  cases r with
  | ok p =>
    obtain ⟨x, l'⟩ := p
    obtain ⟨rfl, rfl⟩ := hK
    refine wp_ite (fun h => by cases h) (fun _ => ?_)
    exact wp_leaf (ends_ret (v := x) (resV_tmp resV_nil) (Vle.refl _) (List.Sublist.refl _) ⟨rfl, rfl⟩)
  | error c =>
    obtain ⟨l', z, rfl, rfl⟩ := hK
    refine wp_ite (fun _ => ?_) (fun h => by cases h)
    refine wp_store' 0 rfl (Nat.le_add_right _ _) rfl ?_
    refine wp_store' 0 rfl (Nat.le_refl _) rfl ?_
    exact wp_leaf (ends_ret (v := str []) (resV_tmp resV_nil) (Vle.refl _) (List.Sublist.refl _) ⟨rfl, rfl⟩)

/-- A reader's answer and what it is then. -/
def step {α : Type} (zero : α) (f : List UInt8 → Except Nat (α × List UInt8)) (l : List UInt8) (e : Option Nat) : α × List UInt8 × Option Nat :=
  match e with
  | some c => (zero, l, some c)
  | none => match f l with
    | .ok (x, l') => (x, l', none)
    | .error c => (zero, l, some c)
def rdN (most : Nat) := step 0 (decN most)
def rdT (most : Nat) := step [] (decT most)
def rdP (tag : UInt8) := step [] (decP tag)
def rdI (l : List UInt8) (e : Option Nat) : Int × List UInt8 × Option Nat := (zag (rdN 18446744073709551615 l e).1, (rdN 18446744073709551615 l e).2)

set_option maxRecDepth 100000 in
theorem rdN_call (b : Nat) (l : List UInt8) (e : Option Nat) (most : Nat) (hl : l.length < 2 ^ 60) : SCall Try.prog 21 [.loc b 0, u64V most] (RRes b l e) fun v R' => v = u64V (rdN most l e).1 ∧ R' = RRes b (rdN most l e).2.1 (rdN most l e).2.2 := by
  refine scall_of (live := []) (ords := []) Try.func21 rfl (by kernel_rfl) (by kernel_rfl) (Nat.le_of_ble_eq_true rfl) ?_
  cases e with
  | some c =>
    refine wp_call (takenN_err b l c _ _) ?_
    rintro v R' ⟨rfl, rfl⟩
    exact wp_leaf (ends_ret (v := u64V 0) (resV_tmp resV_nil) (Vle.refl _) (List.Sublist.refl _) ⟨rfl, rfl⟩)
  | none =>
    refine wp_call (takenN_ok b l _ _ ((decN most l).map fun p => (u64V p.1, p.2)) ((num1_call b l none most hl).mono ?_)) ?_
    · intro v R' hK
      unfold numPost at hK
      unfold closPost
      cases hd : decN most l with
      | ok p => rw [hd] at hK; exact hK
      | error c => rw [hd] at hK; obtain ⟨l', h1, h2⟩ := hK; exact ⟨l', _, h1, h2⟩
    · intro v R' hK
      unfold takenPost at hK
      cases hd : decN most l with
      | ok p =>
        rw [hd] at hK
        obtain ⟨rfl, rfl⟩ := hK
        exact wp_leaf (ends_ret (v := u64V p.1) (resV_tmp resV_nil) (Vle.refl _) (List.Sublist.refl _) (by simp [rdN, step, hd]))
      | error c =>
        rw [hd] at hK
        obtain ⟨rfl, rfl⟩ := hK
        exact wp_leaf (ends_ret (v := u64V 0) (resV_tmp resV_nil) (Vle.refl _) (List.Sublist.refl _) (by simp [rdN, step, hd]))

set_option maxRecDepth 100000 in
theorem rdT_call (b : Nat) (l : List UInt8) (e : Option Nat) (most : Int) (hm : most < 2 ^ 62) (hl : l.length < 2 ^ 60) : SCall Try.prog 23 [.loc b 0, i64V most] (RRes b l e) fun v R' => v = str (rdT most.toNat l e).1 ∧ R' = RRes b (rdT most.toNat l e).2.1 (rdT most.toNat l e).2.2 := by
  refine scall_of (live := []) (ords := []) Try.func23 rfl (by kernel_rfl) (by kernel_rfl) (Nat.le_of_ble_eq_true rfl) ?_
  cases e with
  | some c =>
    refine wp_call (takenS_err b l c _ _) ?_
    rintro v R' ⟨rfl, rfl⟩
    exact wp_leaf (ends_ret (v := str []) (resV_tmp resV_nil) (Vle.refl _) (List.Sublist.refl _) ⟨rfl, rfl⟩)
  | none =>
    refine wp_call (takenS_ok b l _ _ ((decT most.toNat l).map fun p => (str p.1, p.2)) ((text1_call b l none most hm hl).mono ?_)) ?_
    · intro v R' hK
      unfold textPost at hK
      unfold closPost
      cases hd : decT most.toNat l with
      | ok p => rw [hd] at hK; exact hK
      | error c => rw [hd] at hK; obtain ⟨l', h1, h2⟩ := hK; exact ⟨l', _, h1, h2⟩
    · intro v R' hK
      unfold takenPost at hK
      cases hd : decT most.toNat l with
      | ok p =>
        rw [hd] at hK
        obtain ⟨rfl, rfl⟩ := hK
        exact wp_leaf (ends_ret (v := str p.1) (resV_tmp resV_nil) (Vle.refl _) (List.Sublist.refl _) (by simp [rdT, step, hd]))
      | error c =>
        rw [hd] at hK
        obtain ⟨rfl, rfl⟩ := hK
        exact wp_leaf (ends_ret (v := str []) (resV_tmp resV_nil) (Vle.refl _) (List.Sublist.refl _) (by simp [rdT, step, hd]))

set_option maxRecDepth 100000 in
theorem rdP_call (b : Nat) (l : List UInt8) (e : Option Nat) (tag : UInt8) (hl : l.length < 2 ^ 60) : SCall Try.prog 24 [.loc b 0, byteV tag] (RRes b l e) fun v R' => v = str (rdP tag l e).1 ∧ R' = RRes b (rdP tag l e).2.1 (rdP tag l e).2.2 := by
  refine scall_of (live := []) (ords := []) Try.func24 rfl (by kernel_rfl) (by kernel_rfl) (Nat.le_of_ble_eq_true rfl) ?_
  cases e with
  | some c =>
    refine wp_call (takenS_err b l c _ _) ?_
    rintro v R' ⟨rfl, rfl⟩
    exact wp_leaf (ends_ret (v := str []) (resV_tmp resV_nil) (Vle.refl _) (List.Sublist.refl _) ⟨rfl, rfl⟩)
  | none =>
    refine wp_call (takenS_ok b l _ _ ((decP tag l).map fun p => (str p.1, p.2)) ((part1_call b l none tag hl).mono ?_)) ?_
    · intro v R' hK
      unfold textPost at hK
      unfold closPost
      cases hd : decP tag l with
      | ok p => rw [hd] at hK; exact hK
      | error c => rw [hd] at hK; obtain ⟨l', h1, h2⟩ := hK; exact ⟨l', _, h1, h2⟩
    · intro v R' hK
      unfold takenPost at hK
      cases hd : decP tag l with
      | ok p =>
        rw [hd] at hK
        obtain ⟨rfl, rfl⟩ := hK
        exact wp_leaf (ends_ret (v := str p.1) (resV_tmp resV_nil) (Vle.refl _) (List.Sublist.refl _) (by simp [rdP, step, hd]))
      | error c =>
        rw [hd] at hK
        obtain ⟨rfl, rfl⟩ := hK
        exact wp_leaf (ends_ret (v := str []) (resV_tmp resV_nil) (Vle.refl _) (List.Sublist.refl _) (by simp [rdP, step, hd]))
end Go.Sv
