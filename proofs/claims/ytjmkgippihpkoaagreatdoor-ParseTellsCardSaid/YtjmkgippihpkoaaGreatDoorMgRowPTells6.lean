/- Parts of the proof, one behind the other. -/
import Derived.Test.YtjmkgippihpkoaaGreatDoorMgRowPTells4
import Derived.Test.YtjmkgippihpkoaaGreatDoorProg
import Derived.LaidEql
import Derived.Stop.Asserts
import Derived.RowKitTokens
/- The package word: bytes of some kind, rows of them. -/
namespace Go.Sv
open Go Go.Proofs

section
variable (c : UInt8)
theorem issmall_call : PCall Tryz.prog 87 [byteV c] (bV (isSm c)) := by
  refine scall_of (live := []) (ords := []) Tryz.func87 rfl (by kernel_rfl) (by kernel_rfl) (Nat.le_of_ble_eq_true rfl) ?_
  (conv => arg 2; whnf); refine wp_ite (fun h => ?_) (fun h => ?_)
  · have h := of_decide_eq_true h
    (conv => arg 2; whnf); refine w_retp rfl (Vle.eq (cBool ?_))
    rw [isSm, decide_eq_true (by omega : 97 ≤ c.toNat), Bool.true_and]
    exact decide_eq_decide.2 (by omega)
  · have h := of_decide_eq_false h
    (conv => arg 2; whnf); refine w_retp rfl (Vle.eq (cBool ?_))
    rw [isSm, decide_eq_false (by omega : ¬ 97 ≤ c.toNat), Bool.false_and]
theorem isgreat_call : PCall Tryz.prog 89 [byteV c] (bV (isGr c)) := by
  refine scall_of (live := []) (ords := []) Tryz.func89 rfl (by kernel_rfl) (by kernel_rfl) (Nat.le_of_ble_eq_true rfl) ?_
  (conv => arg 2; whnf); refine wp_ite (fun h => ?_) (fun h => ?_)
  · have h := of_decide_eq_true h
    (conv => arg 2; whnf); refine w_retp rfl (Vle.eq (cBool ?_))
    rw [isGr, decide_eq_true (by omega : 65 ≤ c.toNat), Bool.true_and]
    exact decide_eq_decide.2 (by omega)
  · have h := of_decide_eq_false h
    (conv => arg 2; whnf); refine w_retp rfl (Vle.eq (cBool ?_))
    rw [isGr, decide_eq_false (by omega : ¬ 65 ≤ c.toNat), Bool.false_and]
theorem isdigit_call : PCall Tryz.prog 90 [byteV c] (bV (isDg c)) := by
  refine scall_of (live := []) (ords := []) Tryz.func90 rfl (by kernel_rfl) (by kernel_rfl) (Nat.le_of_ble_eq_true rfl) ?_
  (conv => arg 2; whnf); refine wp_ite (fun h => ?_) (fun h => ?_)
  · have h := of_decide_eq_true h
    (conv => arg 2; whnf); refine w_retp rfl (Vle.eq (cBool ?_))
    rw [isDg, decide_eq_true (by omega : 48 ≤ c.toNat), Bool.true_and]
    exact decide_eq_decide.2 (by omega)
  · have h := of_decide_eq_false h
    (conv => arg 2; whnf); refine w_retp rfl (Vle.eq (cBool ?_))
    rw [isDg, decide_eq_false (by omega : ¬ 48 ≤ c.toNat), Bool.false_and]
end

set_option maxRecDepth 100000 in
theorem span_call (s : List UInt8) (at_ : Nat) (f : FuncId) (p : UInt8 → Bool) (hp : ∀ c, PCall Tryz.prog f [byteV c] (bV (p c))) (hs : s.length < 2 ^ 40) (hat : at_ ≤ s.length) :
    PCall Tryz.prog 105 [str s, i64V at_, .fn (.func f) [] []] (i64V (spanN p (s.drop at_))) := by
  refine scall_of (live := []) (ords := []) Tryz.func105 rfl (by kernel_rfl) (by kernel_rfl) (Nat.le_of_ble_eq_true rfl) ?_
  (conv => arg 2; whnf); refine wp_loop (fun m fr R => ∃ n : Nat, m = s.length - n ∧ at_ + n ≤ s.length ∧ R = [] ∧ spanN p (s.drop at_) = n + spanN p (s.drop (at_ + n)) ∧
      fr = frL [(0, str s), (1, i64V at_), (2, .fn (.func f) [] []), (7, i64V n)])
    s.length _ _ (.cons (.refl _) (.cons (.refl _) (.cons (.refl _) (.cons (.refl _) (.nil _))))) (List.Sublist.refl _) ⟨0, rfl, hat, rfl, by simp, rfl⟩ ?_
  rintro m fr R ⟨n, rfl, hn, rfl, hsp, rfl⟩
  have w1 : IntKind.i64.wrap ((at_ : Int) + n) = ((at_ + n : Nat) : Int) := wadd (by omega) (by omega) (by omega)
  (conv => arg 2; whnf); refine wp_ite (fun h => ?_) (fun h => ?_)
  · have h : at_ + n < s.length := by rw [w1] at h; have := of_decide_eq_true h; rw [S_size] at this; omega
    obtain ⟨c, hc⟩ : ∃ c, s[at_ + n]? = some c := ⟨_, List.getElem?_eq_getElem h⟩
    have hd := drop_at hc
    (conv => arg 2; whnf); refine wp_need (by rw [w1, S_size]; omega) ?_
    (conv => arg 2; whnf); refine wp_pcallV (.cons (Vle.of _ rfl (cByte (congrArg UInt8.toNat ?_))) .nil) (hp c) ?_
    · rw [w1, Int.toNat_natCast]; exact byte_at hc
    cases hpc : p c with
    | true =>
      (repeat ((conv => arg 2; whnf); first | refine wp_ite (fun _ => ?_) (fun h => Bool.noConfusion h) | refine wp_ite (fun h => Bool.noConfusion h) (fun _ => ?_)))
      (conv => arg 2; whnf)
      refine wp_leaf (loop_next (s.length - (n + 1)) _ _ (by omega) (.cons (.refl _) (.cons (.refl _) (.cons (.refl _) (.cons (Vle.inc n rfl (by omega)) (.nil _))))) (List.Sublist.refl _) ⟨n + 1, rfl, by omega, rfl, ?_, rfl⟩)
      rw [hsp, hd, spanN_cons hpc]
      rw [show at_ + n + 1 = at_ + (n + 1) from rfl]; omega
    | false =>
      (repeat ((conv => arg 2; whnf); first | refine wp_ite (fun _ => ?_) (fun h => Bool.noConfusion h) | refine wp_ite (fun h => Bool.noConfusion h) (fun _ => ?_)))
      (conv => arg 2; whnf)
      refine wp_leaf (loop_exit ?_)
      (conv => arg 2; whnf); refine w_retp rfl (Vle.eq (cI64 ?_))
      rw [hsp, hd, spanN_stop hpc]; omega
  · have h : at_ + n = s.length := by rw [w1] at h; have := of_decide_eq_false h; rw [S_size] at this; omega
    (repeat ((conv => arg 2; whnf); first | refine wp_ite (fun _ => ?_) (fun h => Bool.noConfusion h) | refine wp_ite (fun h => Bool.noConfusion h) (fun _ => ?_)))
    (conv => arg 2; whnf)
    refine wp_leaf (loop_exit ?_)
    (conv => arg 2; whnf); refine w_retp rfl (Vle.eq (cI64 ?_))
    rw [hsp, h, List.drop_length]; simp [spanN]
end Go.Sv
/- errors.Is between errors that are numbers of one type. -/
namespace Go.Proofs.TryzIs
open Go Go.RowKit Go.Extern.Stop Go.Stop Go.Extern Go.Proofs

theorem isTypeOf (v : Value) (w : World) : (Extern.ReflectliteType.typeOf #[.iface 42 v]).run Tryz.prog w = .ok (.iface 106 (.agg #[.pointer (some ⟨9, 42, none⟩)])) w := by kernel_rfl
def cmpM : Array Value → Sem Value := Extern.ReflectliteType.method fun t => do Extern.Rtype.noPackHeld "Comparable" t; pure (.bool (← typeInfo t).comparable)
theorem isComparable (w : World) : (cmpM #[.agg #[.pointer (some ⟨9, 42, none⟩)]]).run Tryz.prog w = .ok (.bool true) w := by kernel_rfl
theorem isMethodComparable (v : Value) (w : World) : (Go.method 344 106 v "Comparable").run Tryz.prog w = .ok (182, v) w := by kernel_rfl
theorem isComp : (Tryz.prog.info? 42).map (·.comparable) = some true := by kernel_rfl
theorem noIsE (v : Value) (xT : TypeId) (w : World) : (Instr.typeAssert (.iface 42 v) xT 108 true).run Tryz.prog w = .ok (.tuple #[.nilIface, .bool false]) w := run_typeAssert_lacksB Tryz.underlying108 (by kernel_rfl) (by kernel_rfl) v xT w
theorem noUnwrapE (v : Value) (xT : TypeId) (w : World) : (Instr.typeAssert (.iface 42 v) xT 111 true).run Tryz.prog w = .ok (.tuple #[.nilIface, .bool false]) w := run_typeAssert_lacksB Tryz.underlying111 (by kernel_rfl) (by kernel_rfl) v xT w
theorem noUnwrapsE (v : Value) (xT : TypeId) (w : World) : (Instr.typeAssert (.iface 42 v) xT 112 true).run Tryz.prog w = .ok (.tuple #[.nilIface, .bool false]) w := run_typeAssert_lacksB Tryz.underlying112 (by kernel_rfl) (by kernel_rfl) v xT w

section
variable {P : Program} (w : World)
theorem run_equalIn_iface_int (d : Nat) {ti tn : TypeId} {ms : Array (String × TypeId)} {i : TypeInfo} {k : IntKind} (a b : Int)
    (hi : P.underlying ti = some (.interface ms)) (hn : P.underlying tn = some (.int k)) (hinfo : P.info? tn = some i) (hcomp : i.comparable = true) :
    (Op.equalIn (d + 2) ti (.iface tn (.int k a)) (.iface tn (.int k b))).run P w = .ok (a == b) w := by
  simp [Op.equalIn, run_underlying hi, run_underlying hn, typeInfo, hinfo, hcomp]
theorem run_eql_iface_int {ti tn : TypeId} {ms : Array (String × TypeId)} {i : TypeInfo} {k : IntKind} (a b : Int)
    (hi : P.underlying ti = some (.interface ms)) (hn : P.underlying tn = some (.int k)) (hinfo : P.info? tn = some i) (hcomp : i.comparable = true) :
    (binOp .eql ti (.iface tn (.int k a)) (.iface tn (.int k b))).run P w = .ok (.bool (a == b)) w := by
  simp only [binOp]
  simp [Op.equal, Op.maxDepth, run_equalIn_iface_int w 9998 a b hi hn hinfo hcomp]
end

set_option maxRecDepth 100000 in
theorem is_calls (a b : Int) (w : World) :
    Calls Tryz.prog 13 #[.iface 42 (.int .i64 a), .iface 42 (.int .i64 b)] w fun e w' => e = .returned (.bool (a == b)) ∧ w' = w := by
  obtain ⟨i, hi, hcmp⟩ := Option.map_eq_some_iff.1 isComp
  have h8 := @run_callFunc_extern Tryz.prog 30 _ Extern.ReflectliteType.typeOf Tryz.func30 (by kernel_rfl) (by kernel_rfl) (by kernel_rfl) (by kernel_rfl)
  have h32 := @run_callFunc_extern Tryz.prog 182 _ cmpM Tryz.func182 (by kernel_rfl) (by kernel_rfl) (by kernel_rfl) (by kernel_rfl)
  have tT := isTypeOf
  have cT := isComparable
  have mR := isMethodComparable
  have nE := noIsE
  have uE := noUnwrapE
  have vE := noUnwrapsE
  have heq := run_eql_iface_int (P := Tryz.prog) w a b Tryz.underlying27 Tryz.underlying42 hi hcmp
  rcases hb : (a == b) with _ | _ <;> rw [hb] at heq
  all_goals
    go_enter Tryz.func13, Tryz.ntmps13
    go_wp2
    refine wp_loop_rounds 1 ?_
    rw [rounds_succ]
    go_wp2
    go_ret
    exact ⟨rfl, rfl⟩

theorem is_nil (b : Int) (w : World) :
    Calls Tryz.prog 13 #[.nilIface, .iface 42 (.int .i64 b)] w fun e w' => e = .returned (.bool false) ∧ w' = w := by
  have hn := run_eql_iface_nil_left (P := Tryz.prog) w 42 (.int .i64 b) Tryz.underlying27
  go_enter Tryz.func13, Tryz.ntmps13
  go_wp2
  go_ret
  exact ⟨rfl, rfl⟩
end Go.Proofs.TryzIs
/- Errors that are numbers. -/
namespace Go.Sv
open Go Go.Proofs

def errV : Option Nat → Value
  | none => .nilIface
  | some n => .iface 42 (.int .i64 n)
theorem is_fn : isFn Tryz.prog 13 := ⟨_, _, Tryz.func13, rfl, by kernel_rfl⟩

theorem is_call (e : Option Nat) (n : Nat) : PCall Tryz.prog 13 [.c (errV e), .c (errV (some n))] (bV (e == some n)) := by
  refine pcall_of_calls is_fn fun g w xs hw hx => ?_
  simp only [RelL, RelV] at hx
  obtain ⟨x, ys, rfl, rfl, y, zs, rfl, rfl, rfl⟩ := hx
  cases e with
  | none =>
    refine Calls.mono (TryzIs.is_nil n w) ?_
    rintro e w' ⟨rfl, rfl⟩
    exact ⟨_, rfl, rfl, by simp only [bV, RelV]; rfl⟩
  | some m =>
    refine Calls.mono (TryzIs.is_calls m n w) ?_
    rintro e w' ⟨rfl, rfl⟩
    refine ⟨_, rfl, rfl, ?_⟩
    simp only [bV, RelV, Value.bool.injEq]
    rw [Bool.eq_iff_iff]
    simp
    omega
end Go.Sv
/- The package word: words of letters. -/
namespace Go.Sv
open Go Go.Proofs

def wdL (w : Wd) : List V := [i64V w.kind, str w.text, i64V w.n, i64V w.at_]
/-- What such a function hands back. -/
def nxV (at_ : Nat) : Except Nat Nx → V
  | .ok x => .tup [wdV (x.wd at_), i64V x.len, .c .nilIface]
  | .error e => .tup [wdV wd0, i64V 0, .c (errV (some e))]

set_option maxRecDepth 100000 in
theorem letters_call (s : List UInt8) (at_ kind : Nat) (f : FuncId) (p : UInt8 → Bool) (hp : ∀ c, PCall Tryz.prog f [byteV c] (bV (p c))) (hs : s.length < 2 ^ 40) (hat : at_ ≤ s.length) (_ : kind < 10) :
    PCall Tryz.prog 88 [str s, i64V at_, i64V kind, i64V 8, .fn (.func f) [] []] (nxV at_ (letR kind p (s.drop at_))) := by
  have hsp := span_call s at_ f p hp hs hat
  have hle := spanN_le p (s.drop at_)
  rw [List.length_drop] at hle
  rw [letR]
  generalize spanN p (s.drop at_) = n at *
  refine scall_of (live := []) (ords := []) Tryz.func88 rfl (by kernel_rfl) (by kernel_rfl) (Nat.le_of_ble_eq_true rfl) ?_
  (conv => arg 2; whnf); refine wp_allocE (wdL wd0) rfl fun b => ?_
  (conv => arg 2; whnf); refine wp_pcall hsp ?_
  (conv => arg 2; whnf); refine wp_ite (fun h => ?_) (fun h => ?_)
  · have h : 8 < n := by have := of_decide_eq_true h; omega
    rw [if_pos h]
    (conv => arg 2; whnf); refine wp_store' 0 rfl (Nat.le_of_ble_eq_true rfl) rfl ?_
    (conv => arg 2; whnf); refine w_ret3c (cs := wdL wd0) b 0 0 rfl rfl rfl rfl rfl (.refl _) (.refl _) (.refl _)
  · have h : ¬ 8 < n := by have := of_decide_eq_false h; omega
    rw [if_neg h]
    have w1 : IntKind.i64.wrap ((at_ : Int) + n) = ((at_ + n : Nat) : Int) := wadd (by omega) (by omega) (by omega)
    (conv => arg 2; whnf); refine wp_need (by rw [w1, S_size]; omega) ?_
    (conv => arg 2; whnf); refine wp_store' 0 rfl (Nat.le_of_ble_eq_true rfl) rfl ?_
    (conv => arg 2; whnf); refine w_ret3c (cs := wdL ((⟨kind, (s.drop at_).take n, 0, n⟩ : Nx).wd at_)) b 0 0 rfl rfl rfl ?_ rfl (.refl _) (.refl _) (.refl _)
    show some (Res.obj b [i64V kind, V.c (.string ((S s).extract (Int.toNat at_) (Int.toNat (IntKind.i64.wrap ((at_ : Int) + n))))), i64V 0, i64V at_]) = _
    rw [w1, S_extract, Int.toNat_natCast, Int.toNat_natCast, List.take_drop]; rfl
end Go.Sv
