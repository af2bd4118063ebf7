/- Proved here: whatever the input, where the listed variables of Go's library hold what the program's text lays, the law ParseDeep answers true, and its arguments read behind the call as they read before. No other condition. -/
import Derived.Test.YtjmkgippihpkoaaGreatDoorMgRowPWrong4
import Derived.Test.YtjmkgippihpkoaaGreatDoorMgRowPWrong11
namespace Go.Proofs.YtjmkgippihpkoaaGreatDoor
open Go Go.ChangeShapes Go.WideShapes Go.ChangeAt Go.RowKit Go.Sv Go.ChangeMaps

theorem parseDeepOwn : ownKnob Tryz.prog.godebug = none := by kernel_rfl
theorem parseDeepLaidOut : laidOutB Tryz.prog = true := by kernel_rfl
theorem parseDeepFn : isFn Tryz.prog 4 := ⟨_, _, Tryz.func4, rfl, by kernel_rfl⟩

set_option maxRecDepth 100000 in
/-- What the walks give. -/
theorem parseDeepContract (H : Type) (enc : TypeId × Value → H) (W : World) (base : Nat) (args : Array Value) (ds gs : List (DataW H)) (before : List MemPlace)
    (hval0 : ∀ (j : Nat) t v, Tryz.f4.params[j]? = some t → args[j]? = some v → Value.okWide Tryz.prog W .any base t v)
    (hW : DataW.Whole enc Tryz.prog Tryz.f4.params.toList Rows.parseDeepSpec.vars false W args.toList ds gs before) (hL : laidMetH Tryz.prog Rows.parseDeepRow.laid W) (hsh : W.ShapedOpen Tryz.prog) :
    Calls Tryz.prog 4 args W fun e W' => ∃ v, e = .returned v ∧ Rows.parseDeepSpec.post enc Tryz.prog Tryz.f4 false true false false W args v W' := by
  have hval : ∀ (j : Nat) t v, Tryz.f4.params[j]? = some t → args[j]? = some v → Value.okWide Tryz.prog W .any base t v := hval0
  have hst : statOk W := statOk5 hL (by simp [Rows.parseDeepRow]) (by simp [Rows.parseDeepRow]) (by simp [Rows.parseDeepRow]) hsh
  have hW' := hW
  obtain ⟨p, q, hA0, hV, rfl, hfz, hnd⟩ := hW
  have hA : DataW.TrodAll enc Tryz.prog W 0 (fun _ => true) true Tryz.f4.params.toList args.toList ds p := hA0
  rw [Tryz.params4] at hA hval
  obtain ⟨v0, v1, d0, d1, p0, p1, rfl, rfl, rfl, h0, h1⟩ := trodAll_two hA
  obtain ⟨rfl, rfl⟩ := trodVars_none hV
  obtain ⟨a0, rfl, rfl, rfl, wa0⟩ := open_int Tryz.underlying5 (hval 0 5 v0 rfl rfl) h0
  have wb0 : 0 ≤ a0 ∧ a0 ≤ 255 := by simpa [Lit.wf, IntKind.min, IntKind.max, IntKind.signed, IntKind.bits] using wa0
  have wc0 : a0 = ((UInt8.ofNat a0.toNat).toNat : Int) := by rw [UInt8.toNat_ofNat']; omega
  obtain ⟨a1, rfl, rfl, rfl⟩ := open_bool Tryz.underlying4 (hval 1 4 v1 rfl rfl) h1
  have hcall := calls_of_pcall (W := W) (xs := [.int .u8 a0, .bool a1]) hst parseDeepFn (parsedeep_call (UInt8.ofNat a0.toNat) a1 ) (by
    simp only [RelL]
    exact ⟨_, _, rfl, by simp only [RelV]; exact congrArg (Value.int .u8) wc0, _, _, rfl, by simp only [RelV, bV], rfl⟩)
  refine hcall.mono ?_
  rintro e W' ⟨x, rfl, hb, g', hx⟩
  simp only [bV, RelV] at hx; subst hx
  exact ⟨_, rfl, post_true parseDeepLaidOut hW' hb (by kernel_rfl) rfl Tryz.underlying4 rfl rfl⟩

theorem parseDeepReads (os : Os) {H : Type} (enc : TypeId × Value → H) : ∃ places, DataW.whole enc Tryz.prog ((World.laidAll Tryz.prog os Rows.parseDeepRow.laid).forCall (fun _ _ => 0) ⟨#[], #[.int .u8 0, .bool false], []⟩).memory Tryz.f4.params.toList Rows.parseDeepSpec.vars false (#[.int .u8 0, .bool false] : Array Value).toList 8 = some ([.lit (.int .u8 0), .lit (.bool false)], [], places) :=
  ⟨[], by kernel_rfl⟩
theorem parseDeepLaid (os : Os) (args : Array Value) : laidMetH Tryz.prog Rows.parseDeepRow.laid ((World.laidAll Tryz.prog os Rows.parseDeepRow.laid).forCall (fun _ _ => 0) ⟨#[], args, []⟩).memory := by
  rw [MakeChecks.laidMetH_plain _ _ _ (by kernel_rfl)]; exact laidMet_laidAll _ (by kernel_rfl) (by kernel_rfl)
theorem parseDeepOk (os : Os) : Input.okWideB Tryz.checked.prog ((World.laidAll Tryz.prog os Rows.parseDeepRow.laid).forCall (fun _ _ => 0) ⟨#[], #[.int .u8 0, .bool false], []⟩) 4 ⟨#[], #[.int .u8 0, .bool false], []⟩ = true := by kernel_rfl

set_option maxRecDepth 100000 in
theorem parseDeepLifted (os : Os) (started : os.Started) (H : Type) (enc : TypeId × Value → H) (F : Stop.Interp) :
    ReturnsInHanded {} Tryz.checked os 4 .any ((OpenSpec.ofChange Rows.parseDeepSpec).preRow enc Tryz.prog Tryz.f4 Rows.parseDeepRow.domain false Rows.parseDeepRow.laid) (((OpenSpec.ofChange Rows.parseDeepSpec).at F).post enc Tryz.prog Tryz.f4 false true false false) := by
  obtain ⟨places, hx⟩ := parseDeepReads os enc
  refine returnsInHanded_of_row (C := Tryz.checked) (s := OpenSpec.ofChange Rows.parseDeepSpec) parseDeepOwn started (by kernel_rfl) Tryz.func4
    ⟨World.laidAll Tryz.prog os Rows.parseDeepRow.laid, fun _ _ => 0, ⟨#[], #[.int .u8 0, .bool false], []⟩, World.laidAll_os _ _ _, World.shaped_of_ZipB (by kernel_rfl) (by kernel_rfl), (Input.okWide_of_okWideB (base := 0) (parseDeepOk os)).1, (Input.okWide_of_okWideB (parseDeepOk os)).2,
      OpenSpec.preRow_of_cond 8 hx (by kernel_rfl) (fun k hk => by cases hk) (by kernel_rfl) (parseDeepLaid os _), by
      simp only [Assume.holds]
      exact ⟨by simp, by simp, fun _ => Modest.zero, by simp, by simp⟩⟩ ?_
  intro W base args ds gs before hval hW _ _ _ hL hsh _
  exact parseDeepContract H enc W base args ds gs before hval hW hL hsh

theorem parseDeepHolds : Rows.ParseDeepSaid :=
  OpenClaim.holds_of_cond 4 Tryz.f4 rfl rfl rfl rfl rfl rfl rfl ⟨rfl, rfl, rfl, rfl, rfl⟩ rfl rfl rfl rfl rfl (by kernel_rfl) Tryz.func4 (by kernel_rfl)
    (of_decide_eq_true (by kernel_rfl)) (by unfold Func.isWrapper; first | (rw [if_pos (by decide +kernel)]; kernel_rfl) | (rw [if_neg (by decide +kernel)]; exact ⟨rfl, rfl⟩))
    (fun os started H enc _ F => by rw [OpenClaim.pre_eq_preRow]; exact parseDeepLifted os started H enc F)

theorem parseDeep : Rows.ParseDeepCardSaid :=
  Claim7.holds_tied_plain_at .later [] _ _ _ _ parseDeepHolds (fun _ h => by cases h) (by kernel_rfl) (fun _ h => by cases h) parseDeep_row_tie rfl ⟨rfl, rfl⟩ (by kernel_rfl) rfl
    (fun f fn hf hfn => by
      obtain rfl : f = 4 := Option.some.inj ((show Tryz.prog.funcNamed "pastern/pasternlaw9.ParseDeep" = some 4 by kernel_rfl).symm.trans hf) |>.symm
      obtain rfl : fn = Tryz.f4 := (Option.some.inj (Tryz.func4.symm.trans hfn)).symm
      exact ⟨by kernel_rfl, fun j t ht => by
        have hm : t ∈ Tryz.f4.params.toList := Array.mem_toList_iff.2 (Array.mem_of_getElem? ht)
        have hall : (Tryz.f4.params.toList.all fun u => !Tryz.prog.wantsStandIn u) = true := by kernel_rfl
        exact (show Tryz.prog.wantsStandIn t = false by simpa using List.all_eq_true.1 hall t hm)⟩)
    (by kernel_rfl)
end Go.Proofs.YtjmkgippihpkoaaGreatDoor
