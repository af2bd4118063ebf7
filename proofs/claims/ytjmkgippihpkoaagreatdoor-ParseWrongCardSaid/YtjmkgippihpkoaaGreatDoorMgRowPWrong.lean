/- Proved here: whatever the input, where the listed variables of Go's library hold what the program's text lays, the law ParseWrong answers true, and its arguments read behind the call as they read before. No other condition. -/
import Derived.Test.YtjmkgippihpkoaaGreatDoorMgRowPWrong4
import Derived.Test.YtjmkgippihpkoaaGreatDoorMgRowPWrong11
namespace Go.Proofs.YtjmkgippihpkoaaGreatDoor
open Go Go.ChangeShapes Go.WideShapes Go.ChangeAt Go.RowKit Go.Sv Go.ChangeMaps

theorem parseWrongOwn : ownKnob Tryz.prog.godebug = none := by kernel_rfl
theorem parseWrongLaidOut : laidOutB Tryz.prog = true := by kernel_rfl
theorem parseWrongFn : isFn Tryz.prog 5 := ⟨_, _, Tryz.func5, rfl, by kernel_rfl⟩

set_option maxRecDepth 100000 in
/-- What the walks give. -/
theorem parseWrongContract (H : Type) (enc : TypeId × Value → H) (W : World) (base : Nat) (args : Array Value) (ds gs : List (DataW H)) (before : List MemPlace)
    (hval0 : ∀ (j : Nat) t v, Tryz.f5.params[j]? = some t → args[j]? = some v → Value.okWide Tryz.prog W .any base t v)
    (hW : DataW.Whole enc Tryz.prog Tryz.f5.params.toList Rows.parseWrongSpec.vars false W args.toList ds gs before) (hL : laidMetH Tryz.prog Rows.parseWrongRow.laid W) (hsh : W.ShapedOpen Tryz.prog) :
    Calls Tryz.prog 5 args W fun e W' => ∃ v, e = .returned v ∧ Rows.parseWrongSpec.post enc Tryz.prog Tryz.f5 false true false false W args v W' := by
  have hval : ∀ (j : Nat) t v, Tryz.f5.params[j]? = some t → args[j]? = some v → Value.okWide Tryz.prog W .any base t v := hval0
  have hst : statOk W := statOk5 hL (by simp [Rows.parseWrongRow]) (by simp [Rows.parseWrongRow]) (by simp [Rows.parseWrongRow]) hsh
  have hW' := hW
  obtain ⟨p, q, hA0, hV, rfl, hfz, hnd⟩ := hW
  have hA : DataW.TrodAll enc Tryz.prog W 0 (fun _ => true) true Tryz.f5.params.toList args.toList ds p := hA0
  rw [Tryz.params5] at hA hval
  obtain ⟨v0, d0, rfl, rfl, h0⟩ := trodAll_one hA
  obtain ⟨rfl, rfl⟩ := trodVars_none hV
  obtain ⟨a0, rfl, rfl, rfl, wa0⟩ := open_int Tryz.underlying5 (hval 0 5 v0 rfl rfl) h0
  have wb0 : 0 ≤ a0 ∧ a0 ≤ 255 := by simpa [Lit.wf, IntKind.min, IntKind.max, IntKind.signed, IntKind.bits] using wa0
  have wc0 : a0 = ((UInt8.ofNat a0.toNat).toNat : Int) := by rw [UInt8.toNat_ofNat']; omega
  have hcall := calls_of_pcall (W := W) (xs := [.int .u8 a0]) hst parseWrongFn (parsewrong_call (UInt8.ofNat a0.toNat) ) (by
    simp only [RelL]
    exact ⟨_, _, rfl, by simp only [RelV]; exact congrArg (Value.int .u8) wc0, rfl⟩)
  refine hcall.mono ?_
  rintro e W' ⟨x, rfl, hb, g', hx⟩
  simp only [bV, RelV] at hx; subst hx
  exact ⟨_, rfl, post_true parseWrongLaidOut hW' hb (by kernel_rfl) rfl Tryz.underlying4 rfl rfl⟩

theorem parseWrongReads (os : Os) {H : Type} (enc : TypeId × Value → H) : ∃ places, DataW.whole enc Tryz.prog ((World.laidAll Tryz.prog os Rows.parseWrongRow.laid).forCall (fun _ _ => 0) ⟨#[], #[.int .u8 0], []⟩).memory Tryz.f5.params.toList Rows.parseWrongSpec.vars false (#[.int .u8 0] : Array Value).toList 8 = some ([.lit (.int .u8 0)], [], places) :=
  ⟨[], by kernel_rfl⟩
theorem parseWrongLaid (os : Os) (args : Array Value) : laidMetH Tryz.prog Rows.parseWrongRow.laid ((World.laidAll Tryz.prog os Rows.parseWrongRow.laid).forCall (fun _ _ => 0) ⟨#[], args, []⟩).memory := by
  rw [MakeChecks.laidMetH_plain _ _ _ (by kernel_rfl)]; exact laidMet_laidAll _ (by kernel_rfl) (by kernel_rfl)
theorem parseWrongOk (os : Os) : Input.okWideB Tryz.checked.prog ((World.laidAll Tryz.prog os Rows.parseWrongRow.laid).forCall (fun _ _ => 0) ⟨#[], #[.int .u8 0], []⟩) 5 ⟨#[], #[.int .u8 0], []⟩ = true := by kernel_rfl

set_option maxRecDepth 100000 in
theorem parseWrongLifted (os : Os) (started : os.Started) (H : Type) (enc : TypeId × Value → H) (F : Stop.Interp) :
    ReturnsInHanded {} Tryz.checked os 5 .any ((OpenSpec.ofChange Rows.parseWrongSpec).preRow enc Tryz.prog Tryz.f5 Rows.parseWrongRow.domain false Rows.parseWrongRow.laid) (((OpenSpec.ofChange Rows.parseWrongSpec).at F).post enc Tryz.prog Tryz.f5 false true false false) := by
  obtain ⟨places, hx⟩ := parseWrongReads os enc
  refine returnsInHanded_of_row (C := Tryz.checked) (s := OpenSpec.ofChange Rows.parseWrongSpec) parseWrongOwn started (by kernel_rfl) Tryz.func5
    ⟨World.laidAll Tryz.prog os Rows.parseWrongRow.laid, fun _ _ => 0, ⟨#[], #[.int .u8 0], []⟩, World.laidAll_os _ _ _, World.shaped_of_ZipB (by kernel_rfl) (by kernel_rfl), (Input.okWide_of_okWideB (base := 0) (parseWrongOk os)).1, (Input.okWide_of_okWideB (parseWrongOk os)).2,
      OpenSpec.preRow_of_cond 8 hx (by kernel_rfl) (fun k hk => by cases hk) (by kernel_rfl) (parseWrongLaid os _), by
      simp only [Assume.holds]
      exact ⟨by simp, by simp, fun _ => Modest.zero, by simp, by simp⟩⟩ ?_
  intro W base args ds gs before hval hW _ _ _ hL hsh _
  exact parseWrongContract H enc W base args ds gs before hval hW hL hsh

theorem parseWrongHolds : Rows.ParseWrongSaid :=
  OpenClaim.holds_of_cond 5 Tryz.f5 rfl rfl rfl rfl rfl rfl rfl ⟨rfl, rfl, rfl, rfl, rfl⟩ rfl rfl rfl rfl rfl (by kernel_rfl) Tryz.func5 (by kernel_rfl)
    (of_decide_eq_true (by kernel_rfl)) (by unfold Func.isWrapper; first | (rw [if_pos (by decide +kernel)]; kernel_rfl) | (rw [if_neg (by decide +kernel)]; exact ⟨rfl, rfl⟩))
    (fun os started H enc _ F => by rw [OpenClaim.pre_eq_preRow]; exact parseWrongLifted os started H enc F)

theorem parseWrong : Rows.ParseWrongCardSaid :=
  Claim7.holds_tied_plain_at .later [] _ _ _ _ parseWrongHolds (fun _ h => by cases h) (by kernel_rfl) (fun _ h => by cases h) parseWrong_row_tie rfl ⟨rfl, rfl⟩ (by kernel_rfl) rfl
    (fun f fn hf hfn => by
      obtain rfl : f = 5 := Option.some.inj ((show Tryz.prog.funcNamed "pastern/pasternlaw9.ParseWrong" = some 5 by kernel_rfl).symm.trans hf) |>.symm
      obtain rfl : fn = Tryz.f5 := (Option.some.inj (Tryz.func5.symm.trans hfn)).symm
      exact ⟨by kernel_rfl, fun j t ht => by
        have hm : t ∈ Tryz.f5.params.toList := Array.mem_toList_iff.2 (Array.mem_of_getElem? ht)
        have hall : (Tryz.f5.params.toList.all fun u => !Tryz.prog.wantsStandIn u) = true := by kernel_rfl
        exact (show Tryz.prog.wantsStandIn t = false by simpa using List.all_eq_true.1 hall t hm)⟩)
    (by kernel_rfl)
end Go.Proofs.YtjmkgippihpkoaaGreatDoor
