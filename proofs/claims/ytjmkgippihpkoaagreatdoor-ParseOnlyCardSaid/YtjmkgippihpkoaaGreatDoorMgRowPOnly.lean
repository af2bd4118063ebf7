/- Proved here: whatever the input, where the listed variables of Go's library hold what the program's text lays, the law ParseOnly answers true, and its arguments read behind the call as they read before. No other condition. -/
import Derived.Test.YtjmkgippihpkoaaGreatDoorMgRowPOnly4
import Derived.Test.YtjmkgippihpkoaaGreatDoorMgRowPOnly11
namespace Go.Proofs.YtjmkgippihpkoaaGreatDoor
open Go Go.ChangeShapes Go.WideShapes Go.ChangeAt Go.RowKit Go.Sv Go.ChangeMaps

theorem parseOnlyOwn : ownKnob Tryz.prog.godebug = none := by kernel_rfl
theorem parseOnlyLaidOut : laidOutB Tryz.prog = true := by kernel_rfl
theorem parseOnlyFn : isFn Tryz.prog 3 := ⟨_, _, Tryz.func3, rfl, by kernel_rfl⟩

set_option maxRecDepth 100000 in
/-- What the walks give. -/
theorem parseOnlyContract (H : Type) (enc : TypeId × Value → H) (W : World) (base : Nat) (args : Array Value) (ds gs : List (DataW H)) (before : List MemPlace)
    (hval0 : ∀ (j : Nat) t v, Tryz.f3.params[j]? = some t → args[j]? = some v → Value.okWide Tryz.prog W .any base t v)
    (hW : DataW.Whole enc Tryz.prog Tryz.f3.params.toList Rows.parseOnlySpec.vars false W args.toList ds gs before) (hL : laidMetH Tryz.prog Rows.parseOnlyRow.laid W) (hsh : W.ShapedOpen Tryz.prog) :
    Calls Tryz.prog 3 args W fun e W' => ∃ v, e = .returned v ∧ Rows.parseOnlySpec.post enc Tryz.prog Tryz.f3 false true false false W args v W' := by
  have hval : ∀ (j : Nat) t v, Tryz.f3.params[j]? = some t → args[j]? = some v → Value.okWide Tryz.prog W .any base t v := hval0
  have hst : statOk W := statOk5 hL (by simp [Rows.parseOnlyRow]) (by simp [Rows.parseOnlyRow]) (by simp [Rows.parseOnlyRow]) hsh
  have hW' := hW
  obtain ⟨p, q, hA0, hV, rfl, hfz, hnd⟩ := hW
  have hA : DataW.TrodAll enc Tryz.prog W 0 (fun _ => true) true Tryz.f3.params.toList args.toList ds p := hA0
  rw [Tryz.params3] at hA hval
  obtain ⟨v0, d0, rfl, rfl, h0⟩ := trodAll_one hA
  obtain ⟨rfl, rfl⟩ := trodVars_none hV
  obtain ⟨a0, rfl, rfl, rfl, wa0⟩ := open_string Tryz.underlying9 (hval 0 9 v0 rfl rfl) h0
  have hcall := calls_of_pcall (W := W) (xs := [.string a0]) hst parseOnlyFn (parseonly_call a0.data.toList ) (by
    simp only [RelL]
    exact ⟨_, _, rfl, by simp only [RelV, str]; rw [← S_of], rfl⟩)
  refine hcall.mono ?_
  rintro e W' ⟨x, rfl, hb, g', hx⟩
  simp only [bV, RelV] at hx; subst hx
  exact ⟨_, rfl, post_true parseOnlyLaidOut hW' hb (by kernel_rfl) rfl Tryz.underlying4 rfl rfl⟩

theorem parseOnlyReads (os : Os) {H : Type} (enc : TypeId × Value → H) : ∃ places, DataW.whole enc Tryz.prog ((World.laidAll Tryz.prog os Rows.parseOnlyRow.laid).forCall (fun _ _ => 0) ⟨#[], #[.string ⟨#[]⟩], []⟩).memory Tryz.f3.params.toList Rows.parseOnlySpec.vars false (#[.string ⟨#[]⟩] : Array Value).toList 8 = some ([.lit (.string [])], [], places) :=
  ⟨[], by kernel_rfl⟩
theorem parseOnlyLaid (os : Os) (args : Array Value) : laidMetH Tryz.prog Rows.parseOnlyRow.laid ((World.laidAll Tryz.prog os Rows.parseOnlyRow.laid).forCall (fun _ _ => 0) ⟨#[], args, []⟩).memory := by
  rw [MakeChecks.laidMetH_plain _ _ _ (by kernel_rfl)]; exact laidMet_laidAll _ (by kernel_rfl) (by kernel_rfl)
theorem parseOnlyOk (os : Os) : Input.okWideB Tryz.checked.prog ((World.laidAll Tryz.prog os Rows.parseOnlyRow.laid).forCall (fun _ _ => 0) ⟨#[], #[.string ⟨#[]⟩], []⟩) 3 ⟨#[], #[.string ⟨#[]⟩], []⟩ = true := by kernel_rfl

set_option maxRecDepth 100000 in
theorem parseOnlyLifted (os : Os) (started : os.Started) (H : Type) (enc : TypeId × Value → H) (F : Stop.Interp) :
    ReturnsInHanded {} Tryz.checked os 3 .any ((OpenSpec.ofChange Rows.parseOnlySpec).preRow enc Tryz.prog Tryz.f3 Rows.parseOnlyRow.domain false Rows.parseOnlyRow.laid) (((OpenSpec.ofChange Rows.parseOnlySpec).at F).post enc Tryz.prog Tryz.f3 false true false false) := by
  obtain ⟨places, hx⟩ := parseOnlyReads os enc
  refine returnsInHanded_of_row (C := Tryz.checked) (s := OpenSpec.ofChange Rows.parseOnlySpec) parseOnlyOwn started (by kernel_rfl) Tryz.func3
    ⟨World.laidAll Tryz.prog os Rows.parseOnlyRow.laid, fun _ _ => 0, ⟨#[], #[.string ⟨#[]⟩], []⟩, World.laidAll_os _ _ _, World.shaped_of_ZipB (by kernel_rfl) (by kernel_rfl), (Input.okWide_of_okWideB (base := 0) (parseOnlyOk os)).1, (Input.okWide_of_okWideB (parseOnlyOk os)).2,
      OpenSpec.preRow_of_cond 8 hx (by kernel_rfl) (fun k hk => by cases hk) (by kernel_rfl) (parseOnlyLaid os _), by
      simp only [Assume.holds]
      exact ⟨by simp, by simp, fun _ => Modest.zero, by simp, by simp⟩⟩ ?_
  intro W base args ds gs before hval hW _ _ _ hL hsh _
  exact parseOnlyContract H enc W base args ds gs before hval hW hL hsh

theorem parseOnlyHolds : Rows.ParseOnlySaid :=
  OpenClaim.holds_of_cond 3 Tryz.f3 rfl rfl rfl rfl rfl rfl rfl ⟨rfl, rfl, rfl, rfl, rfl⟩ rfl rfl rfl rfl rfl (by kernel_rfl) Tryz.func3 (by kernel_rfl)
    (of_decide_eq_true (by kernel_rfl)) (by unfold Func.isWrapper; first | (rw [if_pos (by decide +kernel)]; kernel_rfl) | (rw [if_neg (by decide +kernel)]; exact ⟨rfl, rfl⟩))
    (fun os started H enc _ F => by rw [OpenClaim.pre_eq_preRow]; exact parseOnlyLifted os started H enc F)

theorem parseOnly : Rows.ParseOnlyCardSaid :=
  Claim7.holds_tied_plain_at .later [] _ _ _ _ parseOnlyHolds (fun _ h => by cases h) (by kernel_rfl) (fun _ h => by cases h) parseOnly_row_tie rfl ⟨rfl, rfl⟩ (by kernel_rfl) rfl
    (fun f fn hf hfn => by
      obtain rfl : f = 3 := Option.some.inj ((show Tryz.prog.funcNamed "pastern/pasternlaw9.ParseOnly" = some 3 by kernel_rfl).symm.trans hf) |>.symm
      obtain rfl : fn = Tryz.f3 := (Option.some.inj (Tryz.func3.symm.trans hfn)).symm
      exact ⟨by kernel_rfl, fun j t ht => by
        have hm : t ∈ Tryz.f3.params.toList := Array.mem_toList_iff.2 (Array.mem_of_getElem? ht)
        have hall : (Tryz.f3.params.toList.all fun u => !Tryz.prog.wantsStandIn u) = true := by kernel_rfl
        exact (show Tryz.prog.wantsStandIn t = false by simpa using List.all_eq_true.1 hall t hm)⟩)
    (by kernel_rfl)
end Go.Proofs.YtjmkgippihpkoaaGreatDoor
