/- Proved here: whatever the input, where the listed variables of Go's library hold what the program's text lays, the law ParseTells answers true, and its arguments read behind the call as they read before. No other condition. -/
import Derived.Test.YtjmkgippihpkoaaGreatDoorMgRowPTells4
import Derived.Test.YtjmkgippihpkoaaGreatDoorMgRowPTells14
namespace Go.Proofs.YtjmkgippihpkoaaGreatDoor
open Go Go.ChangeShapes Go.WideShapes Go.ChangeAt Go.RowKit Go.Sv Go.ChangeMaps

theorem parseTellsOwn : ownKnob Tryz.prog.godebug = none := by kernel_rfl
theorem parseTellsLaidOut : laidOutB Tryz.prog = true := by kernel_rfl
theorem parseTellsFn : isFn Tryz.prog 6 := ⟨_, _, Tryz.func6, rfl, by kernel_rfl⟩

set_option maxRecDepth 100000 in
/-- What the walks give. -/
theorem parseTellsContract (H : Type) (enc : TypeId × Value → H) (W : World) (base : Nat) (args : Array Value) (ds gs : List (DataW H)) (before : List MemPlace)
    (hval0 : ∀ (j : Nat) t v, Tryz.f6.params[j]? = some t → args[j]? = some v → Value.okWide Tryz.prog W .any base t v)
    (hW : DataW.Whole enc Tryz.prog Tryz.f6.params.toList Rows.parseTellsSpec.vars false W args.toList ds gs before) (hL : laidMetH Tryz.prog Rows.parseTellsRow.laid W) (hsh : W.ShapedOpen Tryz.prog) :
    Calls Tryz.prog 6 args W fun e W' => ∃ v, e = .returned v ∧ Rows.parseTellsSpec.post enc Tryz.prog Tryz.f6 false true false false W args v W' := by
  have hval : ∀ (j : Nat) t v, Tryz.f6.params[j]? = some t → args[j]? = some v → Value.okWide Tryz.prog W .any base t v := hval0
  have hst : statOk W := statOk6 hL (by simp [Rows.parseTellsRow]) (by simp [Rows.parseTellsRow]) (by simp [Rows.parseTellsRow]) (by simp [Rows.parseTellsRow]) hsh
  have hW' := hW
  obtain ⟨p, q, hA0, hV, rfl, hfz, hnd⟩ := hW
  have hA : DataW.TrodAll enc Tryz.prog W 0 (fun _ => true) true Tryz.f6.params.toList args.toList ds p := hA0
  rw [Tryz.params6] at hA hval
  obtain ⟨v0, v1, d0, d1, p0, p1, rfl, rfl, rfl, h0, h1⟩ := trodAll_two hA
  obtain ⟨rfl, rfl⟩ := trodVars_none hV
  obtain ⟨a0, rfl, rfl, rfl, wa0⟩ := open_string Tryz.underlying9 (hval 0 9 v0 rfl rfl) h0
  obtain ⟨a1, rfl, rfl, rfl, wa1⟩ := open_string Tryz.underlying9 (hval 1 9 v1 rfl rfl) h1
  have hcall := calls_of_pcall (W := W) (xs := [.string a0, .string a1]) hst parseTellsFn (parsetells_call a0.data.toList a1.data.toList ) (by
    simp only [RelL]
    exact ⟨_, _, rfl, by simp only [RelV, str]; rw [← S_of], _, _, rfl, by simp only [RelV, str]; rw [← S_of], rfl⟩)
  refine hcall.mono ?_
  rintro e W' ⟨x, rfl, hb, g', hx⟩
  simp only [bV, RelV] at hx; subst hx
  exact ⟨_, rfl, post_true parseTellsLaidOut hW' hb (by kernel_rfl) rfl Tryz.underlying4 rfl rfl⟩

theorem parseTellsReads (os : Os) {H : Type} (enc : TypeId × Value → H) : ∃ places, DataW.whole enc Tryz.prog ((laidAllH os Rows.parseTellsRow.laid).forCall (fun _ _ => 0) ⟨#[], #[.string ⟨#[]⟩, .string ⟨#[]⟩], []⟩).memory Tryz.f6.params.toList Rows.parseTellsSpec.vars false (#[.string ⟨#[]⟩, .string ⟨#[]⟩] : Array Value).toList 8 = some ([.lit (.string []), .lit (.string [])], [], places) :=
  ⟨[], by kernel_rfl⟩
theorem parseTellsLaid (os : Os) (args : Array Value) : laidMetH Tryz.prog Rows.parseTellsRow.laid ((laidAllH os Rows.parseTellsRow.laid).forCall (fun _ _ => 0) ⟨#[], args, []⟩).memory := by
  exact laidMetH_laidAllH _ (by kernel_rfl) (by kernel_rfl) (by kernel_rfl)
theorem parseTellsOk (os : Os) : Input.okWideB Tryz.checked.prog ((laidAllH os Rows.parseTellsRow.laid).forCall (fun _ _ => 0) ⟨#[], #[.string ⟨#[]⟩, .string ⟨#[]⟩], []⟩) 6 ⟨#[], #[.string ⟨#[]⟩, .string ⟨#[]⟩], []⟩ = true := by kernel_rfl

set_option maxRecDepth 100000 in
theorem parseTellsLifted (os : Os) (started : os.Started) (H : Type) (enc : TypeId × Value → H) (F : Stop.Interp) :
    ReturnsInHanded {} Tryz.checked os 6 .any ((OpenSpec.ofChange Rows.parseTellsSpec).preRow enc Tryz.prog Tryz.f6 Rows.parseTellsRow.domain false Rows.parseTellsRow.laid) (((OpenSpec.ofChange Rows.parseTellsSpec).at F).post enc Tryz.prog Tryz.f6 false true false false) := by
  obtain ⟨places, hx⟩ := parseTellsReads os enc
  refine returnsInHanded_of_row (C := Tryz.checked) (s := OpenSpec.ofChange Rows.parseTellsSpec) parseTellsOwn started (by kernel_rfl) Tryz.func6
    ⟨laidAllH os Rows.parseTellsRow.laid, fun _ _ => 0, ⟨#[], #[.string ⟨#[]⟩, .string ⟨#[]⟩], []⟩, laidAllH_os _ _, World.shaped_of_ZipB (by kernel_rfl) (by kernel_rfl), (Input.okWide_of_okWideB (base := 0) (parseTellsOk os)).1, (Input.okWide_of_okWideB (parseTellsOk os)).2,
      OpenSpec.preRow_of_cond 8 hx (by kernel_rfl) (fun k hk => by cases hk) (by kernel_rfl) (parseTellsLaid os _), by
      simp only [Assume.holds]
      exact ⟨by simp, by simp, fun _ => Modest.zero, by simp, by simp⟩⟩ ?_
  intro W base args ds gs before hval hW _ _ _ hL hsh _
  exact parseTellsContract H enc W base args ds gs before hval hW hL hsh

theorem parseTellsHolds : Rows.ParseTellsSaid :=
  OpenClaim.holds_of_cond 6 Tryz.f6 rfl rfl rfl rfl rfl rfl rfl ⟨rfl, rfl, rfl, rfl, rfl⟩ rfl rfl rfl rfl rfl (by kernel_rfl) Tryz.func6 (by kernel_rfl)
    (of_decide_eq_true (by kernel_rfl)) (by unfold Func.isWrapper; first | (rw [if_pos (by decide +kernel)]; kernel_rfl) | (rw [if_neg (by decide +kernel)]; exact ⟨rfl, rfl⟩))
    (fun os started H enc _ F => by rw [OpenClaim.pre_eq_preRow]; exact parseTellsLifted os started H enc F)

theorem parseTells : Rows.ParseTellsCardSaid :=
  Claim7.holds_tied_plain_at .later [] _ _ _ _ parseTellsHolds (fun _ h => by cases h) (by kernel_rfl) (fun _ h => by cases h) parseTells_row_tie rfl ⟨rfl, rfl⟩ (by kernel_rfl) rfl
    (fun f fn hf hfn => by
      obtain rfl : f = 6 := Option.some.inj ((show Tryz.prog.funcNamed "pastern/pasternlaw9.ParseTells" = some 6 by kernel_rfl).symm.trans hf) |>.symm
      obtain rfl : fn = Tryz.f6 := (Option.some.inj (Tryz.func6.symm.trans hfn)).symm
      exact ⟨by kernel_rfl, fun j t ht => by
        have hm : t ∈ Tryz.f6.params.toList := Array.mem_toList_iff.2 (Array.mem_of_getElem? ht)
        have hall : (Tryz.f6.params.toList.all fun u => !Tryz.prog.wantsStandIn u) = true := by kernel_rfl
        exact (show Tryz.prog.wantsStandIn t = false by simpa using List.all_eq_true.1 hall t hm)⟩)
    (by kernel_rfl)
end Go.Proofs.YtjmkgippihpkoaaGreatDoor
