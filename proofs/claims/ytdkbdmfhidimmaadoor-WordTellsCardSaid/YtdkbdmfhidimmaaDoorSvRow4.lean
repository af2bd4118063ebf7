/- Slices of bytes among a row's arguments. -/
import Derived.Test.YtdkbdmfhidimmaaDoorSvRow3
namespace Go.Sv
open Go Go.RowKit Go.ChangeShapes Go.WideShapes
section
variable {H : Type} {enc : TypeId × Value → H} {P : Program} {W : World} {base b0 : Nat} {held : Bool} {r : Reach}
theorem open_slU8 {t e : TypeId} {v : Value} {d : DataW H} {ps : List MemPlace} (ht : P.underlying t = some (.slice e)) (he : P.underlying e = some (.int .u8)) (hc : P.cellsOf e = 1) (hval : Value.okWide P W r b0 t v)
    (h : DataW.Trod enc P W base (fun _ => true) held t v d ps) : ∃ zs : List UInt8, RelV (Gh.start W) W (.sl none (zs.map byteV) .no) v := by
  obtain ⟨zs, h1, h2⟩ := open_slI ht he hc hval h
  refine ⟨zs.map fun z => UInt8.ofNat z.toNat, ?_⟩
  have e : (zs.map fun z => UInt8.ofNat z.toNat).map byteV = zs.map fun z => V.c (.int .u8 z) := by
    rw [List.map_map]
    refine List.map_congr_left fun z hz => ?_
    have h3 : 0 ≤ z ∧ z ≤ 255 := by simpa [Lit.wf, IntKind.min, IntKind.max, IntKind.signed, IntKind.bits] using h2 z hz
    simp only [Function.comp, byteV]
    congr 2
    simp [UInt8.toNat_ofNat']; omega
  rw [e]; exact h1
end
end Go.Sv
