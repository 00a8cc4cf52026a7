import Derived.Test.YtcbdmlpfepdblaaGreatDoorRows
import Derived.ProofKit
import Derived.JoinedOf
namespace Go.Proofs.YtcbdmlpfepdblaaGreatDoor
open Go
theorem and2 {a b : Bool} (h : a = true) (k : b = true) : (a && b) = true := by rw [h, k]; rfl
theorem j00 : (Rows.meaningTextRow.wf (OpenSpec.ofChange Rows.meaningTextSpec)) = true := by kernel_rfl
theorem j01 : (laidOutB Tryz.prog) = true := by kernel_rfl
theorem j02 : (mapsRowed Tryz.prog) = true := by kernel_rfl
theorem j03 : (Tryz.f3.params.all (Tryz.prog.readableRec ·)) = true := by kernel_rfl
theorem j04 : (namedTie Tryz.prog Rows.meaningTextRow.named Rows.meaningTextSpec.vars) = true := by kernel_rfl
theorem j05 : ((Rows.meaningTextRow.stops == [])) = true := by kernel_rfl
theorem j06 : ((Tryz.prog.stops == [])) = true := by kernel_rfl
theorem j07 : ((Rows.meaningTextRow.knobs == [])) = true := by kernel_rfl
theorem j08 : ((Tryz.prog.stopKnobs == [])) = true := by kernel_rfl
theorem j09 : ((Rows.meaningTextRow.inPlace == Tryz.prog.inPlace 3)) = true := by kernel_rfl
theorem j10 : ((Rows.meaningTextRow.unfollowed == Tryz.prog.unfollowed 3)) = true := by kernel_rfl
theorem j11 : ((Rows.meaningTextRow.recurses == Tryz.prog.recurses 3)) = true := by kernel_rfl
theorem j12 : ((Rows.meaningTextRow.named == Tryz.prog.varsNamed 3)) = true := by kernel_rfl
theorem j13 : ((Rows.meaningTextRow.maps == (Tryz.f3.params.toList ++ Rows.meaningTextSpec.plain.varTypes Tryz.prog).any (Tryz.prog.mapsRec ·))) = true := by kernel_rfl
theorem j14 : ((Rows.meaningTextRow.ifaces == (Tryz.f3.params.toList ++ Rows.meaningTextSpec.plain.varTypes Tryz.prog).any (Tryz.prog.ifacesRec ·))) = true := by kernel_rfl
theorem j15 : ((Rows.meaningTextRow.mapsOut == Tryz.prog.mapsAmong Tryz.f3.resultTypes.toList)) = true := by kernel_rfl
theorem j16 : ((Rows.meaningTextRow.loops == (Tryz.f3.params.toList ++ Rows.meaningTextSpec.plain.varTypes Tryz.prog).any (Tryz.prog.loopsFrom ·))) = true := by kernel_rfl
theorem j17 : ((Rows.meaningTextRow.wideKeys == (Tryz.f3.params.toList ++ Rows.meaningTextSpec.plain.varTypes Tryz.prog ++ Tryz.f3.resultTypes.toList).any (Tryz.prog.wideKeysFrom ·))) = true := by kernel_rfl
theorem j18 : (Rows.meaningTextSpec.vars.all (Tryz.prog.varReadable ·)) = true := by kernel_rfl
theorem j19 : (Tryz.f3.resultTypes.all (fun t => Tryz.prog.readableRec t && decide (t < Tryz.prog.types.size))) = true := by kernel_rfl
theorem j20 : ((Rows.meaningTextRow.ifacesOut == Tryz.f3.resultTypes.toList.any (Tryz.prog.ifacesRec ·))) = true := by kernel_rfl
theorem j21 : ((Rows.meaningTextRow.loopsOut == Tryz.f3.resultTypes.toList.any (Tryz.prog.loopsFrom ·))) = true := by kernel_rfl
theorem j22 : ((Rows.meaningTextRow.plainKeys == Tryz.prog.plainKeys)) = true := by kernel_rfl
theorem j23 : (Rows.meaningTextRow.shortTexts.isNone) = true := by kernel_rfl
theorem j24 : (Tryz.prog.stopsHeard) = true := by kernel_rfl
theorem j25 : (Tryz.prog.mayEnter) = true := by kernel_rfl
theorem j26 : ((Rows.meaningTextRow.lifted == Tryz.prog.liftsFinal)) = true := by kernel_rfl
theorem j27 : ((Tryz.prog.make == some Rows.meaningTextRow.make)) = true := by kernel_rfl
theorem j28 : ((Rows.meaningTextRow.kinds == (if Rows.meaningTextRow.domain.isEmpty then [] else Tryz.f3.params.toList.map fun t => match Tryz.prog.underlying t with | some (.int k) => some k | _ => none))) = true := by kernel_rfl
theorem j29 : ((Rows.meaningTextRow.pinned == Rows.meaningTextRow.pinnedBy)) = true := by kernel_rfl
theorem j30 : ((Rows.meaningTextRow.veiled == (Tryz.f3.params.toList ++ Rows.meaningTextSpec.plain.varTypes Tryz.prog ++ Tryz.f3.resultTypes.toList).any (Tryz.prog.veiledRec ·))) = true := by kernel_rfl
theorem j31 : (Rows.meaningTextRow.veiledFits Tryz.prog Tryz.f3.params.toList (Tryz.f3.params.toList ++ Rows.meaningTextSpec.plain.varTypes Tryz.prog ++ Tryz.f3.resultTypes.toList)) = true := by kernel_rfl
set_option maxRecDepth 100000 in
theorem closed : joinedFacts Tryz.prog 3 Tryz.f3 Rows.meaningTextSpec Rows.meaningTextRow = true := by
  unfold joinedFacts
  exact and2 (and2 (and2 (and2 (and2 (and2 (and2 (and2 (and2 (and2 (and2 (and2 (and2 (and2 (and2 (and2 (and2 (and2 (and2 (and2 (and2 (and2 (and2 (and2 (and2 (and2 (and2 (and2 (and2 (and2 (and2 j00 j01) j02) j03) j04) j05) j06) j07) j08) j09) j10) j11) j12) j13) j14) j15) j16) j17) j18) j19) j20) j21) j22) j23) j24) j25) j26) j27) j28) j29) j30) j31
end Go.Proofs.YtcbdmlpfepdblaaGreatDoor
