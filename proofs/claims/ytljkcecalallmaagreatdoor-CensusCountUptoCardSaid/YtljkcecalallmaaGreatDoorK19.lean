/- The row's closed facts, one by one. Printed by a program. -/
import Derived.Test.YtljkcecalallmaaGreatDoorCards
import Derived.JoinedCond
import Derived.KernelRfl
namespace Go.Proofs.YtljkcecalallmaaGreatDoor.censusCount
open Go Go.Proofs Go.ChangeShapes
theorem both {a b : Bool} (h : a = true) (k : b = true) : (a && b) = true := by rw [h, k]; rfl
section
theorem k0 : (Rows.censusCountUptoRow.wf (_root_.Go.OpenSpec.ofChange ((Rows.OpenSpec.upto Rows.censusCountSpec).bare))) = true := by kernel_rfl
theorem k1 : (laidOutB Tryz.prog) = true := by kernel_rfl
theorem k2 : (mapsRowed Tryz.prog) = true := by kernel_rfl
theorem k3 : (Tryz.f3.params.all (Tryz.prog.readableRec ·)) = true := by kernel_rfl
theorem k4 : (namedTie Tryz.prog Rows.censusCountUptoRow.named ((Rows.OpenSpec.upto Rows.censusCountSpec).bare).vars) = true := by kernel_rfl
theorem k5 : ((Rows.censusCountUptoRow.stops == [])) = true := by kernel_rfl
theorem k6 : ((Tryz.prog.stops == [])) = true := by kernel_rfl
theorem k7 : ((Rows.censusCountUptoRow.knobs == [])) = true := by kernel_rfl
theorem k8 : ((Tryz.prog.stopKnobs == [])) = true := by kernel_rfl
theorem k9 : ((Rows.censusCountUptoRow.inPlace == Tryz.prog.inPlace 3)) = true := by kernel_rfl
theorem k10 : ((Rows.censusCountUptoRow.unfollowed == Tryz.prog.unfollowed 3)) = true := by kernel_rfl
theorem k11 : ((Rows.censusCountUptoRow.recurses == Tryz.prog.recurses 3)) = true := by kernel_rfl
theorem k12 : ((Rows.censusCountUptoRow.named == Tryz.prog.varsNamed 3)) = true := by kernel_rfl
theorem k13 : ((Rows.censusCountUptoRow.maps == (Tryz.f3.params.toList ++ ((Rows.OpenSpec.upto Rows.censusCountSpec).bare).plain.varTypes Tryz.prog).any (Tryz.prog.mapsRec ·))) = true := by kernel_rfl
theorem k14 : ((Rows.censusCountUptoRow.ifaces == (Tryz.f3.params.toList ++ ((Rows.OpenSpec.upto Rows.censusCountSpec).bare).plain.varTypes Tryz.prog).any (Tryz.prog.ifacesRec ·))) = true := by kernel_rfl
theorem k15 : ((Rows.censusCountUptoRow.mapsOut == Tryz.prog.mapsAmong Tryz.f3.resultTypes.toList)) = true := by kernel_rfl
theorem k16 : ((Rows.censusCountUptoRow.loops == (Tryz.f3.params.toList ++ ((Rows.OpenSpec.upto Rows.censusCountSpec).bare).plain.varTypes Tryz.prog).any (Tryz.prog.loopsFrom ·))) = true := by kernel_rfl
theorem k17 : ((Rows.censusCountUptoRow.wideKeys == (Tryz.f3.params.toList ++ ((Rows.OpenSpec.upto Rows.censusCountSpec).bare).plain.varTypes Tryz.prog ++ Tryz.f3.resultTypes.toList).any (Tryz.prog.wideKeysFrom ·))) = true := by kernel_rfl
theorem k18 : (((Rows.OpenSpec.upto Rows.censusCountSpec).bare).vars.all (Tryz.prog.varReadable ·)) = true := by kernel_rfl
theorem k19 : (Tryz.f3.resultTypes.all (fun t => Tryz.prog.readableRec t && decide (t < Tryz.prog.types.size))) = true := by kernel_rfl
theorem k20 : ((Rows.censusCountUptoRow.ifacesOut == Tryz.f3.resultTypes.toList.any (Tryz.prog.ifacesRec ·))) = true := by kernel_rfl
theorem k21 : ((Rows.censusCountUptoRow.loopsOut == Tryz.f3.resultTypes.toList.any (Tryz.prog.loopsFrom ·))) = true := by kernel_rfl
theorem k22 : ((Rows.censusCountUptoRow.plainKeys == Tryz.prog.plainKeys)) = true := by kernel_rfl
theorem k23 : (Rows.censusCountUptoRow.shortTexts.isNone) = true := by kernel_rfl
theorem k24 : (Tryz.prog.stopsHeard) = true := by kernel_rfl
theorem k25 : (Tryz.prog.mayEnter) = true := by kernel_rfl
theorem k26 : ((Rows.censusCountUptoRow.lifted == Tryz.prog.liftsFinal)) = true := by kernel_rfl
theorem k27 : ((Tryz.prog.make == some Rows.censusCountUptoRow.make)) = true := by kernel_rfl
theorem k28 : ((Rows.censusCountUptoRow.kinds == (if Rows.censusCountUptoRow.domain.isEmpty then [] else Tryz.f3.params.toList.map fun t => match Tryz.prog.underlying t with | some (.int k) => some k | _ => none))) = true := by kernel_rfl
theorem k29 : ((Rows.censusCountUptoRow.pinned == Rows.censusCountUptoRow.pinnedBy)) = true := by kernel_rfl
theorem k30 : ((Rows.censusCountUptoRow.veiled == (Tryz.f3.params.toList ++ ((Rows.OpenSpec.upto Rows.censusCountSpec).bare).plain.varTypes Tryz.prog ++ Tryz.f3.resultTypes.toList).any (Tryz.prog.veiledRec ·))) = true := by kernel_rfl
theorem k31 : (Rows.censusCountUptoRow.veiledFits Tryz.prog Tryz.f3.params.toList (Tryz.f3.params.toList ++ ((Rows.OpenSpec.upto Rows.censusCountSpec).bare).plain.varTypes Tryz.prog ++ Tryz.f3.resultTypes.toList)) = true := by kernel_rfl
end
end Go.Proofs.YtljkcecalallmaaGreatDoor.censusCount
