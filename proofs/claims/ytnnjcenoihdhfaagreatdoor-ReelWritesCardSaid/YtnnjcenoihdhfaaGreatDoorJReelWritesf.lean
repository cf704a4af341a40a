/- Closed facts of a row. -/
import Derived.Test.YtnnjcenoihdhfaaGreatDoorRows
import Derived.Test.YtnnjcenoihdhfaaGreatDoorJn
set_option maxRecDepth 100000
namespace Go.Proofs.YtnnjcenoihdhfaaGreatDoor
open Go
theorem j_reelWrites_1 : Rows.reelWritesRow.wf (OpenSpec.ofChange Rows.reelWritesSpec) = true := by kernel_rfl
theorem j_reelWrites_4 : Tryz.f3.params.all (Tryz.pinned.checked.prog.readableRec ·) = true := by kernel_rfl
theorem j_reelWrites_5 : namedTie Tryz.pinned.checked.prog Rows.reelWritesRow.named Rows.reelWritesSpec.vars = true := by kernel_rfl
theorem j_reelWrites_6 : (Rows.reelWritesRow.stops == []) = true := by kernel_rfl
theorem j_reelWrites_8 : (Rows.reelWritesRow.knobs == []) = true := by kernel_rfl
theorem j_reelWrites_14 : (Rows.reelWritesRow.maps == (Tryz.f3.params.toList ++ Rows.reelWritesSpec.plain.varTypes Tryz.pinned.checked.prog).any (Tryz.pinned.checked.prog.mapsRec ·)) = true := by kernel_rfl
theorem j_reelWrites_15 : (Rows.reelWritesRow.ifaces == (Tryz.f3.params.toList ++ Rows.reelWritesSpec.plain.varTypes Tryz.pinned.checked.prog).any (Tryz.pinned.checked.prog.ifacesRec ·)) = true := by kernel_rfl
theorem j_reelWrites_16 : (Rows.reelWritesRow.mapsOut == Tryz.pinned.checked.prog.mapsAmong Tryz.f3.resultTypes.toList) = true := by kernel_rfl
theorem j_reelWrites_17 : (Rows.reelWritesRow.loops == (Tryz.f3.params.toList ++ Rows.reelWritesSpec.plain.varTypes Tryz.pinned.checked.prog).any (Tryz.pinned.checked.prog.loopsFrom ·)) = true := by kernel_rfl
theorem j_reelWrites_18 : (Rows.reelWritesRow.wideKeys == (Tryz.f3.params.toList ++ Rows.reelWritesSpec.plain.varTypes Tryz.pinned.checked.prog ++ Tryz.f3.resultTypes.toList).any (Tryz.pinned.checked.prog.wideKeysFrom ·)) = true := by kernel_rfl
theorem j_reelWrites_19 : Rows.reelWritesSpec.vars.all (Tryz.pinned.checked.prog.varReadable ·) = true := by kernel_rfl
theorem j_reelWrites_20 : Tryz.f3.resultTypes.all (fun t => Tryz.pinned.checked.prog.readableRec t && decide (t < Tryz.pinned.checked.prog.types.size)) = true := by kernel_rfl
theorem j_reelWrites_21 : (Rows.reelWritesRow.ifacesOut == Tryz.f3.resultTypes.toList.any (Tryz.pinned.checked.prog.ifacesRec ·)) = true := by kernel_rfl
theorem j_reelWrites_22 : (Rows.reelWritesRow.loopsOut == Tryz.f3.resultTypes.toList.any (Tryz.pinned.checked.prog.loopsFrom ·)) = true := by kernel_rfl
theorem j_reelWrites_24 : Rows.reelWritesRow.shortTexts.isNone = true := by kernel_rfl
theorem j_reelWrites_28 : (Tryz.pinned.checked.prog.make == some Rows.reelWritesRow.make) = true := by kernel_rfl
theorem j_reelWrites_29 : (Rows.reelWritesRow.kinds == (if Rows.reelWritesRow.domain.isEmpty then [] else Tryz.f3.params.toList.map fun t => match Tryz.pinned.checked.prog.underlying t with | some (.int k) => some k | _ => none)) = true := by kernel_rfl
theorem j_reelWrites_30 : (Rows.reelWritesRow.pinned == Rows.reelWritesRow.pinnedBy) = true := by kernel_rfl
theorem j_reelWrites_31 : (Rows.reelWritesRow.veiled == (Tryz.f3.params.toList ++ Rows.reelWritesSpec.plain.varTypes Tryz.pinned.checked.prog ++ Tryz.f3.resultTypes.toList).any (Tryz.pinned.checked.prog.veiledRec ·)) = true := by kernel_rfl
theorem j_reelWrites_32 : Rows.reelWritesRow.veiledFits Tryz.pinned.checked.prog Tryz.f3.params.toList (Tryz.f3.params.toList ++ Rows.reelWritesSpec.plain.varTypes Tryz.pinned.checked.prog ++ Tryz.f3.resultTypes.toList) = true := by kernel_rfl
end Go.Proofs.YtnnjcenoihdhfaaGreatDoor
