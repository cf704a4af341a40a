/- A row's closed facts. -/
import Derived.Test.YtfghmaheokgceaaGreatDoorRows
import Derived.Test.YtfghmaheokgceaaGreatDoorJc
set_option maxRecDepth 100000
namespace Go.Proofs.YtfghmaheokgceaaGreatDoor
open Go
theorem j_hallNil_1 : Rows.hallNilRow.wf (OpenSpec.ofChange Rows.hallNilSpec) = true := by kernel_rfl
theorem j_hallNil_4 : Tryz.f3.params.all (Tryz.pinned.checked.prog.readableRec ·) = true := by kernel_rfl
theorem j_hallNil_5 : namedTie Tryz.pinned.checked.prog Rows.hallNilRow.named Rows.hallNilSpec.vars = true := by kernel_rfl
theorem j_hallNil_6 : (Rows.hallNilRow.stops == []) = true := by kernel_rfl
theorem j_hallNil_8 : (Rows.hallNilRow.knobs == []) = true := by kernel_rfl
theorem j_hallNil_10 : (Rows.hallNilRow.inPlace == Tryz.pinned.checked.prog.inPlace 3) = true := by kernel_rfl
theorem j_hallNil_11 : (Rows.hallNilRow.unfollowed == Tryz.pinned.checked.prog.unfollowed 3) = true := by kernel_rfl
theorem j_hallNil_12 : (Rows.hallNilRow.recurses == Tryz.pinned.checked.prog.recurses 3) = true := by kernel_rfl
theorem j_hallNil_13 : (Rows.hallNilRow.named == Tryz.pinned.checked.prog.varsNamed 3) = true := by kernel_rfl
theorem j_hallNil_14 : (Rows.hallNilRow.maps == (Tryz.f3.params.toList ++ Rows.hallNilSpec.plain.varTypes Tryz.pinned.checked.prog).any (Tryz.pinned.checked.prog.mapsRec ·)) = true := by kernel_rfl
theorem j_hallNil_15 : (Rows.hallNilRow.ifaces == (Tryz.f3.params.toList ++ Rows.hallNilSpec.plain.varTypes Tryz.pinned.checked.prog).any (Tryz.pinned.checked.prog.ifacesRec ·)) = true := by kernel_rfl
theorem j_hallNil_16 : (Rows.hallNilRow.mapsOut == Tryz.pinned.checked.prog.mapsAmong Tryz.f3.resultTypes.toList) = true := by kernel_rfl
theorem j_hallNil_17 : (Rows.hallNilRow.loops == (Tryz.f3.params.toList ++ Rows.hallNilSpec.plain.varTypes Tryz.pinned.checked.prog).any (Tryz.pinned.checked.prog.loopsFrom ·)) = true := by kernel_rfl
theorem j_hallNil_18 : (Rows.hallNilRow.wideKeys == (Tryz.f3.params.toList ++ Rows.hallNilSpec.plain.varTypes Tryz.pinned.checked.prog ++ Tryz.f3.resultTypes.toList).any (Tryz.pinned.checked.prog.wideKeysFrom ·)) = true := by kernel_rfl
theorem j_hallNil_19 : Rows.hallNilSpec.vars.all (Tryz.pinned.checked.prog.varReadable ·) = true := by kernel_rfl
theorem j_hallNil_20 : Tryz.f3.resultTypes.all (fun t => Tryz.pinned.checked.prog.readableRec t && decide (t < Tryz.pinned.checked.prog.types.size)) = true := by kernel_rfl
theorem j_hallNil_21 : (Rows.hallNilRow.ifacesOut == Tryz.f3.resultTypes.toList.any (Tryz.pinned.checked.prog.ifacesRec ·)) = true := by kernel_rfl
theorem j_hallNil_22 : (Rows.hallNilRow.loopsOut == Tryz.f3.resultTypes.toList.any (Tryz.pinned.checked.prog.loopsFrom ·)) = true := by kernel_rfl
theorem j_hallNil_23 : (Rows.hallNilRow.plainKeys == Tryz.pinned.checked.prog.plainKeys) = true := by kernel_rfl
theorem j_hallNil_24 : Rows.hallNilRow.shortTexts.isNone = true := by kernel_rfl
theorem j_hallNil_27 : (Rows.hallNilRow.lifted == Tryz.pinned.checked.prog.liftsFinal) = true := by kernel_rfl
theorem j_hallNil_28 : (Tryz.pinned.checked.prog.make == some Rows.hallNilRow.make) = true := by kernel_rfl
theorem j_hallNil_29 : (Rows.hallNilRow.kinds == (if Rows.hallNilRow.domain.isEmpty then [] else Tryz.f3.params.toList.map fun t => match Tryz.pinned.checked.prog.underlying t with | some (.int k) => some k | _ => none)) = true := by kernel_rfl
theorem j_hallNil_30 : (Rows.hallNilRow.pinned == Rows.hallNilRow.pinnedBy) = true := by kernel_rfl
theorem j_hallNil_31 : (Rows.hallNilRow.veiled == (Tryz.f3.params.toList ++ Rows.hallNilSpec.plain.varTypes Tryz.pinned.checked.prog ++ Tryz.f3.resultTypes.toList).any (Tryz.pinned.checked.prog.veiledRec ·)) = true := by kernel_rfl
theorem j_hallNil_32 : Rows.hallNilRow.veiledFits Tryz.pinned.checked.prog Tryz.f3.params.toList (Tryz.f3.params.toList ++ Rows.hallNilSpec.plain.varTypes Tryz.pinned.checked.prog ++ Tryz.f3.resultTypes.toList) = true := by kernel_rfl
theorem joined_hallNil : joinedFacts Tryz.pinned.checked.prog 3 Tryz.f3 Rows.hallNilSpec Rows.hallNilRow = true :=
  joined_of j_hallNil_1 laidOut jc_3 j_hallNil_4 j_hallNil_5 j_hallNil_6 jc_7 j_hallNil_8 jc_9 j_hallNil_10 j_hallNil_11 j_hallNil_12 j_hallNil_13 j_hallNil_14 j_hallNil_15 j_hallNil_16 j_hallNil_17 j_hallNil_18 j_hallNil_19 j_hallNil_20 j_hallNil_21 j_hallNil_22 j_hallNil_23 j_hallNil_24 jc_25 jc_26 j_hallNil_27 j_hallNil_28 j_hallNil_29 j_hallNil_30 j_hallNil_31 j_hallNil_32
end Go.Proofs.YtfghmaheokgceaaGreatDoor
