/- A row's closed facts. -/
import Derived.Test.YtnnjcenoihdhfaaGreatDoorRows
import Derived.Test.YtnnjcenoihdhfaaGreatDoorJc
set_option maxRecDepth 100000
namespace Go.Proofs.YtnnjcenoihdhfaaGreatDoor
open Go
theorem j_reelTells_1 : Rows.reelTellsRow.wf (OpenSpec.ofChange Rows.reelTellsSpec) = true := by kernel_rfl
theorem j_reelTells_4 : Tryz.f5.params.all (Tryz.pinned.checked.prog.readableRec ·) = true := by kernel_rfl
theorem j_reelTells_5 : namedTie Tryz.pinned.checked.prog Rows.reelTellsRow.named Rows.reelTellsSpec.vars = true := by kernel_rfl
theorem j_reelTells_6 : (Rows.reelTellsRow.stops == []) = true := by kernel_rfl
theorem j_reelTells_8 : (Rows.reelTellsRow.knobs == []) = true := by kernel_rfl
theorem j_reelTells_10 : (Rows.reelTellsRow.inPlace == Tryz.pinned.checked.prog.inPlace 5) = true := by kernel_rfl
theorem j_reelTells_11 : (Rows.reelTellsRow.unfollowed == Tryz.pinned.checked.prog.unfollowed 5) = true := by kernel_rfl
theorem j_reelTells_12 : (Rows.reelTellsRow.recurses == Tryz.pinned.checked.prog.recurses 5) = true := by kernel_rfl
theorem j_reelTells_13 : (Rows.reelTellsRow.named == Tryz.pinned.checked.prog.varsNamed 5) = true := by kernel_rfl
theorem j_reelTells_14 : (Rows.reelTellsRow.maps == (Tryz.f5.params.toList ++ Rows.reelTellsSpec.plain.varTypes Tryz.pinned.checked.prog).any (Tryz.pinned.checked.prog.mapsRec ·)) = true := by kernel_rfl
theorem j_reelTells_15 : (Rows.reelTellsRow.ifaces == (Tryz.f5.params.toList ++ Rows.reelTellsSpec.plain.varTypes Tryz.pinned.checked.prog).any (Tryz.pinned.checked.prog.ifacesRec ·)) = true := by kernel_rfl
theorem j_reelTells_16 : (Rows.reelTellsRow.mapsOut == Tryz.pinned.checked.prog.mapsAmong Tryz.f5.resultTypes.toList) = true := by kernel_rfl
theorem j_reelTells_17 : (Rows.reelTellsRow.loops == (Tryz.f5.params.toList ++ Rows.reelTellsSpec.plain.varTypes Tryz.pinned.checked.prog).any (Tryz.pinned.checked.prog.loopsFrom ·)) = true := by kernel_rfl
theorem j_reelTells_18 : (Rows.reelTellsRow.wideKeys == (Tryz.f5.params.toList ++ Rows.reelTellsSpec.plain.varTypes Tryz.pinned.checked.prog ++ Tryz.f5.resultTypes.toList).any (Tryz.pinned.checked.prog.wideKeysFrom ·)) = true := by kernel_rfl
theorem j_reelTells_19 : Rows.reelTellsSpec.vars.all (Tryz.pinned.checked.prog.varReadable ·) = true := by kernel_rfl
theorem j_reelTells_20 : Tryz.f5.resultTypes.all (fun t => Tryz.pinned.checked.prog.readableRec t && decide (t < Tryz.pinned.checked.prog.types.size)) = true := by kernel_rfl
theorem j_reelTells_21 : (Rows.reelTellsRow.ifacesOut == Tryz.f5.resultTypes.toList.any (Tryz.pinned.checked.prog.ifacesRec ·)) = true := by kernel_rfl
theorem j_reelTells_22 : (Rows.reelTellsRow.loopsOut == Tryz.f5.resultTypes.toList.any (Tryz.pinned.checked.prog.loopsFrom ·)) = true := by kernel_rfl
theorem j_reelTells_23 : (Rows.reelTellsRow.plainKeys == Tryz.pinned.checked.prog.plainKeys) = true := by kernel_rfl
theorem j_reelTells_24 : Rows.reelTellsRow.shortTexts.isNone = true := by kernel_rfl
theorem j_reelTells_27 : (Rows.reelTellsRow.lifted == Tryz.pinned.checked.prog.liftsFinal) = true := by kernel_rfl
theorem j_reelTells_28 : (Tryz.pinned.checked.prog.make == some Rows.reelTellsRow.make) = true := by kernel_rfl
theorem j_reelTells_29 : (Rows.reelTellsRow.kinds == (if Rows.reelTellsRow.domain.isEmpty then [] else Tryz.f5.params.toList.map fun t => match Tryz.pinned.checked.prog.underlying t with | some (.int k) => some k | _ => none)) = true := by kernel_rfl
theorem j_reelTells_30 : (Rows.reelTellsRow.pinned == Rows.reelTellsRow.pinnedBy) = true := by kernel_rfl
theorem j_reelTells_31 : (Rows.reelTellsRow.veiled == (Tryz.f5.params.toList ++ Rows.reelTellsSpec.plain.varTypes Tryz.pinned.checked.prog ++ Tryz.f5.resultTypes.toList).any (Tryz.pinned.checked.prog.veiledRec ·)) = true := by kernel_rfl
theorem j_reelTells_32 : Rows.reelTellsRow.veiledFits Tryz.pinned.checked.prog Tryz.f5.params.toList (Tryz.f5.params.toList ++ Rows.reelTellsSpec.plain.varTypes Tryz.pinned.checked.prog ++ Tryz.f5.resultTypes.toList) = true := by kernel_rfl
theorem joined_reelTells : joinedFacts Tryz.pinned.checked.prog 5 Tryz.f5 Rows.reelTellsSpec Rows.reelTellsRow = true :=
  joined_of j_reelTells_1 laidOut jc_3 j_reelTells_4 j_reelTells_5 j_reelTells_6 jc_7 j_reelTells_8 jc_9 j_reelTells_10 j_reelTells_11 j_reelTells_12 j_reelTells_13 j_reelTells_14 j_reelTells_15 j_reelTells_16 j_reelTells_17 j_reelTells_18 j_reelTells_19 j_reelTells_20 j_reelTells_21 j_reelTells_22 j_reelTells_23 j_reelTells_24 jc_25 jc_26 j_reelTells_27 j_reelTells_28 j_reelTells_29 j_reelTells_30 j_reelTells_31 j_reelTells_32
end Go.Proofs.YtnnjcenoihdhfaaGreatDoor
