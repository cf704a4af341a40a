/- A row's closed facts. -/
import Derived.Test.YtnnjcenoihdhfaaGreatDoorRows
import Derived.Test.YtnnjcenoihdhfaaGreatDoorJc
set_option maxRecDepth 100000
namespace Go.Proofs.YtnnjcenoihdhfaaGreatDoor
open Go
theorem j_reelReads_1 : Rows.reelReadsRow.wf (OpenSpec.ofChange Rows.reelReadsSpec) = true := by kernel_rfl
theorem j_reelReads_4 : Tryz.f4.params.all (Tryz.pinned.checked.prog.readableRec ·) = true := by kernel_rfl
theorem j_reelReads_5 : namedTie Tryz.pinned.checked.prog Rows.reelReadsRow.named Rows.reelReadsSpec.vars = true := by kernel_rfl
theorem j_reelReads_6 : (Rows.reelReadsRow.stops == []) = true := by kernel_rfl
theorem j_reelReads_8 : (Rows.reelReadsRow.knobs == []) = true := by kernel_rfl
theorem j_reelReads_10 : (Rows.reelReadsRow.inPlace == Tryz.pinned.checked.prog.inPlace 4) = true := by kernel_rfl
theorem j_reelReads_11 : (Rows.reelReadsRow.unfollowed == Tryz.pinned.checked.prog.unfollowed 4) = true := by kernel_rfl
theorem j_reelReads_12 : (Rows.reelReadsRow.recurses == Tryz.pinned.checked.prog.recurses 4) = true := by kernel_rfl
theorem j_reelReads_13 : (Rows.reelReadsRow.named == Tryz.pinned.checked.prog.varsNamed 4) = true := by kernel_rfl
theorem j_reelReads_14 : (Rows.reelReadsRow.maps == (Tryz.f4.params.toList ++ Rows.reelReadsSpec.plain.varTypes Tryz.pinned.checked.prog).any (Tryz.pinned.checked.prog.mapsRec ·)) = true := by kernel_rfl
theorem j_reelReads_15 : (Rows.reelReadsRow.ifaces == (Tryz.f4.params.toList ++ Rows.reelReadsSpec.plain.varTypes Tryz.pinned.checked.prog).any (Tryz.pinned.checked.prog.ifacesRec ·)) = true := by kernel_rfl
theorem j_reelReads_16 : (Rows.reelReadsRow.mapsOut == Tryz.pinned.checked.prog.mapsAmong Tryz.f4.resultTypes.toList) = true := by kernel_rfl
theorem j_reelReads_17 : (Rows.reelReadsRow.loops == (Tryz.f4.params.toList ++ Rows.reelReadsSpec.plain.varTypes Tryz.pinned.checked.prog).any (Tryz.pinned.checked.prog.loopsFrom ·)) = true := by kernel_rfl
theorem j_reelReads_18 : (Rows.reelReadsRow.wideKeys == (Tryz.f4.params.toList ++ Rows.reelReadsSpec.plain.varTypes Tryz.pinned.checked.prog ++ Tryz.f4.resultTypes.toList).any (Tryz.pinned.checked.prog.wideKeysFrom ·)) = true := by kernel_rfl
theorem j_reelReads_19 : Rows.reelReadsSpec.vars.all (Tryz.pinned.checked.prog.varReadable ·) = true := by kernel_rfl
theorem j_reelReads_20 : Tryz.f4.resultTypes.all (fun t => Tryz.pinned.checked.prog.readableRec t && decide (t < Tryz.pinned.checked.prog.types.size)) = true := by kernel_rfl
theorem j_reelReads_21 : (Rows.reelReadsRow.ifacesOut == Tryz.f4.resultTypes.toList.any (Tryz.pinned.checked.prog.ifacesRec ·)) = true := by kernel_rfl
theorem j_reelReads_22 : (Rows.reelReadsRow.loopsOut == Tryz.f4.resultTypes.toList.any (Tryz.pinned.checked.prog.loopsFrom ·)) = true := by kernel_rfl
theorem j_reelReads_23 : (Rows.reelReadsRow.plainKeys == Tryz.pinned.checked.prog.plainKeys) = true := by kernel_rfl
theorem j_reelReads_24 : Rows.reelReadsRow.shortTexts.isNone = true := by kernel_rfl
theorem j_reelReads_27 : (Rows.reelReadsRow.lifted == Tryz.pinned.checked.prog.liftsFinal) = true := by kernel_rfl
theorem j_reelReads_28 : (Tryz.pinned.checked.prog.make == some Rows.reelReadsRow.make) = true := by kernel_rfl
theorem j_reelReads_29 : (Rows.reelReadsRow.kinds == (if Rows.reelReadsRow.domain.isEmpty then [] else Tryz.f4.params.toList.map fun t => match Tryz.pinned.checked.prog.underlying t with | some (.int k) => some k | _ => none)) = true := by kernel_rfl
theorem j_reelReads_30 : (Rows.reelReadsRow.pinned == Rows.reelReadsRow.pinnedBy) = true := by kernel_rfl
theorem j_reelReads_31 : (Rows.reelReadsRow.veiled == (Tryz.f4.params.toList ++ Rows.reelReadsSpec.plain.varTypes Tryz.pinned.checked.prog ++ Tryz.f4.resultTypes.toList).any (Tryz.pinned.checked.prog.veiledRec ·)) = true := by kernel_rfl
theorem j_reelReads_32 : Rows.reelReadsRow.veiledFits Tryz.pinned.checked.prog Tryz.f4.params.toList (Tryz.f4.params.toList ++ Rows.reelReadsSpec.plain.varTypes Tryz.pinned.checked.prog ++ Tryz.f4.resultTypes.toList) = true := by kernel_rfl
theorem joined_reelReads : joinedFacts Tryz.pinned.checked.prog 4 Tryz.f4 Rows.reelReadsSpec Rows.reelReadsRow = true :=
  joined_of j_reelReads_1 laidOut jc_3 j_reelReads_4 j_reelReads_5 j_reelReads_6 jc_7 j_reelReads_8 jc_9 j_reelReads_10 j_reelReads_11 j_reelReads_12 j_reelReads_13 j_reelReads_14 j_reelReads_15 j_reelReads_16 j_reelReads_17 j_reelReads_18 j_reelReads_19 j_reelReads_20 j_reelReads_21 j_reelReads_22 j_reelReads_23 j_reelReads_24 jc_25 jc_26 j_reelReads_27 j_reelReads_28 j_reelReads_29 j_reelReads_30 j_reelReads_31 j_reelReads_32
end Go.Proofs.YtnnjcenoihdhfaaGreatDoor
