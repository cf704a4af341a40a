/- A row's closed facts. -/
import Derived.Test.YtnnjcenoihdhfaaGreatDoorRows
import Derived.Test.YtnnjcenoihdhfaaGreatDoorJc
set_option maxRecDepth 100000
namespace Go.Proofs.YtnnjcenoihdhfaaGreatDoor
open Go
theorem j_reelBack_1 : Rows.reelBackRow.wf (OpenSpec.ofChange Rows.reelBackSpec) = true := by kernel_rfl
theorem j_reelBack_4 : Tryz.f6.params.all (Tryz.pinned.checked.prog.readableRec ·) = true := by kernel_rfl
theorem j_reelBack_5 : namedTie Tryz.pinned.checked.prog Rows.reelBackRow.named Rows.reelBackSpec.vars = true := by kernel_rfl
theorem j_reelBack_6 : (Rows.reelBackRow.stops == []) = true := by kernel_rfl
theorem j_reelBack_8 : (Rows.reelBackRow.knobs == []) = true := by kernel_rfl
theorem j_reelBack_10 : (Rows.reelBackRow.inPlace == Tryz.pinned.checked.prog.inPlace 6) = true := by kernel_rfl
theorem j_reelBack_11 : (Rows.reelBackRow.unfollowed == Tryz.pinned.checked.prog.unfollowed 6) = true := by kernel_rfl
theorem j_reelBack_12 : (Rows.reelBackRow.recurses == Tryz.pinned.checked.prog.recurses 6) = true := by kernel_rfl
theorem j_reelBack_13 : (Rows.reelBackRow.named == Tryz.pinned.checked.prog.varsNamed 6) = true := by kernel_rfl
theorem j_reelBack_14 : (Rows.reelBackRow.maps == (Tryz.f6.params.toList ++ Rows.reelBackSpec.plain.varTypes Tryz.pinned.checked.prog).any (Tryz.pinned.checked.prog.mapsRec ·)) = true := by kernel_rfl
theorem j_reelBack_15 : (Rows.reelBackRow.ifaces == (Tryz.f6.params.toList ++ Rows.reelBackSpec.plain.varTypes Tryz.pinned.checked.prog).any (Tryz.pinned.checked.prog.ifacesRec ·)) = true := by kernel_rfl
theorem j_reelBack_16 : (Rows.reelBackRow.mapsOut == Tryz.pinned.checked.prog.mapsAmong Tryz.f6.resultTypes.toList) = true := by kernel_rfl
theorem j_reelBack_17 : (Rows.reelBackRow.loops == (Tryz.f6.params.toList ++ Rows.reelBackSpec.plain.varTypes Tryz.pinned.checked.prog).any (Tryz.pinned.checked.prog.loopsFrom ·)) = true := by kernel_rfl
theorem j_reelBack_18 : (Rows.reelBackRow.wideKeys == (Tryz.f6.params.toList ++ Rows.reelBackSpec.plain.varTypes Tryz.pinned.checked.prog ++ Tryz.f6.resultTypes.toList).any (Tryz.pinned.checked.prog.wideKeysFrom ·)) = true := by kernel_rfl
theorem j_reelBack_19 : Rows.reelBackSpec.vars.all (Tryz.pinned.checked.prog.varReadable ·) = true := by kernel_rfl
theorem j_reelBack_20 : Tryz.f6.resultTypes.all (fun t => Tryz.pinned.checked.prog.readableRec t && decide (t < Tryz.pinned.checked.prog.types.size)) = true := by kernel_rfl
theorem j_reelBack_21 : (Rows.reelBackRow.ifacesOut == Tryz.f6.resultTypes.toList.any (Tryz.pinned.checked.prog.ifacesRec ·)) = true := by kernel_rfl
theorem j_reelBack_22 : (Rows.reelBackRow.loopsOut == Tryz.f6.resultTypes.toList.any (Tryz.pinned.checked.prog.loopsFrom ·)) = true := by kernel_rfl
theorem j_reelBack_23 : (Rows.reelBackRow.plainKeys == Tryz.pinned.checked.prog.plainKeys) = true := by kernel_rfl
theorem j_reelBack_24 : Rows.reelBackRow.shortTexts.isNone = true := by kernel_rfl
theorem j_reelBack_27 : (Rows.reelBackRow.lifted == Tryz.pinned.checked.prog.liftsFinal) = true := by kernel_rfl
theorem j_reelBack_28 : (Tryz.pinned.checked.prog.make == some Rows.reelBackRow.make) = true := by kernel_rfl
theorem j_reelBack_29 : (Rows.reelBackRow.kinds == (if Rows.reelBackRow.domain.isEmpty then [] else Tryz.f6.params.toList.map fun t => match Tryz.pinned.checked.prog.underlying t with | some (.int k) => some k | _ => none)) = true := by kernel_rfl
theorem j_reelBack_30 : (Rows.reelBackRow.pinned == Rows.reelBackRow.pinnedBy) = true := by kernel_rfl
theorem j_reelBack_31 : (Rows.reelBackRow.veiled == (Tryz.f6.params.toList ++ Rows.reelBackSpec.plain.varTypes Tryz.pinned.checked.prog ++ Tryz.f6.resultTypes.toList).any (Tryz.pinned.checked.prog.veiledRec ·)) = true := by kernel_rfl
theorem j_reelBack_32 : Rows.reelBackRow.veiledFits Tryz.pinned.checked.prog Tryz.f6.params.toList (Tryz.f6.params.toList ++ Rows.reelBackSpec.plain.varTypes Tryz.pinned.checked.prog ++ Tryz.f6.resultTypes.toList) = true := by kernel_rfl
theorem joined_reelBack : joinedFacts Tryz.pinned.checked.prog 6 Tryz.f6 Rows.reelBackSpec Rows.reelBackRow = true :=
  joined_of j_reelBack_1 laidOut jc_3 j_reelBack_4 j_reelBack_5 j_reelBack_6 jc_7 j_reelBack_8 jc_9 j_reelBack_10 j_reelBack_11 j_reelBack_12 j_reelBack_13 j_reelBack_14 j_reelBack_15 j_reelBack_16 j_reelBack_17 j_reelBack_18 j_reelBack_19 j_reelBack_20 j_reelBack_21 j_reelBack_22 j_reelBack_23 j_reelBack_24 jc_25 jc_26 j_reelBack_27 j_reelBack_28 j_reelBack_29 j_reelBack_30 j_reelBack_31 j_reelBack_32
end Go.Proofs.YtnnjcenoihdhfaaGreatDoor
