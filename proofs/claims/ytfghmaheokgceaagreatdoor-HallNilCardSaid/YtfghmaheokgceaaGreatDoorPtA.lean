/- A piece of the program's tie: closed facts. -/
import Derived.Test.YtfghmaheokgceaaGreatDoorPt0
import Derived.LaidByTextLater
import Derived.SevenTiedAt
namespace Go.Proofs.YtfghmaheokgceaaGreatDoor
open Go
theorem tie_w : Tryz.prog.worded (varsWordLater true) = true := by kernel_rfl
theorem tie_w' : Tryz.prog.worded (varsWordLater !true) = false := by kernel_rfl
theorem tie_root : Tryz.prog.worded rootWordLater = true := by kernel_rfl
theorem tie_k : laidT.map (fun x => Tryz.prog.kindOfLater x.1) = ([.data, .data, .data, .data, .data, .data, .data, .data, .data, .data] : List LaidKind).map some := by kernel_rfl
theorem tie_g : (Tryz.prog.funcNamed "gosem.cut.vars").isSome = true := by kernel_rfl
theorem tie_p : (laidT.all fun x => x.2.handleName?.isNone) = true := by kernel_rfl
end Go.Proofs.YtfghmaheokgceaaGreatDoor
