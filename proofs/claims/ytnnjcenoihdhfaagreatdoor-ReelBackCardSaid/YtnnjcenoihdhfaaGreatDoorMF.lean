/- A reel's codec: the document's Decode (printed by wip/tools/genqd.py: one script for each order that Go leaves open). -/
import Derived.Test.YtnnjcenoihdhfaaGreatDoorProg
import Derived.Test.YtnnjcenoihdhfaaGreatDoorMA
import Derived.KernelRfl
import Derived.Test.YtnnjcenoihdhfaaGreatDoorMD
import Derived.Test.YtnnjcenoihdhfaaGreatDoorME
section
set_option linter.unusedVariables false
set_option maxRecDepth 100000
namespace Go.Proofs.YtnnjcenoihdhfaaGreatDoor
open Go.Abs
/- tiltyard/tiltyardref27.Decode -/
def q_Decode_keep : List Bool := [true, false, true, true, true, true, true, true, true, false, false, false, false, false, false, false, false, false, false, false, false, false, false, false, false, false, false, false, false, false, false, false, false, false, false, false, false, false, false, false, false, false, false, false, false, false, false, false, false, false, false, false, false, false, false, false, false, false, false, false, false, false, false, false, false, false, false, false, false, false, false, false, false, false, false, false, false, false, false, false, false, false]
def q_Decode_mk (x0 x2 x3 x4 x5 x6 x7 x8 : Value) : List Value := [x0, unk, x2, x3, x4, x5, x6, x7, x8, unk, unk, unk, unk, unk, unk, unk, unk, unk, unk, unk, unk, unk, unk, unk, unk, unk, unk, unk, unk, unk, unk, unk, unk, unk, unk, unk, unk, unk, unk, unk, unk, unk, unk, unk, unk, unk, unk, unk, unk, unk, unk, unk, unk, unk, unk, unk, unk, unk, unk, unk, unk, unk, unk, unk, unk, unk, unk, unk, unk, unk, unk, unk, unk, unk, unk, unk, unk, unk, unk, unk, unk, unk]
def q_Decode_l0 (C : Oracle) (G : Prop → Prop) (n m0 : Nat) (x0 x2 x3 x4 x5 x6 x7 x8 : Value) (h : St) (K : Cont) : Prop := loopK Tryz.prog C G q_Decode_keep m0 (pathC [true, true, true, false, false, false] (bodyOf Tryz.f14)) (q_Decode_mk x0 x2 x3 x4 x5 x6 x7 x8) h (blockC 0 (seqC (fun t h => nextK G q_Decode_keep (pathC [true, true, true, false] (bodyOf Tryz.f14)) (fun t => codeK Tryz.prog C G q_Decode_keep (loopK Tryz.prog C G q_Decode_keep n) (pathC [true, true, true, true] (bodyOf Tryz.f14)) t h (funcC Tryz.prog (Tryz.f14).results.toList K)) t) (funcC Tryz.prog (Tryz.f14).results.toList K)))
def q_Decode_j1 (C : Oracle) (G : Prop → Prop) (n : Nat) (x0 x2 x3 x4 x5 x6 x7 x8 : Value) (h : St) (K : Cont) : Prop := codeK Tryz.prog C G q_Decode_keep (loopK Tryz.prog C G q_Decode_keep n) (pathC [true, true, true, true] (bodyOf Tryz.f14)) (q_Decode_mk x0 x2 x3 x4 x5 x6 x7 x8) h (funcC Tryz.prog (Tryz.f14).results.toList K)
def q_Decode_d0 (C : Oracle) (G : Prop → Prop) (n m0 : Nat) (t : List Value) (h : St) (K : Cont) : Prop := (seqC (fun t h => nextK G q_Decode_keep (pathC [true, true, true, false, false, false, true, false, true, true, true, false] (bodyOf Tryz.f14)) (fun t => codeK Tryz.prog C G q_Decode_keep (loopK Tryz.prog C G q_Decode_keep m0) (pathC [true, true, true, false, false, false, true, false, true, true, true, true] (bodyOf Tryz.f14)) t h (blockC 1 (loopC G q_Decode_keep (fun t h => loopK Tryz.prog C G q_Decode_keep m0 (pathC [true, true, true, false, false, false] (bodyOf Tryz.f14)) t h (blockC 0 (seqC (fun t h => nextK G q_Decode_keep (pathC [true, true, true, false] (bodyOf Tryz.f14)) (fun t => codeK Tryz.prog C G q_Decode_keep (loopK Tryz.prog C G q_Decode_keep n) (pathC [true, true, true, true] (bodyOf Tryz.f14)) t h (funcC Tryz.prog (Tryz.f14).results.toList K)) t) (funcC Tryz.prog (Tryz.f14).results.toList K)))) (blockC 0 (seqC (fun t h => nextK G q_Decode_keep (pathC [true, true, true, false] (bodyOf Tryz.f14)) (fun t => codeK Tryz.prog C G q_Decode_keep (loopK Tryz.prog C G q_Decode_keep n) (pathC [true, true, true, true] (bodyOf Tryz.f14)) t h (funcC Tryz.prog (Tryz.f14).results.toList K)) t) (funcC Tryz.prog (Tryz.f14).results.toList K)))))) t) (blockC 1 (loopC G q_Decode_keep (fun t h => loopK Tryz.prog C G q_Decode_keep m0 (pathC [true, true, true, false, false, false] (bodyOf Tryz.f14)) t h (blockC 0 (seqC (fun t h => nextK G q_Decode_keep (pathC [true, true, true, false] (bodyOf Tryz.f14)) (fun t => codeK Tryz.prog C G q_Decode_keep (loopK Tryz.prog C G q_Decode_keep n) (pathC [true, true, true, true] (bodyOf Tryz.f14)) t h (funcC Tryz.prog (Tryz.f14).results.toList K)) t) (funcC Tryz.prog (Tryz.f14).results.toList K)))) (blockC 0 (seqC (fun t h => nextK G q_Decode_keep (pathC [true, true, true, false] (bodyOf Tryz.f14)) (fun t => codeK Tryz.prog C G q_Decode_keep (loopK Tryz.prog C G q_Decode_keep n) (pathC [true, true, true, true] (bodyOf Tryz.f14)) t h (funcC Tryz.prog (Tryz.f14).results.toList K)) t) (funcC Tryz.prog (Tryz.f14).results.toList K)))))) .normal t h
theorem q_Decode_d0_ords : ordsOf Tryz.prog 8 (opsC (pathC [true, true, true, false, false, false, true, false, true, true, true, false] (bodyOf Tryz.f14))) (List.range (opsC (pathC [true, true, true, false, false, false, true, false, true, true, true, false] (bodyOf Tryz.f14))).size) = some [([0, 0, 3, 7, 15, 0, 0, 64, 0, 256, 992, 2016, 4064, 0, 0, 16384, 0, 65536, 253952, 520160, 1044448, 0, 0, 4194304, 0, 16777216, 0, 117440512, 266338304, 536866784, 1073741823, 1073737696, 4294967295], [0, 1, 2, 3, 4, 5, 6, 7, 8, 9, 10, 11, 12, 13, 14, 15, 16, 17, 18, 19, 20, 21, 22, 23, 24, 25, 26, 27, 28, 29, 30, 31, 32]), ([0, 0, 3, 7, 15, 0, 0, 64, 0, 256, 992, 2016, 4064, 0, 0, 16384, 0, 65536, 253952, 520160, 1044448, 0, 0, 4194304, 0, 16777216, 0, 117440512, 266338304, 2684350432, 3221225471, 2093024, 4294967295], [0, 1, 2, 3, 4, 5, 6, 7, 8, 9, 10, 11, 12, 13, 14, 15, 16, 17, 18, 19, 20, 21, 22, 23, 24, 25, 26, 27, 28, 31, 29, 30, 32]), ([0, 0, 3, 7, 15, 0, 0, 64, 0, 256, 992, 2016, 4064, 0, 0, 16384, 0, 65536, 253952, 520160, 2148528096, 0, 0, 4194304, 0, 16777216, 0, 117440512, 266338304, 2684350432, 3221225471, 1044448, 4294967295], [0, 1, 2, 3, 4, 5, 6, 7, 8, 9, 10, 11, 12, 13, 14, 15, 16, 17, 18, 19, 31, 20, 21, 22, 23, 24, 25, 26, 27, 28, 29, 30, 32]), ([0, 0, 3, 7, 15, 0, 0, 64, 0, 256, 992, 2016, 4064, 0, 0, 16384, 0, 65536, 253952, 2148003808, 2148528096, 0, 0, 4194304, 0, 16777216, 0, 117440512, 266338304, 2684350432, 3221225471, 4064, 4294967295], [0, 1, 2, 3, 4, 5, 6, 7, 8, 9, 10, 11, 12, 13, 14, 15, 16, 17, 18, 31, 19, 20, 21, 22, 23, 24, 25, 26, 27, 28, 29, 30, 32]), ([0, 0, 3, 7, 15, 0, 0, 64, 0, 256, 992, 2147485664, 2147487712, 0, 0, 16384, 0, 65536, 253952, 2148003808, 2148528096, 0, 0, 4194304, 0, 16777216, 0, 117440512, 266338304, 2684350432, 3221225471, 0, 4294967295], [0, 1, 2, 3, 4, 5, 6, 7, 8, 9, 10, 31, 11, 12, 13, 14, 15, 16, 17, 18, 19, 20, 21, 22, 23, 24, 25, 26, 27, 28, 29, 30, 32]), ([0, 0, 3, 7, 15, 0, 0, 64, 0, 256, 992, 2016, 4064, 0, 0, 16384, 0, 65536, 253952, 1568736, 4064, 0, 0, 4194304, 0, 16777216, 0, 117440512, 266338304, 536866784, 1073741823, 1073737696, 4294967295], [0, 1, 2, 3, 4, 5, 6, 7, 8, 9, 10, 11, 12, 13, 14, 15, 16, 17, 18, 20, 19, 21, 22, 23, 24, 25, 26, 27, 28, 29, 30, 31, 32]), ([0, 0, 3, 7, 15, 0, 0, 64, 0, 256, 992, 2016, 4064, 0, 0, 16384, 0, 65536, 253952, 1568736, 4064, 0, 0, 4194304, 0, 16777216, 0, 117440512, 266338304, 2684350432, 3221225471, 2093024, 4294967295], [0, 1, 2, 3, 4, 5, 6, 7, 8, 9, 10, 11, 12, 13, 14, 15, 16, 17, 18, 20, 19, 21, 22, 23, 24, 25, 26, 27, 28, 31, 29, 30, 32]), ([0, 0, 3, 7, 15, 0, 0, 64, 0, 256, 992, 2016, 4064, 0, 0, 16384, 0, 65536, 253952, 2149052384, 4064, 0, 0, 4194304, 0, 16777216, 0, 117440512, 266338304, 2684350432, 3221225471, 1052640, 4294967295], [0, 1, 2, 3, 4, 5, 6, 7, 8, 9, 10, 11, 12, 13, 14, 15, 16, 17, 18, 20, 31, 19, 21, 22, 23, 24, 25, 26, 27, 28, 29, 30, 32]), ([0, 0, 3, 7, 15, 0, 0, 64, 0, 256, 992, 2016, 4064, 0, 0, 16384, 0, 65536, 253952, 2149052384, 2147487712, 0, 0, 4194304, 0, 16777216, 0, 117440512, 266338304, 2684350432, 3221225471, 4064, 4294967295], [0, 1, 2, 3, 4, 5, 6, 7, 8, 9, 10, 11, 12, 13, 14, 15, 16, 17, 18, 31, 20, 19, 21, 22, 23, 24, 25, 26, 27, 28, 29, 30, 32]), ([0, 0, 3, 7, 15, 0, 0, 64, 0, 256, 992, 2147485664, 2147487712, 0, 0, 16384, 0, 65536, 253952, 2149052384, 2147487712, 0, 0, 4194304, 0, 16777216, 0, 117440512, 266338304, 2684350432, 3221225471, 0, 4294967295], [0, 1, 2, 3, 4, 5, 6, 7, 8, 9, 10, 31, 11, 12, 13, 14, 15, 16, 17, 18, 20, 19, 21, 22, 23, 24, 25, 26, 27, 28, 29, 30, 32]), ([0, 0, 3, 7, 15, 0, 0, 64, 0, 256, 992, 1050592, 1052640, 0, 0, 16384, 0, 65536, 253952, 1568736, 0, 0, 0, 4194304, 0, 16777216, 0, 117440512, 266338304, 536866784, 1073741823, 1073737696, 4294967295], [0, 1, 2, 3, 4, 5, 6, 7, 8, 9, 10, 20, 11, 12, 13, 14, 15, 16, 17, 18, 19, 21, 22, 23, 24, 25, 26, 27, 28, 29, 30, 31, 32]), ([0, 0, 3, 7, 15, 0, 0, 64, 0, 256, 992, 1050592, 1052640, 0, 0, 16384, 0, 65536, 253952, 1568736, 0, 0, 0, 4194304, 0, 16777216, 0, 117440512, 266338304, 2684350432, 3221225471, 2093024, 4294967295], [0, 1, 2, 3, 4, 5, 6, 7, 8, 9, 10, 20, 11, 12, 13, 14, 15, 16, 17, 18, 19, 21, 22, 23, 24, 25, 26, 27, 28, 31, 29, 30, 32]), ([0, 0, 3, 7, 15, 0, 0, 64, 0, 256, 992, 1050592, 1052640, 0, 0, 16384, 0, 65536, 253952, 2149052384, 0, 0, 0, 4194304, 0, 16777216, 0, 117440512, 266338304, 2684350432, 3221225471, 1052640, 4294967295], [0, 1, 2, 3, 4, 5, 6, 7, 8, 9, 10, 20, 11, 12, 13, 14, 15, 16, 17, 18, 31, 19, 21, 22, 23, 24, 25, 26, 27, 28, 29, 30, 32]), ([0, 0, 3, 7, 15, 0, 0, 64, 0, 256, 992, 2148534240, 2148536288, 0, 0, 16384, 0, 65536, 253952, 2149052384, 0, 0, 0, 4194304, 0, 16777216, 0, 117440512, 266338304, 2684350432, 3221225471, 1048576, 4294967295], [0, 1, 2, 3, 4, 5, 6, 7, 8, 9, 10, 20, 31, 11, 12, 13, 14, 15, 16, 17, 18, 19, 21, 22, 23, 24, 25, 26, 27, 28, 29, 30, 32]), ([0, 0, 3, 7, 15, 0, 0, 64, 0, 256, 992, 2148534240, 2148536288, 0, 0, 16384, 0, 65536, 253952, 2149052384, 2147483648, 0, 0, 4194304, 0, 16777216, 0, 117440512, 266338304, 2684350432, 3221225471, 0, 4294967295], [0, 1, 2, 3, 4, 5, 6, 7, 8, 9, 10, 31, 20, 11, 12, 13, 14, 15, 16, 17, 18, 19, 21, 22, 23, 24, 25, 26, 27, 28, 29, 30, 32])] := by kernel_rfl
theorem q_Decode_d0_open : anyOpen Tryz.prog (opsC (pathC [true, true, true, false, false, false, true, false, true, true, true, false] (bodyOf Tryz.f14))) = true := by kernel_rfl
theorem q_Decode_d0_o0 (C : Oracle) (y0 y1 y2 y3 y4 y5 y6 y7 y8 y9 y10 y11 y12 y13 y14 y15 y16 y17 y18 y19 y20 y21 y22 y23 y24 y25 y26 y27 y28 y29 y30 y31 y32 y33 y34 y35 y36 y37 y38 y39 y40 y41 y42 y43 y44 y45 y46 y47 y48 y49 y50 y51 y52 y53 y54 y55 y56 y57 y58 y59 y60 y61 y62 y63 y64 y65 y66 y67 y68 y69 y70 y71 y72 y73 y74 y75 y76 y77 y78 y79 y80 y81 : Value) (h : St) (K : List Value → St → Prop) : runO Tryz.prog C (opsC (pathC [true, true, true, false, false, false, true, false, true, true, true, false] (bodyOf Tryz.f14))) [0, 0, 3, 7, 15, 0, 0, 64, 0, 256, 992, 2016, 4064, 0, 0, 16384, 0, 65536, 253952, 520160, 1044448, 0, 0, 4194304, 0, 16777216, 0, 117440512, 266338304, 536866784, 1073741823, 1073737696, 4294967295] [0, 1, 2, 3, 4, 5, 6, 7, 8, 9, 10, 11, 12, 13, 14, 15, 16, 17, 18, 19, 20, 21, 22, 23, 24, 25, 26, 27, 28, 29, 30, 31, 32] [y0, y1, y2, y3, y4, y5, y6, y7, y8, y9, y10, y11, y12, y13, y14, y15, y16, y17, y18, y19, y20, y21, y22, y23, y24, y25, y26, y27, y28, y29, y30, y31, y32, y33, y34, y35, y36, y37, y38, y39, y40, y41, y42, y43, y44, y45, y46, y47, y48, y49, y50, y51, y52, y53, y54, y55, y56, y57, y58, y59, y60, y61, y62, y63, y64, y65, y66, y67, y68, y69, y70, y71, y72, y73, y74, y75, y76, y77, y78, y79, y80, y81] h [] [] K = (bindV (idxS 1 y0 y6) fun v39 => bindV (loadV false 1 v39 h) fun v40 => (True) ∧ bindV (wrapV .i64 v40) fun v41 => bindV (binNil .add .other y6 (.int .i64 1)) fun v44 => bindV (binNil .add .other y6 (.int .i64 5)) fun v46 => bindV (cutS 1 y0 (some v44) (some v46)) fun v47 => C 24 [v47] h fun v48 h2 => ((loadV false 1 v39 h2 = some v40) ∧ True) ∧ bindV (wrapV .u32 v48) fun v49 => bindV (binNil .add .other y6 (.int .i64 5)) fun v52 => bindV (binNil .add .other y6 (.int .i64 13)) fun v54 => bindV (cutS 1 y0 (some v52) (some v54)) fun v55 => C 24 [v55] h2 fun v56 h3 => ((loadV false 1 v39 h3 = some v40) ∧ True) ∧ buildSliceE 1 0 [.int .u8 0] [] h3 fun v57 h4 => ((loadV false 1 v39 h4 = some v40) ∧ True) ∧ bindV (binNil .add .other y6 (.int .i64 15)) fun v60 => bindV (binNil .add .other y6 (.int .i64 15)) fun v62 => bindV (binV .add .other v62 y7) fun v64 => bindV (cutS 1 y0 (some v60) (some v64)) fun v65 => appendE 1 1 v57 v65 h4 fun v66 h5 => ((loadV false 1 v39 h5 = some v40) ∧ True) ∧ bindV (buildV [.int .i64 0, .int .u32 0, .int .u64 0, .slice none 0 0] (some [(0, 1, v41), (1, 1, v49), (2, 1, v56), (3, 1, v66)])) fun v67 => allocE (some [.int .i64 0, .int .u32 0, .int .u64 0, .slice none 0 0]) h5 fun v8 h6 => ((loadV false 1 v39 h6 = some v40) ∧ True) ∧ storeE 4 v8 v67 h6 fun _ h8 => (True ∧ True) ∧ K [y0, y1, y2, y3, y4, y5, y6, y7, v8, y9, y10, y11, y12, y13, y14, y15, y16, y17, y18, y19, y20, y21, y22, y23, y24, y25, y26, y27, y28, y29, y30, y31, y32, y33, y34, y35, y36, y0, y6, v39, v40, v41, y0, y6, v44, y6, v46, v47, v48, v49, y0, y6, v52, y6, v54, v55, v56, v57, y0, y6, v60, y6, v62, y7, v64, v65, v66, v67, y68, y69, y70, y71, y72, y73, y74, y75, y76, y77, y78, y79, y80, y81] h8) := by kernel_rfl
theorem q_Decode_d0_o1 (C : Oracle) (y0 y1 y2 y3 y4 y5 y6 y7 y8 y9 y10 y11 y12 y13 y14 y15 y16 y17 y18 y19 y20 y21 y22 y23 y24 y25 y26 y27 y28 y29 y30 y31 y32 y33 y34 y35 y36 y37 y38 y39 y40 y41 y42 y43 y44 y45 y46 y47 y48 y49 y50 y51 y52 y53 y54 y55 y56 y57 y58 y59 y60 y61 y62 y63 y64 y65 y66 y67 y68 y69 y70 y71 y72 y73 y74 y75 y76 y77 y78 y79 y80 y81 : Value) (h : St) (K : List Value → St → Prop) : runO Tryz.prog C (opsC (pathC [true, true, true, false, false, false, true, false, true, true, true, false] (bodyOf Tryz.f14))) [0, 0, 3, 7, 15, 0, 0, 64, 0, 256, 992, 2016, 4064, 0, 0, 16384, 0, 65536, 253952, 520160, 1044448, 0, 0, 4194304, 0, 16777216, 0, 117440512, 266338304, 2684350432, 3221225471, 2093024, 4294967295] [0, 1, 2, 3, 4, 5, 6, 7, 8, 9, 10, 11, 12, 13, 14, 15, 16, 17, 18, 19, 20, 21, 22, 23, 24, 25, 26, 27, 28, 31, 29, 30, 32] [y0, y1, y2, y3, y4, y5, y6, y7, y8, y9, y10, y11, y12, y13, y14, y15, y16, y17, y18, y19, y20, y21, y22, y23, y24, y25, y26, y27, y28, y29, y30, y31, y32, y33, y34, y35, y36, y37, y38, y39, y40, y41, y42, y43, y44, y45, y46, y47, y48, y49, y50, y51, y52, y53, y54, y55, y56, y57, y58, y59, y60, y61, y62, y63, y64, y65, y66, y67, y68, y69, y70, y71, y72, y73, y74, y75, y76, y77, y78, y79, y80, y81] h [] [] K = (bindV (idxS 1 y0 y6) fun v39 => bindV (loadV false 1 v39 h) fun v40 => (True) ∧ bindV (wrapV .i64 v40) fun v41 => bindV (binNil .add .other y6 (.int .i64 1)) fun v44 => bindV (binNil .add .other y6 (.int .i64 5)) fun v46 => bindV (cutS 1 y0 (some v44) (some v46)) fun v47 => C 24 [v47] h fun v48 h9 => ((loadV false 1 v39 h9 = some v40) ∧ True) ∧ bindV (wrapV .u32 v48) fun v49 => bindV (binNil .add .other y6 (.int .i64 5)) fun v52 => bindV (binNil .add .other y6 (.int .i64 13)) fun v54 => bindV (cutS 1 y0 (some v52) (some v54)) fun v55 => C 24 [v55] h9 fun v56 h10 => ((loadV false 1 v39 h10 = some v40) ∧ True) ∧ buildSliceE 1 0 [.int .u8 0] [] h10 fun v57 h11 => ((loadV false 1 v39 h11 = some v40) ∧ True) ∧ bindV (binNil .add .other y6 (.int .i64 15)) fun v60 => bindV (binNil .add .other y6 (.int .i64 15)) fun v62 => bindV (binV .add .other v62 y7) fun v64 => bindV (cutS 1 y0 (some v60) (some v64)) fun v65 => allocE (some [.int .i64 0, .int .u32 0, .int .u64 0, .slice none 0 0]) h11 fun v8 h12 => ((loadV false 1 v39 h12 = some v40) ∧ True) ∧ appendE 1 1 v57 v65 h12 fun v66 h13 => ((loadV false 1 v39 h13 = some v40) ∧ True) ∧ bindV (buildV [.int .i64 0, .int .u32 0, .int .u64 0, .slice none 0 0] (some [(0, 1, v41), (1, 1, v49), (2, 1, v56), (3, 1, v66)])) fun v67 => storeE 4 v8 v67 h13 fun _ h15 => (True ∧ True) ∧ K [y0, y1, y2, y3, y4, y5, y6, y7, v8, y9, y10, y11, y12, y13, y14, y15, y16, y17, y18, y19, y20, y21, y22, y23, y24, y25, y26, y27, y28, y29, y30, y31, y32, y33, y34, y35, y36, y0, y6, v39, v40, v41, y0, y6, v44, y6, v46, v47, v48, v49, y0, y6, v52, y6, v54, v55, v56, v57, y0, y6, v60, y6, v62, y7, v64, v65, v66, v67, y68, y69, y70, y71, y72, y73, y74, y75, y76, y77, y78, y79, y80, y81] h15) := by kernel_rfl
theorem q_Decode_d0_o2 (C : Oracle) (y0 y1 y2 y3 y4 y5 y6 y7 y8 y9 y10 y11 y12 y13 y14 y15 y16 y17 y18 y19 y20 y21 y22 y23 y24 y25 y26 y27 y28 y29 y30 y31 y32 y33 y34 y35 y36 y37 y38 y39 y40 y41 y42 y43 y44 y45 y46 y47 y48 y49 y50 y51 y52 y53 y54 y55 y56 y57 y58 y59 y60 y61 y62 y63 y64 y65 y66 y67 y68 y69 y70 y71 y72 y73 y74 y75 y76 y77 y78 y79 y80 y81 : Value) (h : St) (K : List Value → St → Prop) : runO Tryz.prog C (opsC (pathC [true, true, true, false, false, false, true, false, true, true, true, false] (bodyOf Tryz.f14))) [0, 0, 3, 7, 15, 0, 0, 64, 0, 256, 992, 2016, 4064, 0, 0, 16384, 0, 65536, 253952, 520160, 2148528096, 0, 0, 4194304, 0, 16777216, 0, 117440512, 266338304, 2684350432, 3221225471, 1044448, 4294967295] [0, 1, 2, 3, 4, 5, 6, 7, 8, 9, 10, 11, 12, 13, 14, 15, 16, 17, 18, 19, 31, 20, 21, 22, 23, 24, 25, 26, 27, 28, 29, 30, 32] [y0, y1, y2, y3, y4, y5, y6, y7, y8, y9, y10, y11, y12, y13, y14, y15, y16, y17, y18, y19, y20, y21, y22, y23, y24, y25, y26, y27, y28, y29, y30, y31, y32, y33, y34, y35, y36, y37, y38, y39, y40, y41, y42, y43, y44, y45, y46, y47, y48, y49, y50, y51, y52, y53, y54, y55, y56, y57, y58, y59, y60, y61, y62, y63, y64, y65, y66, y67, y68, y69, y70, y71, y72, y73, y74, y75, y76, y77, y78, y79, y80, y81] h [] [] K = (bindV (idxS 1 y0 y6) fun v39 => bindV (loadV false 1 v39 h) fun v40 => (True) ∧ bindV (wrapV .i64 v40) fun v41 => bindV (binNil .add .other y6 (.int .i64 1)) fun v44 => bindV (binNil .add .other y6 (.int .i64 5)) fun v46 => bindV (cutS 1 y0 (some v44) (some v46)) fun v47 => C 24 [v47] h fun v48 h16 => ((loadV false 1 v39 h16 = some v40) ∧ True) ∧ bindV (wrapV .u32 v48) fun v49 => bindV (binNil .add .other y6 (.int .i64 5)) fun v52 => bindV (binNil .add .other y6 (.int .i64 13)) fun v54 => bindV (cutS 1 y0 (some v52) (some v54)) fun v55 => C 24 [v55] h16 fun v56 h17 => ((loadV false 1 v39 h17 = some v40) ∧ True) ∧ allocE (some [.int .i64 0, .int .u32 0, .int .u64 0, .slice none 0 0]) h17 fun v8 h18 => ((loadV false 1 v39 h18 = some v40) ∧ True) ∧ buildSliceE 1 0 [.int .u8 0] [] h18 fun v57 h19 => ((loadV false 1 v39 h19 = some v40) ∧ True) ∧ bindV (binNil .add .other y6 (.int .i64 15)) fun v60 => bindV (binNil .add .other y6 (.int .i64 15)) fun v62 => bindV (binV .add .other v62 y7) fun v64 => bindV (cutS 1 y0 (some v60) (some v64)) fun v65 => appendE 1 1 v57 v65 h19 fun v66 h20 => ((loadV false 1 v39 h20 = some v40) ∧ True) ∧ bindV (buildV [.int .i64 0, .int .u32 0, .int .u64 0, .slice none 0 0] (some [(0, 1, v41), (1, 1, v49), (2, 1, v56), (3, 1, v66)])) fun v67 => storeE 4 v8 v67 h20 fun _ h22 => (True ∧ True) ∧ K [y0, y1, y2, y3, y4, y5, y6, y7, v8, y9, y10, y11, y12, y13, y14, y15, y16, y17, y18, y19, y20, y21, y22, y23, y24, y25, y26, y27, y28, y29, y30, y31, y32, y33, y34, y35, y36, y0, y6, v39, v40, v41, y0, y6, v44, y6, v46, v47, v48, v49, y0, y6, v52, y6, v54, v55, v56, v57, y0, y6, v60, y6, v62, y7, v64, v65, v66, v67, y68, y69, y70, y71, y72, y73, y74, y75, y76, y77, y78, y79, y80, y81] h22) := by kernel_rfl
theorem q_Decode_d0_o3 (C : Oracle) (y0 y1 y2 y3 y4 y5 y6 y7 y8 y9 y10 y11 y12 y13 y14 y15 y16 y17 y18 y19 y20 y21 y22 y23 y24 y25 y26 y27 y28 y29 y30 y31 y32 y33 y34 y35 y36 y37 y38 y39 y40 y41 y42 y43 y44 y45 y46 y47 y48 y49 y50 y51 y52 y53 y54 y55 y56 y57 y58 y59 y60 y61 y62 y63 y64 y65 y66 y67 y68 y69 y70 y71 y72 y73 y74 y75 y76 y77 y78 y79 y80 y81 : Value) (h : St) (K : List Value → St → Prop) : runO Tryz.prog C (opsC (pathC [true, true, true, false, false, false, true, false, true, true, true, false] (bodyOf Tryz.f14))) [0, 0, 3, 7, 15, 0, 0, 64, 0, 256, 992, 2016, 4064, 0, 0, 16384, 0, 65536, 253952, 2148003808, 2148528096, 0, 0, 4194304, 0, 16777216, 0, 117440512, 266338304, 2684350432, 3221225471, 4064, 4294967295] [0, 1, 2, 3, 4, 5, 6, 7, 8, 9, 10, 11, 12, 13, 14, 15, 16, 17, 18, 31, 19, 20, 21, 22, 23, 24, 25, 26, 27, 28, 29, 30, 32] [y0, y1, y2, y3, y4, y5, y6, y7, y8, y9, y10, y11, y12, y13, y14, y15, y16, y17, y18, y19, y20, y21, y22, y23, y24, y25, y26, y27, y28, y29, y30, y31, y32, y33, y34, y35, y36, y37, y38, y39, y40, y41, y42, y43, y44, y45, y46, y47, y48, y49, y50, y51, y52, y53, y54, y55, y56, y57, y58, y59, y60, y61, y62, y63, y64, y65, y66, y67, y68, y69, y70, y71, y72, y73, y74, y75, y76, y77, y78, y79, y80, y81] h [] [] K = (bindV (idxS 1 y0 y6) fun v39 => bindV (loadV false 1 v39 h) fun v40 => (True) ∧ bindV (wrapV .i64 v40) fun v41 => bindV (binNil .add .other y6 (.int .i64 1)) fun v44 => bindV (binNil .add .other y6 (.int .i64 5)) fun v46 => bindV (cutS 1 y0 (some v44) (some v46)) fun v47 => C 24 [v47] h fun v48 h23 => ((loadV false 1 v39 h23 = some v40) ∧ True) ∧ bindV (wrapV .u32 v48) fun v49 => bindV (binNil .add .other y6 (.int .i64 5)) fun v52 => bindV (binNil .add .other y6 (.int .i64 13)) fun v54 => bindV (cutS 1 y0 (some v52) (some v54)) fun v55 => allocE (some [.int .i64 0, .int .u32 0, .int .u64 0, .slice none 0 0]) h23 fun v8 h24 => ((loadV false 1 v39 h24 = some v40) ∧ True) ∧ C 24 [v55] h24 fun v56 h25 => ((loadV false 1 v39 h25 = some v40) ∧ True) ∧ buildSliceE 1 0 [.int .u8 0] [] h25 fun v57 h26 => ((loadV false 1 v39 h26 = some v40) ∧ True) ∧ bindV (binNil .add .other y6 (.int .i64 15)) fun v60 => bindV (binNil .add .other y6 (.int .i64 15)) fun v62 => bindV (binV .add .other v62 y7) fun v64 => bindV (cutS 1 y0 (some v60) (some v64)) fun v65 => appendE 1 1 v57 v65 h26 fun v66 h27 => ((loadV false 1 v39 h27 = some v40) ∧ True) ∧ bindV (buildV [.int .i64 0, .int .u32 0, .int .u64 0, .slice none 0 0] (some [(0, 1, v41), (1, 1, v49), (2, 1, v56), (3, 1, v66)])) fun v67 => storeE 4 v8 v67 h27 fun _ h29 => (True ∧ True) ∧ K [y0, y1, y2, y3, y4, y5, y6, y7, v8, y9, y10, y11, y12, y13, y14, y15, y16, y17, y18, y19, y20, y21, y22, y23, y24, y25, y26, y27, y28, y29, y30, y31, y32, y33, y34, y35, y36, y0, y6, v39, v40, v41, y0, y6, v44, y6, v46, v47, v48, v49, y0, y6, v52, y6, v54, v55, v56, v57, y0, y6, v60, y6, v62, y7, v64, v65, v66, v67, y68, y69, y70, y71, y72, y73, y74, y75, y76, y77, y78, y79, y80, y81] h29) := by kernel_rfl
theorem q_Decode_d0_o4 (C : Oracle) (y0 y1 y2 y3 y4 y5 y6 y7 y8 y9 y10 y11 y12 y13 y14 y15 y16 y17 y18 y19 y20 y21 y22 y23 y24 y25 y26 y27 y28 y29 y30 y31 y32 y33 y34 y35 y36 y37 y38 y39 y40 y41 y42 y43 y44 y45 y46 y47 y48 y49 y50 y51 y52 y53 y54 y55 y56 y57 y58 y59 y60 y61 y62 y63 y64 y65 y66 y67 y68 y69 y70 y71 y72 y73 y74 y75 y76 y77 y78 y79 y80 y81 : Value) (h : St) (K : List Value → St → Prop) : runO Tryz.prog C (opsC (pathC [true, true, true, false, false, false, true, false, true, true, true, false] (bodyOf Tryz.f14))) [0, 0, 3, 7, 15, 0, 0, 64, 0, 256, 992, 2147485664, 2147487712, 0, 0, 16384, 0, 65536, 253952, 2148003808, 2148528096, 0, 0, 4194304, 0, 16777216, 0, 117440512, 266338304, 2684350432, 3221225471, 0, 4294967295] [0, 1, 2, 3, 4, 5, 6, 7, 8, 9, 10, 31, 11, 12, 13, 14, 15, 16, 17, 18, 19, 20, 21, 22, 23, 24, 25, 26, 27, 28, 29, 30, 32] [y0, y1, y2, y3, y4, y5, y6, y7, y8, y9, y10, y11, y12, y13, y14, y15, y16, y17, y18, y19, y20, y21, y22, y23, y24, y25, y26, y27, y28, y29, y30, y31, y32, y33, y34, y35, y36, y37, y38, y39, y40, y41, y42, y43, y44, y45, y46, y47, y48, y49, y50, y51, y52, y53, y54, y55, y56, y57, y58, y59, y60, y61, y62, y63, y64, y65, y66, y67, y68, y69, y70, y71, y72, y73, y74, y75, y76, y77, y78, y79, y80, y81] h [] [] K = (bindV (idxS 1 y0 y6) fun v39 => bindV (loadV false 1 v39 h) fun v40 => (True) ∧ bindV (wrapV .i64 v40) fun v41 => bindV (binNil .add .other y6 (.int .i64 1)) fun v44 => bindV (binNil .add .other y6 (.int .i64 5)) fun v46 => bindV (cutS 1 y0 (some v44) (some v46)) fun v47 => allocE (some [.int .i64 0, .int .u32 0, .int .u64 0, .slice none 0 0]) h fun v8 h30 => ((loadV false 1 v39 h30 = some v40) ∧ True) ∧ C 24 [v47] h30 fun v48 h31 => ((loadV false 1 v39 h31 = some v40) ∧ True) ∧ bindV (wrapV .u32 v48) fun v49 => bindV (binNil .add .other y6 (.int .i64 5)) fun v52 => bindV (binNil .add .other y6 (.int .i64 13)) fun v54 => bindV (cutS 1 y0 (some v52) (some v54)) fun v55 => C 24 [v55] h31 fun v56 h32 => ((loadV false 1 v39 h32 = some v40) ∧ True) ∧ buildSliceE 1 0 [.int .u8 0] [] h32 fun v57 h33 => ((loadV false 1 v39 h33 = some v40) ∧ True) ∧ bindV (binNil .add .other y6 (.int .i64 15)) fun v60 => bindV (binNil .add .other y6 (.int .i64 15)) fun v62 => bindV (binV .add .other v62 y7) fun v64 => bindV (cutS 1 y0 (some v60) (some v64)) fun v65 => appendE 1 1 v57 v65 h33 fun v66 h34 => ((loadV false 1 v39 h34 = some v40) ∧ True) ∧ bindV (buildV [.int .i64 0, .int .u32 0, .int .u64 0, .slice none 0 0] (some [(0, 1, v41), (1, 1, v49), (2, 1, v56), (3, 1, v66)])) fun v67 => storeE 4 v8 v67 h34 fun _ h36 => (True ∧ True) ∧ K [y0, y1, y2, y3, y4, y5, y6, y7, v8, y9, y10, y11, y12, y13, y14, y15, y16, y17, y18, y19, y20, y21, y22, y23, y24, y25, y26, y27, y28, y29, y30, y31, y32, y33, y34, y35, y36, y0, y6, v39, v40, v41, y0, y6, v44, y6, v46, v47, v48, v49, y0, y6, v52, y6, v54, v55, v56, v57, y0, y6, v60, y6, v62, y7, v64, v65, v66, v67, y68, y69, y70, y71, y72, y73, y74, y75, y76, y77, y78, y79, y80, y81] h36) := by kernel_rfl
theorem q_Decode_d0_o5 (C : Oracle) (y0 y1 y2 y3 y4 y5 y6 y7 y8 y9 y10 y11 y12 y13 y14 y15 y16 y17 y18 y19 y20 y21 y22 y23 y24 y25 y26 y27 y28 y29 y30 y31 y32 y33 y34 y35 y36 y37 y38 y39 y40 y41 y42 y43 y44 y45 y46 y47 y48 y49 y50 y51 y52 y53 y54 y55 y56 y57 y58 y59 y60 y61 y62 y63 y64 y65 y66 y67 y68 y69 y70 y71 y72 y73 y74 y75 y76 y77 y78 y79 y80 y81 : Value) (h : St) (K : List Value → St → Prop) : runO Tryz.prog C (opsC (pathC [true, true, true, false, false, false, true, false, true, true, true, false] (bodyOf Tryz.f14))) [0, 0, 3, 7, 15, 0, 0, 64, 0, 256, 992, 2016, 4064, 0, 0, 16384, 0, 65536, 253952, 1568736, 4064, 0, 0, 4194304, 0, 16777216, 0, 117440512, 266338304, 536866784, 1073741823, 1073737696, 4294967295] [0, 1, 2, 3, 4, 5, 6, 7, 8, 9, 10, 11, 12, 13, 14, 15, 16, 17, 18, 20, 19, 21, 22, 23, 24, 25, 26, 27, 28, 29, 30, 31, 32] [y0, y1, y2, y3, y4, y5, y6, y7, y8, y9, y10, y11, y12, y13, y14, y15, y16, y17, y18, y19, y20, y21, y22, y23, y24, y25, y26, y27, y28, y29, y30, y31, y32, y33, y34, y35, y36, y37, y38, y39, y40, y41, y42, y43, y44, y45, y46, y47, y48, y49, y50, y51, y52, y53, y54, y55, y56, y57, y58, y59, y60, y61, y62, y63, y64, y65, y66, y67, y68, y69, y70, y71, y72, y73, y74, y75, y76, y77, y78, y79, y80, y81] h [] [] K = (bindV (idxS 1 y0 y6) fun v39 => bindV (loadV false 1 v39 h) fun v40 => (True) ∧ bindV (wrapV .i64 v40) fun v41 => bindV (binNil .add .other y6 (.int .i64 1)) fun v44 => bindV (binNil .add .other y6 (.int .i64 5)) fun v46 => bindV (cutS 1 y0 (some v44) (some v46)) fun v47 => C 24 [v47] h fun v48 h37 => ((loadV false 1 v39 h37 = some v40) ∧ True) ∧ bindV (wrapV .u32 v48) fun v49 => bindV (binNil .add .other y6 (.int .i64 5)) fun v52 => bindV (binNil .add .other y6 (.int .i64 13)) fun v54 => bindV (cutS 1 y0 (some v52) (some v54)) fun v55 => buildSliceE 1 0 [.int .u8 0] [] h37 fun v57 h38 => ((loadV false 1 v39 h38 = some v40) ∧ True) ∧ C 24 [v55] h38 fun v56 h39 => ((loadV false 1 v39 h39 = some v40) ∧ True) ∧ bindV (binNil .add .other y6 (.int .i64 15)) fun v60 => bindV (binNil .add .other y6 (.int .i64 15)) fun v62 => bindV (binV .add .other v62 y7) fun v64 => bindV (cutS 1 y0 (some v60) (some v64)) fun v65 => appendE 1 1 v57 v65 h39 fun v66 h40 => ((loadV false 1 v39 h40 = some v40) ∧ True) ∧ bindV (buildV [.int .i64 0, .int .u32 0, .int .u64 0, .slice none 0 0] (some [(0, 1, v41), (1, 1, v49), (2, 1, v56), (3, 1, v66)])) fun v67 => allocE (some [.int .i64 0, .int .u32 0, .int .u64 0, .slice none 0 0]) h40 fun v8 h41 => ((loadV false 1 v39 h41 = some v40) ∧ True) ∧ storeE 4 v8 v67 h41 fun _ h43 => (True ∧ True) ∧ K [y0, y1, y2, y3, y4, y5, y6, y7, v8, y9, y10, y11, y12, y13, y14, y15, y16, y17, y18, y19, y20, y21, y22, y23, y24, y25, y26, y27, y28, y29, y30, y31, y32, y33, y34, y35, y36, y0, y6, v39, v40, v41, y0, y6, v44, y6, v46, v47, v48, v49, y0, y6, v52, y6, v54, v55, v56, v57, y0, y6, v60, y6, v62, y7, v64, v65, v66, v67, y68, y69, y70, y71, y72, y73, y74, y75, y76, y77, y78, y79, y80, y81] h43) := by kernel_rfl
theorem q_Decode_d0_o6 (C : Oracle) (y0 y1 y2 y3 y4 y5 y6 y7 y8 y9 y10 y11 y12 y13 y14 y15 y16 y17 y18 y19 y20 y21 y22 y23 y24 y25 y26 y27 y28 y29 y30 y31 y32 y33 y34 y35 y36 y37 y38 y39 y40 y41 y42 y43 y44 y45 y46 y47 y48 y49 y50 y51 y52 y53 y54 y55 y56 y57 y58 y59 y60 y61 y62 y63 y64 y65 y66 y67 y68 y69 y70 y71 y72 y73 y74 y75 y76 y77 y78 y79 y80 y81 : Value) (h : St) (K : List Value → St → Prop) : runO Tryz.prog C (opsC (pathC [true, true, true, false, false, false, true, false, true, true, true, false] (bodyOf Tryz.f14))) [0, 0, 3, 7, 15, 0, 0, 64, 0, 256, 992, 2016, 4064, 0, 0, 16384, 0, 65536, 253952, 1568736, 4064, 0, 0, 4194304, 0, 16777216, 0, 117440512, 266338304, 2684350432, 3221225471, 2093024, 4294967295] [0, 1, 2, 3, 4, 5, 6, 7, 8, 9, 10, 11, 12, 13, 14, 15, 16, 17, 18, 20, 19, 21, 22, 23, 24, 25, 26, 27, 28, 31, 29, 30, 32] [y0, y1, y2, y3, y4, y5, y6, y7, y8, y9, y10, y11, y12, y13, y14, y15, y16, y17, y18, y19, y20, y21, y22, y23, y24, y25, y26, y27, y28, y29, y30, y31, y32, y33, y34, y35, y36, y37, y38, y39, y40, y41, y42, y43, y44, y45, y46, y47, y48, y49, y50, y51, y52, y53, y54, y55, y56, y57, y58, y59, y60, y61, y62, y63, y64, y65, y66, y67, y68, y69, y70, y71, y72, y73, y74, y75, y76, y77, y78, y79, y80, y81] h [] [] K = (bindV (idxS 1 y0 y6) fun v39 => bindV (loadV false 1 v39 h) fun v40 => (True) ∧ bindV (wrapV .i64 v40) fun v41 => bindV (binNil .add .other y6 (.int .i64 1)) fun v44 => bindV (binNil .add .other y6 (.int .i64 5)) fun v46 => bindV (cutS 1 y0 (some v44) (some v46)) fun v47 => C 24 [v47] h fun v48 h44 => ((loadV false 1 v39 h44 = some v40) ∧ True) ∧ bindV (wrapV .u32 v48) fun v49 => bindV (binNil .add .other y6 (.int .i64 5)) fun v52 => bindV (binNil .add .other y6 (.int .i64 13)) fun v54 => bindV (cutS 1 y0 (some v52) (some v54)) fun v55 => buildSliceE 1 0 [.int .u8 0] [] h44 fun v57 h45 => ((loadV false 1 v39 h45 = some v40) ∧ True) ∧ C 24 [v55] h45 fun v56 h46 => ((loadV false 1 v39 h46 = some v40) ∧ True) ∧ bindV (binNil .add .other y6 (.int .i64 15)) fun v60 => bindV (binNil .add .other y6 (.int .i64 15)) fun v62 => bindV (binV .add .other v62 y7) fun v64 => bindV (cutS 1 y0 (some v60) (some v64)) fun v65 => allocE (some [.int .i64 0, .int .u32 0, .int .u64 0, .slice none 0 0]) h46 fun v8 h47 => ((loadV false 1 v39 h47 = some v40) ∧ True) ∧ appendE 1 1 v57 v65 h47 fun v66 h48 => ((loadV false 1 v39 h48 = some v40) ∧ True) ∧ bindV (buildV [.int .i64 0, .int .u32 0, .int .u64 0, .slice none 0 0] (some [(0, 1, v41), (1, 1, v49), (2, 1, v56), (3, 1, v66)])) fun v67 => storeE 4 v8 v67 h48 fun _ h50 => (True ∧ True) ∧ K [y0, y1, y2, y3, y4, y5, y6, y7, v8, y9, y10, y11, y12, y13, y14, y15, y16, y17, y18, y19, y20, y21, y22, y23, y24, y25, y26, y27, y28, y29, y30, y31, y32, y33, y34, y35, y36, y0, y6, v39, v40, v41, y0, y6, v44, y6, v46, v47, v48, v49, y0, y6, v52, y6, v54, v55, v56, v57, y0, y6, v60, y6, v62, y7, v64, v65, v66, v67, y68, y69, y70, y71, y72, y73, y74, y75, y76, y77, y78, y79, y80, y81] h50) := by kernel_rfl
theorem q_Decode_d0_o7 (C : Oracle) (y0 y1 y2 y3 y4 y5 y6 y7 y8 y9 y10 y11 y12 y13 y14 y15 y16 y17 y18 y19 y20 y21 y22 y23 y24 y25 y26 y27 y28 y29 y30 y31 y32 y33 y34 y35 y36 y37 y38 y39 y40 y41 y42 y43 y44 y45 y46 y47 y48 y49 y50 y51 y52 y53 y54 y55 y56 y57 y58 y59 y60 y61 y62 y63 y64 y65 y66 y67 y68 y69 y70 y71 y72 y73 y74 y75 y76 y77 y78 y79 y80 y81 : Value) (h : St) (K : List Value → St → Prop) : runO Tryz.prog C (opsC (pathC [true, true, true, false, false, false, true, false, true, true, true, false] (bodyOf Tryz.f14))) [0, 0, 3, 7, 15, 0, 0, 64, 0, 256, 992, 2016, 4064, 0, 0, 16384, 0, 65536, 253952, 2149052384, 4064, 0, 0, 4194304, 0, 16777216, 0, 117440512, 266338304, 2684350432, 3221225471, 1052640, 4294967295] [0, 1, 2, 3, 4, 5, 6, 7, 8, 9, 10, 11, 12, 13, 14, 15, 16, 17, 18, 20, 31, 19, 21, 22, 23, 24, 25, 26, 27, 28, 29, 30, 32] [y0, y1, y2, y3, y4, y5, y6, y7, y8, y9, y10, y11, y12, y13, y14, y15, y16, y17, y18, y19, y20, y21, y22, y23, y24, y25, y26, y27, y28, y29, y30, y31, y32, y33, y34, y35, y36, y37, y38, y39, y40, y41, y42, y43, y44, y45, y46, y47, y48, y49, y50, y51, y52, y53, y54, y55, y56, y57, y58, y59, y60, y61, y62, y63, y64, y65, y66, y67, y68, y69, y70, y71, y72, y73, y74, y75, y76, y77, y78, y79, y80, y81] h [] [] K = (bindV (idxS 1 y0 y6) fun v39 => bindV (loadV false 1 v39 h) fun v40 => (True) ∧ bindV (wrapV .i64 v40) fun v41 => bindV (binNil .add .other y6 (.int .i64 1)) fun v44 => bindV (binNil .add .other y6 (.int .i64 5)) fun v46 => bindV (cutS 1 y0 (some v44) (some v46)) fun v47 => C 24 [v47] h fun v48 h51 => ((loadV false 1 v39 h51 = some v40) ∧ True) ∧ bindV (wrapV .u32 v48) fun v49 => bindV (binNil .add .other y6 (.int .i64 5)) fun v52 => bindV (binNil .add .other y6 (.int .i64 13)) fun v54 => bindV (cutS 1 y0 (some v52) (some v54)) fun v55 => buildSliceE 1 0 [.int .u8 0] [] h51 fun v57 h52 => ((loadV false 1 v39 h52 = some v40) ∧ True) ∧ allocE (some [.int .i64 0, .int .u32 0, .int .u64 0, .slice none 0 0]) h52 fun v8 h53 => ((loadV false 1 v39 h53 = some v40) ∧ True) ∧ C 24 [v55] h53 fun v56 h54 => ((loadV false 1 v39 h54 = some v40) ∧ True) ∧ bindV (binNil .add .other y6 (.int .i64 15)) fun v60 => bindV (binNil .add .other y6 (.int .i64 15)) fun v62 => bindV (binV .add .other v62 y7) fun v64 => bindV (cutS 1 y0 (some v60) (some v64)) fun v65 => appendE 1 1 v57 v65 h54 fun v66 h55 => ((loadV false 1 v39 h55 = some v40) ∧ True) ∧ bindV (buildV [.int .i64 0, .int .u32 0, .int .u64 0, .slice none 0 0] (some [(0, 1, v41), (1, 1, v49), (2, 1, v56), (3, 1, v66)])) fun v67 => storeE 4 v8 v67 h55 fun _ h57 => (True ∧ True) ∧ K [y0, y1, y2, y3, y4, y5, y6, y7, v8, y9, y10, y11, y12, y13, y14, y15, y16, y17, y18, y19, y20, y21, y22, y23, y24, y25, y26, y27, y28, y29, y30, y31, y32, y33, y34, y35, y36, y0, y6, v39, v40, v41, y0, y6, v44, y6, v46, v47, v48, v49, y0, y6, v52, y6, v54, v55, v56, v57, y0, y6, v60, y6, v62, y7, v64, v65, v66, v67, y68, y69, y70, y71, y72, y73, y74, y75, y76, y77, y78, y79, y80, y81] h57) := by kernel_rfl
theorem q_Decode_d0_o8 (C : Oracle) (y0 y1 y2 y3 y4 y5 y6 y7 y8 y9 y10 y11 y12 y13 y14 y15 y16 y17 y18 y19 y20 y21 y22 y23 y24 y25 y26 y27 y28 y29 y30 y31 y32 y33 y34 y35 y36 y37 y38 y39 y40 y41 y42 y43 y44 y45 y46 y47 y48 y49 y50 y51 y52 y53 y54 y55 y56 y57 y58 y59 y60 y61 y62 y63 y64 y65 y66 y67 y68 y69 y70 y71 y72 y73 y74 y75 y76 y77 y78 y79 y80 y81 : Value) (h : St) (K : List Value → St → Prop) : runO Tryz.prog C (opsC (pathC [true, true, true, false, false, false, true, false, true, true, true, false] (bodyOf Tryz.f14))) [0, 0, 3, 7, 15, 0, 0, 64, 0, 256, 992, 2016, 4064, 0, 0, 16384, 0, 65536, 253952, 2149052384, 2147487712, 0, 0, 4194304, 0, 16777216, 0, 117440512, 266338304, 2684350432, 3221225471, 4064, 4294967295] [0, 1, 2, 3, 4, 5, 6, 7, 8, 9, 10, 11, 12, 13, 14, 15, 16, 17, 18, 31, 20, 19, 21, 22, 23, 24, 25, 26, 27, 28, 29, 30, 32] [y0, y1, y2, y3, y4, y5, y6, y7, y8, y9, y10, y11, y12, y13, y14, y15, y16, y17, y18, y19, y20, y21, y22, y23, y24, y25, y26, y27, y28, y29, y30, y31, y32, y33, y34, y35, y36, y37, y38, y39, y40, y41, y42, y43, y44, y45, y46, y47, y48, y49, y50, y51, y52, y53, y54, y55, y56, y57, y58, y59, y60, y61, y62, y63, y64, y65, y66, y67, y68, y69, y70, y71, y72, y73, y74, y75, y76, y77, y78, y79, y80, y81] h [] [] K = (bindV (idxS 1 y0 y6) fun v39 => bindV (loadV false 1 v39 h) fun v40 => (True) ∧ bindV (wrapV .i64 v40) fun v41 => bindV (binNil .add .other y6 (.int .i64 1)) fun v44 => bindV (binNil .add .other y6 (.int .i64 5)) fun v46 => bindV (cutS 1 y0 (some v44) (some v46)) fun v47 => C 24 [v47] h fun v48 h58 => ((loadV false 1 v39 h58 = some v40) ∧ True) ∧ bindV (wrapV .u32 v48) fun v49 => bindV (binNil .add .other y6 (.int .i64 5)) fun v52 => bindV (binNil .add .other y6 (.int .i64 13)) fun v54 => bindV (cutS 1 y0 (some v52) (some v54)) fun v55 => allocE (some [.int .i64 0, .int .u32 0, .int .u64 0, .slice none 0 0]) h58 fun v8 h59 => ((loadV false 1 v39 h59 = some v40) ∧ True) ∧ buildSliceE 1 0 [.int .u8 0] [] h59 fun v57 h60 => ((loadV false 1 v39 h60 = some v40) ∧ True) ∧ C 24 [v55] h60 fun v56 h61 => ((loadV false 1 v39 h61 = some v40) ∧ True) ∧ bindV (binNil .add .other y6 (.int .i64 15)) fun v60 => bindV (binNil .add .other y6 (.int .i64 15)) fun v62 => bindV (binV .add .other v62 y7) fun v64 => bindV (cutS 1 y0 (some v60) (some v64)) fun v65 => appendE 1 1 v57 v65 h61 fun v66 h62 => ((loadV false 1 v39 h62 = some v40) ∧ True) ∧ bindV (buildV [.int .i64 0, .int .u32 0, .int .u64 0, .slice none 0 0] (some [(0, 1, v41), (1, 1, v49), (2, 1, v56), (3, 1, v66)])) fun v67 => storeE 4 v8 v67 h62 fun _ h64 => (True ∧ True) ∧ K [y0, y1, y2, y3, y4, y5, y6, y7, v8, y9, y10, y11, y12, y13, y14, y15, y16, y17, y18, y19, y20, y21, y22, y23, y24, y25, y26, y27, y28, y29, y30, y31, y32, y33, y34, y35, y36, y0, y6, v39, v40, v41, y0, y6, v44, y6, v46, v47, v48, v49, y0, y6, v52, y6, v54, v55, v56, v57, y0, y6, v60, y6, v62, y7, v64, v65, v66, v67, y68, y69, y70, y71, y72, y73, y74, y75, y76, y77, y78, y79, y80, y81] h64) := by kernel_rfl
theorem q_Decode_d0_o9 (C : Oracle) (y0 y1 y2 y3 y4 y5 y6 y7 y8 y9 y10 y11 y12 y13 y14 y15 y16 y17 y18 y19 y20 y21 y22 y23 y24 y25 y26 y27 y28 y29 y30 y31 y32 y33 y34 y35 y36 y37 y38 y39 y40 y41 y42 y43 y44 y45 y46 y47 y48 y49 y50 y51 y52 y53 y54 y55 y56 y57 y58 y59 y60 y61 y62 y63 y64 y65 y66 y67 y68 y69 y70 y71 y72 y73 y74 y75 y76 y77 y78 y79 y80 y81 : Value) (h : St) (K : List Value → St → Prop) : runO Tryz.prog C (opsC (pathC [true, true, true, false, false, false, true, false, true, true, true, false] (bodyOf Tryz.f14))) [0, 0, 3, 7, 15, 0, 0, 64, 0, 256, 992, 2147485664, 2147487712, 0, 0, 16384, 0, 65536, 253952, 2149052384, 2147487712, 0, 0, 4194304, 0, 16777216, 0, 117440512, 266338304, 2684350432, 3221225471, 0, 4294967295] [0, 1, 2, 3, 4, 5, 6, 7, 8, 9, 10, 31, 11, 12, 13, 14, 15, 16, 17, 18, 20, 19, 21, 22, 23, 24, 25, 26, 27, 28, 29, 30, 32] [y0, y1, y2, y3, y4, y5, y6, y7, y8, y9, y10, y11, y12, y13, y14, y15, y16, y17, y18, y19, y20, y21, y22, y23, y24, y25, y26, y27, y28, y29, y30, y31, y32, y33, y34, y35, y36, y37, y38, y39, y40, y41, y42, y43, y44, y45, y46, y47, y48, y49, y50, y51, y52, y53, y54, y55, y56, y57, y58, y59, y60, y61, y62, y63, y64, y65, y66, y67, y68, y69, y70, y71, y72, y73, y74, y75, y76, y77, y78, y79, y80, y81] h [] [] K = (bindV (idxS 1 y0 y6) fun v39 => bindV (loadV false 1 v39 h) fun v40 => (True) ∧ bindV (wrapV .i64 v40) fun v41 => bindV (binNil .add .other y6 (.int .i64 1)) fun v44 => bindV (binNil .add .other y6 (.int .i64 5)) fun v46 => bindV (cutS 1 y0 (some v44) (some v46)) fun v47 => allocE (some [.int .i64 0, .int .u32 0, .int .u64 0, .slice none 0 0]) h fun v8 h65 => ((loadV false 1 v39 h65 = some v40) ∧ True) ∧ C 24 [v47] h65 fun v48 h66 => ((loadV false 1 v39 h66 = some v40) ∧ True) ∧ bindV (wrapV .u32 v48) fun v49 => bindV (binNil .add .other y6 (.int .i64 5)) fun v52 => bindV (binNil .add .other y6 (.int .i64 13)) fun v54 => bindV (cutS 1 y0 (some v52) (some v54)) fun v55 => buildSliceE 1 0 [.int .u8 0] [] h66 fun v57 h67 => ((loadV false 1 v39 h67 = some v40) ∧ True) ∧ C 24 [v55] h67 fun v56 h68 => ((loadV false 1 v39 h68 = some v40) ∧ True) ∧ bindV (binNil .add .other y6 (.int .i64 15)) fun v60 => bindV (binNil .add .other y6 (.int .i64 15)) fun v62 => bindV (binV .add .other v62 y7) fun v64 => bindV (cutS 1 y0 (some v60) (some v64)) fun v65 => appendE 1 1 v57 v65 h68 fun v66 h69 => ((loadV false 1 v39 h69 = some v40) ∧ True) ∧ bindV (buildV [.int .i64 0, .int .u32 0, .int .u64 0, .slice none 0 0] (some [(0, 1, v41), (1, 1, v49), (2, 1, v56), (3, 1, v66)])) fun v67 => storeE 4 v8 v67 h69 fun _ h71 => (True ∧ True) ∧ K [y0, y1, y2, y3, y4, y5, y6, y7, v8, y9, y10, y11, y12, y13, y14, y15, y16, y17, y18, y19, y20, y21, y22, y23, y24, y25, y26, y27, y28, y29, y30, y31, y32, y33, y34, y35, y36, y0, y6, v39, v40, v41, y0, y6, v44, y6, v46, v47, v48, v49, y0, y6, v52, y6, v54, v55, v56, v57, y0, y6, v60, y6, v62, y7, v64, v65, v66, v67, y68, y69, y70, y71, y72, y73, y74, y75, y76, y77, y78, y79, y80, y81] h71) := by kernel_rfl
theorem q_Decode_d0_o10 (C : Oracle) (y0 y1 y2 y3 y4 y5 y6 y7 y8 y9 y10 y11 y12 y13 y14 y15 y16 y17 y18 y19 y20 y21 y22 y23 y24 y25 y26 y27 y28 y29 y30 y31 y32 y33 y34 y35 y36 y37 y38 y39 y40 y41 y42 y43 y44 y45 y46 y47 y48 y49 y50 y51 y52 y53 y54 y55 y56 y57 y58 y59 y60 y61 y62 y63 y64 y65 y66 y67 y68 y69 y70 y71 y72 y73 y74 y75 y76 y77 y78 y79 y80 y81 : Value) (h : St) (K : List Value → St → Prop) : runO Tryz.prog C (opsC (pathC [true, true, true, false, false, false, true, false, true, true, true, false] (bodyOf Tryz.f14))) [0, 0, 3, 7, 15, 0, 0, 64, 0, 256, 992, 1050592, 1052640, 0, 0, 16384, 0, 65536, 253952, 1568736, 0, 0, 0, 4194304, 0, 16777216, 0, 117440512, 266338304, 536866784, 1073741823, 1073737696, 4294967295] [0, 1, 2, 3, 4, 5, 6, 7, 8, 9, 10, 20, 11, 12, 13, 14, 15, 16, 17, 18, 19, 21, 22, 23, 24, 25, 26, 27, 28, 29, 30, 31, 32] [y0, y1, y2, y3, y4, y5, y6, y7, y8, y9, y10, y11, y12, y13, y14, y15, y16, y17, y18, y19, y20, y21, y22, y23, y24, y25, y26, y27, y28, y29, y30, y31, y32, y33, y34, y35, y36, y37, y38, y39, y40, y41, y42, y43, y44, y45, y46, y47, y48, y49, y50, y51, y52, y53, y54, y55, y56, y57, y58, y59, y60, y61, y62, y63, y64, y65, y66, y67, y68, y69, y70, y71, y72, y73, y74, y75, y76, y77, y78, y79, y80, y81] h [] [] K = (bindV (idxS 1 y0 y6) fun v39 => bindV (loadV false 1 v39 h) fun v40 => (True) ∧ bindV (wrapV .i64 v40) fun v41 => bindV (binNil .add .other y6 (.int .i64 1)) fun v44 => bindV (binNil .add .other y6 (.int .i64 5)) fun v46 => bindV (cutS 1 y0 (some v44) (some v46)) fun v47 => buildSliceE 1 0 [.int .u8 0] [] h fun v57 h72 => ((loadV false 1 v39 h72 = some v40) ∧ True) ∧ C 24 [v47] h72 fun v48 h73 => ((loadV false 1 v39 h73 = some v40) ∧ True) ∧ bindV (wrapV .u32 v48) fun v49 => bindV (binNil .add .other y6 (.int .i64 5)) fun v52 => bindV (binNil .add .other y6 (.int .i64 13)) fun v54 => bindV (cutS 1 y0 (some v52) (some v54)) fun v55 => C 24 [v55] h73 fun v56 h74 => ((loadV false 1 v39 h74 = some v40) ∧ True) ∧ bindV (binNil .add .other y6 (.int .i64 15)) fun v60 => bindV (binNil .add .other y6 (.int .i64 15)) fun v62 => bindV (binV .add .other v62 y7) fun v64 => bindV (cutS 1 y0 (some v60) (some v64)) fun v65 => appendE 1 1 v57 v65 h74 fun v66 h75 => ((loadV false 1 v39 h75 = some v40) ∧ True) ∧ bindV (buildV [.int .i64 0, .int .u32 0, .int .u64 0, .slice none 0 0] (some [(0, 1, v41), (1, 1, v49), (2, 1, v56), (3, 1, v66)])) fun v67 => allocE (some [.int .i64 0, .int .u32 0, .int .u64 0, .slice none 0 0]) h75 fun v8 h76 => ((loadV false 1 v39 h76 = some v40) ∧ True) ∧ storeE 4 v8 v67 h76 fun _ h78 => (True ∧ True) ∧ K [y0, y1, y2, y3, y4, y5, y6, y7, v8, y9, y10, y11, y12, y13, y14, y15, y16, y17, y18, y19, y20, y21, y22, y23, y24, y25, y26, y27, y28, y29, y30, y31, y32, y33, y34, y35, y36, y0, y6, v39, v40, v41, y0, y6, v44, y6, v46, v47, v48, v49, y0, y6, v52, y6, v54, v55, v56, v57, y0, y6, v60, y6, v62, y7, v64, v65, v66, v67, y68, y69, y70, y71, y72, y73, y74, y75, y76, y77, y78, y79, y80, y81] h78) := by kernel_rfl
theorem q_Decode_d0_o11 (C : Oracle) (y0 y1 y2 y3 y4 y5 y6 y7 y8 y9 y10 y11 y12 y13 y14 y15 y16 y17 y18 y19 y20 y21 y22 y23 y24 y25 y26 y27 y28 y29 y30 y31 y32 y33 y34 y35 y36 y37 y38 y39 y40 y41 y42 y43 y44 y45 y46 y47 y48 y49 y50 y51 y52 y53 y54 y55 y56 y57 y58 y59 y60 y61 y62 y63 y64 y65 y66 y67 y68 y69 y70 y71 y72 y73 y74 y75 y76 y77 y78 y79 y80 y81 : Value) (h : St) (K : List Value → St → Prop) : runO Tryz.prog C (opsC (pathC [true, true, true, false, false, false, true, false, true, true, true, false] (bodyOf Tryz.f14))) [0, 0, 3, 7, 15, 0, 0, 64, 0, 256, 992, 1050592, 1052640, 0, 0, 16384, 0, 65536, 253952, 1568736, 0, 0, 0, 4194304, 0, 16777216, 0, 117440512, 266338304, 2684350432, 3221225471, 2093024, 4294967295] [0, 1, 2, 3, 4, 5, 6, 7, 8, 9, 10, 20, 11, 12, 13, 14, 15, 16, 17, 18, 19, 21, 22, 23, 24, 25, 26, 27, 28, 31, 29, 30, 32] [y0, y1, y2, y3, y4, y5, y6, y7, y8, y9, y10, y11, y12, y13, y14, y15, y16, y17, y18, y19, y20, y21, y22, y23, y24, y25, y26, y27, y28, y29, y30, y31, y32, y33, y34, y35, y36, y37, y38, y39, y40, y41, y42, y43, y44, y45, y46, y47, y48, y49, y50, y51, y52, y53, y54, y55, y56, y57, y58, y59, y60, y61, y62, y63, y64, y65, y66, y67, y68, y69, y70, y71, y72, y73, y74, y75, y76, y77, y78, y79, y80, y81] h [] [] K = (bindV (idxS 1 y0 y6) fun v39 => bindV (loadV false 1 v39 h) fun v40 => (True) ∧ bindV (wrapV .i64 v40) fun v41 => bindV (binNil .add .other y6 (.int .i64 1)) fun v44 => bindV (binNil .add .other y6 (.int .i64 5)) fun v46 => bindV (cutS 1 y0 (some v44) (some v46)) fun v47 => buildSliceE 1 0 [.int .u8 0] [] h fun v57 h79 => ((loadV false 1 v39 h79 = some v40) ∧ True) ∧ C 24 [v47] h79 fun v48 h80 => ((loadV false 1 v39 h80 = some v40) ∧ True) ∧ bindV (wrapV .u32 v48) fun v49 => bindV (binNil .add .other y6 (.int .i64 5)) fun v52 => bindV (binNil .add .other y6 (.int .i64 13)) fun v54 => bindV (cutS 1 y0 (some v52) (some v54)) fun v55 => C 24 [v55] h80 fun v56 h81 => ((loadV false 1 v39 h81 = some v40) ∧ True) ∧ bindV (binNil .add .other y6 (.int .i64 15)) fun v60 => bindV (binNil .add .other y6 (.int .i64 15)) fun v62 => bindV (binV .add .other v62 y7) fun v64 => bindV (cutS 1 y0 (some v60) (some v64)) fun v65 => allocE (some [.int .i64 0, .int .u32 0, .int .u64 0, .slice none 0 0]) h81 fun v8 h82 => ((loadV false 1 v39 h82 = some v40) ∧ True) ∧ appendE 1 1 v57 v65 h82 fun v66 h83 => ((loadV false 1 v39 h83 = some v40) ∧ True) ∧ bindV (buildV [.int .i64 0, .int .u32 0, .int .u64 0, .slice none 0 0] (some [(0, 1, v41), (1, 1, v49), (2, 1, v56), (3, 1, v66)])) fun v67 => storeE 4 v8 v67 h83 fun _ h85 => (True ∧ True) ∧ K [y0, y1, y2, y3, y4, y5, y6, y7, v8, y9, y10, y11, y12, y13, y14, y15, y16, y17, y18, y19, y20, y21, y22, y23, y24, y25, y26, y27, y28, y29, y30, y31, y32, y33, y34, y35, y36, y0, y6, v39, v40, v41, y0, y6, v44, y6, v46, v47, v48, v49, y0, y6, v52, y6, v54, v55, v56, v57, y0, y6, v60, y6, v62, y7, v64, v65, v66, v67, y68, y69, y70, y71, y72, y73, y74, y75, y76, y77, y78, y79, y80, y81] h85) := by kernel_rfl
theorem q_Decode_d0_o12 (C : Oracle) (y0 y1 y2 y3 y4 y5 y6 y7 y8 y9 y10 y11 y12 y13 y14 y15 y16 y17 y18 y19 y20 y21 y22 y23 y24 y25 y26 y27 y28 y29 y30 y31 y32 y33 y34 y35 y36 y37 y38 y39 y40 y41 y42 y43 y44 y45 y46 y47 y48 y49 y50 y51 y52 y53 y54 y55 y56 y57 y58 y59 y60 y61 y62 y63 y64 y65 y66 y67 y68 y69 y70 y71 y72 y73 y74 y75 y76 y77 y78 y79 y80 y81 : Value) (h : St) (K : List Value → St → Prop) : runO Tryz.prog C (opsC (pathC [true, true, true, false, false, false, true, false, true, true, true, false] (bodyOf Tryz.f14))) [0, 0, 3, 7, 15, 0, 0, 64, 0, 256, 992, 1050592, 1052640, 0, 0, 16384, 0, 65536, 253952, 2149052384, 0, 0, 0, 4194304, 0, 16777216, 0, 117440512, 266338304, 2684350432, 3221225471, 1052640, 4294967295] [0, 1, 2, 3, 4, 5, 6, 7, 8, 9, 10, 20, 11, 12, 13, 14, 15, 16, 17, 18, 31, 19, 21, 22, 23, 24, 25, 26, 27, 28, 29, 30, 32] [y0, y1, y2, y3, y4, y5, y6, y7, y8, y9, y10, y11, y12, y13, y14, y15, y16, y17, y18, y19, y20, y21, y22, y23, y24, y25, y26, y27, y28, y29, y30, y31, y32, y33, y34, y35, y36, y37, y38, y39, y40, y41, y42, y43, y44, y45, y46, y47, y48, y49, y50, y51, y52, y53, y54, y55, y56, y57, y58, y59, y60, y61, y62, y63, y64, y65, y66, y67, y68, y69, y70, y71, y72, y73, y74, y75, y76, y77, y78, y79, y80, y81] h [] [] K = (bindV (idxS 1 y0 y6) fun v39 => bindV (loadV false 1 v39 h) fun v40 => (True) ∧ bindV (wrapV .i64 v40) fun v41 => bindV (binNil .add .other y6 (.int .i64 1)) fun v44 => bindV (binNil .add .other y6 (.int .i64 5)) fun v46 => bindV (cutS 1 y0 (some v44) (some v46)) fun v47 => buildSliceE 1 0 [.int .u8 0] [] h fun v57 h86 => ((loadV false 1 v39 h86 = some v40) ∧ True) ∧ C 24 [v47] h86 fun v48 h87 => ((loadV false 1 v39 h87 = some v40) ∧ True) ∧ bindV (wrapV .u32 v48) fun v49 => bindV (binNil .add .other y6 (.int .i64 5)) fun v52 => bindV (binNil .add .other y6 (.int .i64 13)) fun v54 => bindV (cutS 1 y0 (some v52) (some v54)) fun v55 => allocE (some [.int .i64 0, .int .u32 0, .int .u64 0, .slice none 0 0]) h87 fun v8 h88 => ((loadV false 1 v39 h88 = some v40) ∧ True) ∧ C 24 [v55] h88 fun v56 h89 => ((loadV false 1 v39 h89 = some v40) ∧ True) ∧ bindV (binNil .add .other y6 (.int .i64 15)) fun v60 => bindV (binNil .add .other y6 (.int .i64 15)) fun v62 => bindV (binV .add .other v62 y7) fun v64 => bindV (cutS 1 y0 (some v60) (some v64)) fun v65 => appendE 1 1 v57 v65 h89 fun v66 h90 => ((loadV false 1 v39 h90 = some v40) ∧ True) ∧ bindV (buildV [.int .i64 0, .int .u32 0, .int .u64 0, .slice none 0 0] (some [(0, 1, v41), (1, 1, v49), (2, 1, v56), (3, 1, v66)])) fun v67 => storeE 4 v8 v67 h90 fun _ h92 => (True ∧ True) ∧ K [y0, y1, y2, y3, y4, y5, y6, y7, v8, y9, y10, y11, y12, y13, y14, y15, y16, y17, y18, y19, y20, y21, y22, y23, y24, y25, y26, y27, y28, y29, y30, y31, y32, y33, y34, y35, y36, y0, y6, v39, v40, v41, y0, y6, v44, y6, v46, v47, v48, v49, y0, y6, v52, y6, v54, v55, v56, v57, y0, y6, v60, y6, v62, y7, v64, v65, v66, v67, y68, y69, y70, y71, y72, y73, y74, y75, y76, y77, y78, y79, y80, y81] h92) := by kernel_rfl
theorem q_Decode_d0_o13 (C : Oracle) (y0 y1 y2 y3 y4 y5 y6 y7 y8 y9 y10 y11 y12 y13 y14 y15 y16 y17 y18 y19 y20 y21 y22 y23 y24 y25 y26 y27 y28 y29 y30 y31 y32 y33 y34 y35 y36 y37 y38 y39 y40 y41 y42 y43 y44 y45 y46 y47 y48 y49 y50 y51 y52 y53 y54 y55 y56 y57 y58 y59 y60 y61 y62 y63 y64 y65 y66 y67 y68 y69 y70 y71 y72 y73 y74 y75 y76 y77 y78 y79 y80 y81 : Value) (h : St) (K : List Value → St → Prop) : runO Tryz.prog C (opsC (pathC [true, true, true, false, false, false, true, false, true, true, true, false] (bodyOf Tryz.f14))) [0, 0, 3, 7, 15, 0, 0, 64, 0, 256, 992, 2148534240, 2148536288, 0, 0, 16384, 0, 65536, 253952, 2149052384, 0, 0, 0, 4194304, 0, 16777216, 0, 117440512, 266338304, 2684350432, 3221225471, 1048576, 4294967295] [0, 1, 2, 3, 4, 5, 6, 7, 8, 9, 10, 20, 31, 11, 12, 13, 14, 15, 16, 17, 18, 19, 21, 22, 23, 24, 25, 26, 27, 28, 29, 30, 32] [y0, y1, y2, y3, y4, y5, y6, y7, y8, y9, y10, y11, y12, y13, y14, y15, y16, y17, y18, y19, y20, y21, y22, y23, y24, y25, y26, y27, y28, y29, y30, y31, y32, y33, y34, y35, y36, y37, y38, y39, y40, y41, y42, y43, y44, y45, y46, y47, y48, y49, y50, y51, y52, y53, y54, y55, y56, y57, y58, y59, y60, y61, y62, y63, y64, y65, y66, y67, y68, y69, y70, y71, y72, y73, y74, y75, y76, y77, y78, y79, y80, y81] h [] [] K = (bindV (idxS 1 y0 y6) fun v39 => bindV (loadV false 1 v39 h) fun v40 => (True) ∧ bindV (wrapV .i64 v40) fun v41 => bindV (binNil .add .other y6 (.int .i64 1)) fun v44 => bindV (binNil .add .other y6 (.int .i64 5)) fun v46 => bindV (cutS 1 y0 (some v44) (some v46)) fun v47 => buildSliceE 1 0 [.int .u8 0] [] h fun v57 h93 => ((loadV false 1 v39 h93 = some v40) ∧ True) ∧ allocE (some [.int .i64 0, .int .u32 0, .int .u64 0, .slice none 0 0]) h93 fun v8 h94 => ((loadV false 1 v39 h94 = some v40) ∧ True) ∧ C 24 [v47] h94 fun v48 h95 => ((loadV false 1 v39 h95 = some v40) ∧ True) ∧ bindV (wrapV .u32 v48) fun v49 => bindV (binNil .add .other y6 (.int .i64 5)) fun v52 => bindV (binNil .add .other y6 (.int .i64 13)) fun v54 => bindV (cutS 1 y0 (some v52) (some v54)) fun v55 => C 24 [v55] h95 fun v56 h96 => ((loadV false 1 v39 h96 = some v40) ∧ True) ∧ bindV (binNil .add .other y6 (.int .i64 15)) fun v60 => bindV (binNil .add .other y6 (.int .i64 15)) fun v62 => bindV (binV .add .other v62 y7) fun v64 => bindV (cutS 1 y0 (some v60) (some v64)) fun v65 => appendE 1 1 v57 v65 h96 fun v66 h97 => ((loadV false 1 v39 h97 = some v40) ∧ True) ∧ bindV (buildV [.int .i64 0, .int .u32 0, .int .u64 0, .slice none 0 0] (some [(0, 1, v41), (1, 1, v49), (2, 1, v56), (3, 1, v66)])) fun v67 => storeE 4 v8 v67 h97 fun _ h99 => (True ∧ True) ∧ K [y0, y1, y2, y3, y4, y5, y6, y7, v8, y9, y10, y11, y12, y13, y14, y15, y16, y17, y18, y19, y20, y21, y22, y23, y24, y25, y26, y27, y28, y29, y30, y31, y32, y33, y34, y35, y36, y0, y6, v39, v40, v41, y0, y6, v44, y6, v46, v47, v48, v49, y0, y6, v52, y6, v54, v55, v56, v57, y0, y6, v60, y6, v62, y7, v64, v65, v66, v67, y68, y69, y70, y71, y72, y73, y74, y75, y76, y77, y78, y79, y80, y81] h99) := by kernel_rfl
theorem q_Decode_d0_o14 (C : Oracle) (y0 y1 y2 y3 y4 y5 y6 y7 y8 y9 y10 y11 y12 y13 y14 y15 y16 y17 y18 y19 y20 y21 y22 y23 y24 y25 y26 y27 y28 y29 y30 y31 y32 y33 y34 y35 y36 y37 y38 y39 y40 y41 y42 y43 y44 y45 y46 y47 y48 y49 y50 y51 y52 y53 y54 y55 y56 y57 y58 y59 y60 y61 y62 y63 y64 y65 y66 y67 y68 y69 y70 y71 y72 y73 y74 y75 y76 y77 y78 y79 y80 y81 : Value) (h : St) (K : List Value → St → Prop) : runO Tryz.prog C (opsC (pathC [true, true, true, false, false, false, true, false, true, true, true, false] (bodyOf Tryz.f14))) [0, 0, 3, 7, 15, 0, 0, 64, 0, 256, 992, 2148534240, 2148536288, 0, 0, 16384, 0, 65536, 253952, 2149052384, 2147483648, 0, 0, 4194304, 0, 16777216, 0, 117440512, 266338304, 2684350432, 3221225471, 0, 4294967295] [0, 1, 2, 3, 4, 5, 6, 7, 8, 9, 10, 31, 20, 11, 12, 13, 14, 15, 16, 17, 18, 19, 21, 22, 23, 24, 25, 26, 27, 28, 29, 30, 32] [y0, y1, y2, y3, y4, y5, y6, y7, y8, y9, y10, y11, y12, y13, y14, y15, y16, y17, y18, y19, y20, y21, y22, y23, y24, y25, y26, y27, y28, y29, y30, y31, y32, y33, y34, y35, y36, y37, y38, y39, y40, y41, y42, y43, y44, y45, y46, y47, y48, y49, y50, y51, y52, y53, y54, y55, y56, y57, y58, y59, y60, y61, y62, y63, y64, y65, y66, y67, y68, y69, y70, y71, y72, y73, y74, y75, y76, y77, y78, y79, y80, y81] h [] [] K = (bindV (idxS 1 y0 y6) fun v39 => bindV (loadV false 1 v39 h) fun v40 => (True) ∧ bindV (wrapV .i64 v40) fun v41 => bindV (binNil .add .other y6 (.int .i64 1)) fun v44 => bindV (binNil .add .other y6 (.int .i64 5)) fun v46 => bindV (cutS 1 y0 (some v44) (some v46)) fun v47 => allocE (some [.int .i64 0, .int .u32 0, .int .u64 0, .slice none 0 0]) h fun v8 h100 => ((loadV false 1 v39 h100 = some v40) ∧ True) ∧ buildSliceE 1 0 [.int .u8 0] [] h100 fun v57 h101 => ((loadV false 1 v39 h101 = some v40) ∧ True) ∧ C 24 [v47] h101 fun v48 h102 => ((loadV false 1 v39 h102 = some v40) ∧ True) ∧ bindV (wrapV .u32 v48) fun v49 => bindV (binNil .add .other y6 (.int .i64 5)) fun v52 => bindV (binNil .add .other y6 (.int .i64 13)) fun v54 => bindV (cutS 1 y0 (some v52) (some v54)) fun v55 => C 24 [v55] h102 fun v56 h103 => ((loadV false 1 v39 h103 = some v40) ∧ True) ∧ bindV (binNil .add .other y6 (.int .i64 15)) fun v60 => bindV (binNil .add .other y6 (.int .i64 15)) fun v62 => bindV (binV .add .other v62 y7) fun v64 => bindV (cutS 1 y0 (some v60) (some v64)) fun v65 => appendE 1 1 v57 v65 h103 fun v66 h104 => ((loadV false 1 v39 h104 = some v40) ∧ True) ∧ bindV (buildV [.int .i64 0, .int .u32 0, .int .u64 0, .slice none 0 0] (some [(0, 1, v41), (1, 1, v49), (2, 1, v56), (3, 1, v66)])) fun v67 => storeE 4 v8 v67 h104 fun _ h106 => (True ∧ True) ∧ K [y0, y1, y2, y3, y4, y5, y6, y7, v8, y9, y10, y11, y12, y13, y14, y15, y16, y17, y18, y19, y20, y21, y22, y23, y24, y25, y26, y27, y28, y29, y30, y31, y32, y33, y34, y35, y36, y0, y6, v39, v40, v41, y0, y6, v44, y6, v46, v47, v48, v49, y0, y6, v52, y6, v54, v55, v56, v57, y0, y6, v60, y6, v62, y7, v64, v65, v66, v67, y68, y69, y70, y71, y72, y73, y74, y75, y76, y77, y78, y79, y80, y81] h106) := by kernel_rfl
theorem q_Decode_d0_eq (C : Oracle) (G : Prop → Prop) (n m0 : Nat) (y0 y1 y2 y3 y4 y5 y6 y7 y8 y9 y10 y11 y12 y13 y14 y15 y16 y17 y18 y19 y20 y21 y22 y23 y24 y25 y26 y27 y28 y29 y30 y31 y32 y33 y34 y35 y36 y37 y38 y39 y40 y41 y42 y43 y44 y45 y46 y47 y48 y49 y50 y51 y52 y53 y54 y55 y56 y57 y58 y59 y60 y61 y62 y63 y64 y65 y66 y67 y68 y69 y70 y71 y72 y73 y74 y75 y76 y77 y78 y79 y80 y81 : Value) (h : St) (K : Cont) : q_Decode_d0 C G n m0 [y0, y1, y2, y3, y4, y5, y6, y7, y8, y9, y10, y11, y12, y13, y14, y15, y16, y17, y18, y19, y20, y21, y22, y23, y24, y25, y26, y27, y28, y29, y30, y31, y32, y33, y34, y35, y36, y37, y38, y39, y40, y41, y42, y43, y44, y45, y46, y47, y48, y49, y50, y51, y52, y53, y54, y55, y56, y57, y58, y59, y60, y61, y62, y63, y64, y65, y66, y67, y68, y69, y70, y71, y72, y73, y74, y75, y76, y77, y78, y79, y80, y81] h K = (bindV (loadV true 4 y8 h) fun v68 => C 9 [v68] h fun v69 h107 => bindV (unV .not v69) fun v70 => condK v70 (bindV (lenS y5) fun v72 => K (.tuple #[(.slice none 0 0), v72, (.int .i64 2)]) h107) (G (bindV (loadV true 4 y8 h107) fun v74 => buildSliceE 4 1 [.int .i64 0, .int .u32 0, .int .u64 0, .slice none 0 0] [(0 * 4, 4, v74)] h107 fun v75 h108 => appendE 4 48 y5 v75 h108 fun v76 h109 => bindV (binNil .add .other y6 (.int .i64 15)) fun v78 => bindV (binV .add .other v78 y7) fun v80 => G (q_Decode_l0 C G n m0 y0 y2 y3 y4 v76 v80 y7 y8 h109 K)))) := by kernel_rfl
theorem q_Decode_j1_eq (C : Oracle) (G : Prop → Prop) (n : Nat) (x0 x2 x3 x4 x5 x6 x7 x8 : Value) (h : St) (K : Cont) : q_Decode_j1 C G n x0 x2 x3 x4 x5 x6 x7 x8 h K = (K (.tuple #[x5, (.int .i64 0), (.int .i64 0)]) h) := by kernel_rfl
theorem q_Decode_l0_eq (C : Oracle) (G : Prop → Prop) (n m0 : Nat) (x0 x2 x3 x4 x5 x6 x7 x8 : Value) (h : St) (K : Cont) : q_Decode_l0 C G n (m0 + 1) x0 x2 x3 x4 x5 x6 x7 x8 h K = (bindV (lenS x0) fun v11 => bindV (binV .lss .other x6 v11) fun v12 => condK v12 (G (bindV (lenS x0) fun v14 => bindV (binV .sub .other v14 x6) fun v16 => bindV (binNil .lss .other v16 (.int .i64 15)) fun v17 => condK v17 (bindV (lenS x5) fun v19 => K (.tuple #[(.slice none 0 0), v19, (.int .i64 3)]) h) (G (bindV (binNil .add .other x6 (.int .i64 13)) fun v22 => bindV (binNil .add .other x6 (.int .i64 15)) fun v24 => bindV (cutS 1 x0 (some v22) (some v24)) fun v25 => C 24 [v25] h fun v26 h1 => bindV (wrapV .i64 v26) fun v27 => bindV (lenS x0) fun v29 => bindV (binV .sub .other v29 x6) fun v31 => bindV (binNil .sub .other v31 (.int .i64 15)) fun v32 => bindV (binV .lss .other v32 v27) fun v34 => condK v34 (bindV (lenS x5) fun v36 => K (.tuple #[(.slice none 0 0), v36, (.int .i64 3)]) h1) (G (G (regS Tryz.prog C 8 (opsC (pathC [true, true, true, false, false, false, true, false, true, true, true, false] (bodyOf Tryz.f14))) (List.range (opsC (pathC [true, true, true, false, false, false, true, false, true, true, true, false] (bodyOf Tryz.f14))).size) [x0, unk, x2, x3, x4, x5, x6, v27, x8, unk, unk, unk, unk, unk, unk, unk, unk, unk, unk, unk, unk, unk, unk, unk, unk, unk, unk, unk, unk, unk, unk, unk, unk, unk, unk, unk, unk, unk, unk, unk, unk, unk, unk, unk, unk, unk, unk, unk, unk, unk, unk, unk, unk, unk, unk, unk, unk, unk, unk, unk, unk, unk, unk, unk, unk, unk, unk, unk, unk, unk, unk, unk, unk, unk, unk, unk, unk, unk, unk, unk, unk, unk] h1 (fun t h => q_Decode_d0 C G n m0 t h K)))))))) (G (q_Decode_j1 C G n x0 x2 x3 x4 x5 x6 x7 x8 h K))) := by kernel_rfl
def q_Decode (C : Oracle) (G : Prop → Prop) (n : Nat) (a0 : Value) (h : St) (K : Cont) : Prop := funcK Tryz.prog C G q_Decode_keep n Tryz.f14 [a0] h K
theorem q_Decode_eq (C : Oracle) (G : Prop → Prop) (n : Nat) (a0 : Value) (h : St) (K : Cont) : q_Decode C G n a0 h K = (G (q_Decode_l0 C G n n a0 (.slice none 0 0) (.int .i64 0) (.int .i64 0) (.slice none 0 0) (.int .i64 0) undef undef h K)) := by kernel_rfl
attribute [irreducible] q_Decode_l0 q_Decode_j1 q_Decode_d0
end Go.Proofs.YtnnjcenoihdhfaaGreatDoor
end

section
set_option linter.unusedSimpArgs false
set_option linter.unusedVariables false
set_option maxHeartbeats 8000000
set_option maxRecDepth 100000
namespace Go.Proofs.YtnnjcenoihdhfaaGreatDoor
open Go.Abs Go.IntWalk
attribute [local congr] bindV_weak condK_weak guardK_weak groupK_weak allocE_weak boxE_weak storeE_weak storeM_weak tabC_weak ite_weak idG_weak appendE_weak buildSliceE_weak mapUpdateE_weak deleteE_weak makeMapE_weak copyE_weak clearE_weak callE_weak

def tabQd : List (FuncId × Abs.Spec) := [(24, refNumO), (9, qRightO)]
theorem tabQd_good : ∀ p ∈ tabQd, SpecGood Tryz.prog p := by simp [tabQd, refNumO_good, qRightO_good]
theorem add_nat {a b : Nat} (h : a + b ≤ 1000000000000) : binNil .add .other (.int .i64 (a : Int)) (.int .i64 (b : Int)) = some (.int .i64 ((a + b : Nat) : Int)) := by
  have : IntKind.i64.wrap ((a : Int) + (b : Int)) = ((a + b : Nat) : Int) := by rw [i64_in _ (by omega)]; omega
  rw [binNil_int, binV_add, this]
theorem sub_nat {a b : Nat} (h : b ≤ a) (h2 : a ≤ 1000000000000) : binV .sub .other (.int .i64 (a : Int)) (.int .i64 (b : Int)) = some (.int .i64 ((a - b : Nat) : Int)) := by
  have : IntKind.i64.wrap ((a : Int) - (b : Int)) = ((a - b : Nat) : Int) := by rw [i64_in _ (by omega)]; omega
  rw [binV_sub, this]
theorem lt_nat (a b : Nat) : binV .lss .other (.int .i64 (a : Int)) (.int .i64 (b : Int)) = some (.bool (decide (a < b))) := by
  rw [binV_lss, show decide ((a : Int) < (b : Int)) = decide (a < b) from decide_eq_decide.2 (by omega)]
theorem by_at {B : Nat → Prop} {h0 : St} {v : Value} {L : List Nat} (s : By B h0 v L) {i : Nat} (hi : i < L.length) :
    ∃ b o, idxS 1 v (.int .i64 (i : Int)) = some (.pointer (some ⟨b, o, none⟩)) ∧ ∀ h, Chg h0 h [] → loadV false 1 (.pointer (some ⟨b, o, none⟩)) h = some (.int .u8 (L[i] : Int)) := by
  obtain ⟨b, o, g1, g2, g3, cs, own, g4, g5⟩ := SliceAt.idx s (i := (i : Int)) (by omega) (by omega) .i64
  have e : rowC L (i : Int).toNat = [.int .u8 (L[i] : Int)] := by simp [rowC, hi, bc]
  rw [e] at g5
  refine ⟨b, o, g1, fun h c => ?_⟩
  have g := c.at0 g3 g4
  have e0 : cs[o]? = some (.int .u8 (L[i] : Int)) := row_cell g5 0 (by omega)
  simp only [loadV_ptr, g, loadM_cells, partV_one, e0]
theorem all_nil {α : Type} {Q : α → Prop} : ∀ p ∈ ([] : List α), Q p := fun p hp => by simp at hp
theorem all_cons {α : Type} {Q : α → Prop} {a : α} {l : List α} (h : Q a) (k : ∀ p ∈ l, Q p) : ∀ p ∈ a :: l, Q p := fun p hp => by
  rcases List.mem_cons.1 hp with rfl | hp
  · exact h
  · exact k p hp
theorem qdec_l0 {nn : Nat} {x2 x3 x4 v : Value} {T : List Ev × Nat × Nat} {B : Nat → Prop} {L : List Nat} {h0 : St} {k : Cont} (few : L.length ≤ 900000000) (lt : ∀ x ∈ L, x < 256) (s0 : By B h0 v L)
    (H : ∀ h' v' P, Chg h0 h' [] → EvsO h0.next h' v' P → evs P = T.1 → k (.tuple #[v', .int .i64 (T.2.1 : Int), .int .i64 (T.2.2 : Int)]) h') :
    ∀ (f m0 a : Nat) (h1 : St) (out : Value) (P : List (Ev × Value)) (x7 x8 : Value), (L.drop a).length ≤ f → a ≤ L.length → f < m0 → Chg h0 h1 [] → 15 * P.length ≤ a → EvsO h0.next h1 out P → decR f (L.drop a) (evs P) = T →
      q_Decode_l0 (tabC tabQd) idG nn m0 v x2 x3 x4 out (.int .i64 (a : Int)) x7 x8 h1 (fun v h1 => ∃ h2, St.le h2 h1 ∧ k v h2) := by
  intro f
  induction f with
  | zero =>
    intro m0 a h1 out P x7 x8 hf ha hm c pl o eq
    obtain ⟨m0, rfl⟩ : ∃ m, m0 = m + 1 := ⟨m0 - 1, by omega⟩
    rw [q_Decode_l0_eq]
    have e : decR 0 (L.drop a) (evs P) = (evs P, 0, 0) := rfl
    rw [e] at eq
    subst eq
    rw [List.length_drop] at hf
    simp only [SliceAt.len s0, lt_nat, decide_eq_false (show ¬ a < L.length by omega), bindV_some, condK_bool, Bool.false_eq_true, if_false, idG_eq]
    rw [q_Decode_j1_eq]
    exact ⟨h1, St.le.refl _, H h1 out P c o rfl⟩
  | succ f ih =>
    intro m0 a h1 out P x7 x8 hf ha hm c pl o eq
    obtain ⟨m0, rfl⟩ : ∃ m, m0 = m + 1 := ⟨m0 - 1, by omega⟩
    rw [q_Decode_l0_eq]
    have lr : (L.drop a).length = L.length - a := List.length_drop ..
    obtain ⟨r, er⟩ : ∃ r, r = L.drop a := ⟨_, rfl⟩
    rw [← er] at eq hf lr
    unfold decR at eq
    by_cases r0 : r.length = 0
    · rw [if_pos r0] at eq
      subst eq
      simp only [SliceAt.len s0, lt_nat, decide_eq_false (show ¬ a < L.length by omega), bindV_some, condK_bool, Bool.false_eq_true, if_false, idG_eq]
      rw [q_Decode_j1_eq]
      exact ⟨h1, St.le.refl _, H h1 out P c o rfl⟩
    rw [if_neg r0] at eq
    have ltr : ∀ x ∈ r, x < 256 := fun x hx => lt x (by rw [er] at hx; exact List.mem_of_mem_drop hx)
    have sub : ∀ (i n : Nat), ∀ x ∈ (r.drop i).take n, x < 256 := fun i n x hx => ltr x (List.mem_of_mem_drop (List.mem_of_mem_take hx))
    have s := s0.chg0 c
    have lo := SliceAt.len o.look.1
    have mc := c.1
    have d1 := sub_nat (a := L.length) (b := a) (by omega) (by omega)
    have d15 : binNil .lss .other (.int .i64 ((L.length - a : Nat) : Int)) (.int .i64 15) = some (.bool (decide (L.length - a < 15))) := by rw [binNil_int]; exact lt_nat _ 15
    have short : stepE r = 3 → ∃ h2, St.le h2 h1 ∧ k (.tuple #[.slice none 0 0, .int .i64 (P.length : Int), .int .i64 3]) h2 := fun st => by
      rw [if_pos (by omega), st] at eq
      subst eq
      have := H h1 (.slice none 0 0) [] c EvsO.nil rfl
      rw [evs_len] at this
      exact ⟨h1, St.le.refl _, this⟩
    simp only [SliceAt.len s0, lt_nat, decide_eq_true (show a < L.length by omega), bindV_some, condK_bool, if_true, idG_eq, d1, d15, decide_eq_true_eq]
    by_cases sh1 : L.length - a < 15
    · rw [if_pos sh1]
      simp only [lo, bindV_some]
      exact short (by unfold stepE; rw [if_pos (by omega)])
    rw [if_neg sh1]
    have p1 : binNil .add .other (.int .i64 (a : Int)) (.int .i64 1) = some (.int .i64 ((a + 1 : Nat) : Int)) := add_nat (b := 1) (by omega)
    have p5 : binNil .add .other (.int .i64 (a : Int)) (.int .i64 5) = some (.int .i64 ((a + 5 : Nat) : Int)) := add_nat (b := 5) (by omega)
    have p13 : binNil .add .other (.int .i64 (a : Int)) (.int .i64 13) = some (.int .i64 ((a + 13 : Nat) : Int)) := add_nat (b := 13) (by omega)
    have p15 : binNil .add .other (.int .i64 (a : Int)) (.int .i64 15) = some (.int .i64 ((a + 15 : Nat) : Int)) := add_nat (b := 15) (by omega)
    have cutr : ∀ (i n : Nat), i + n ≤ r.length → ∃ v', cutS 1 v (some (.int .i64 ((a + i : Nat) : Int))) (some (.int .i64 ((a + i + n : Nat) : Int))) = some v' ∧ By B h1 v' ((r.drop i).take n) := fun i n hh => by
      obtain ⟨v', q1, q2⟩ := cut_by s (l := a + i) (e := a + i + n) (by omega) (by omega) (k := .i64) (k' := .i64)
      refine ⟨v', q1, ?_⟩
      rw [er, List.drop_drop]
      rw [show a + i + n - (a + i) = n by omega] at q2
      exact q2
    obtain ⟨vn, cun, sn⟩ := cutr 13 2 (by omega)
    simp only [idG_eq, p13, p15, cun, bindV_some]
    refine cK (S := refNumO) (by simp [tabQd]) ⟨_, vn, _, rfl, by rw [List.length_take]; omega, sub _ _, sn, ?_⟩
    have nlt : numB ((r.drop 13).take 2) < 65536 := by
      have := numB_lt _ (sub 13 2)
      have h2 : ((r.drop 13).take 2).length ≤ 2 := by rw [List.length_take]; omega
      exact Nat.lt_of_lt_of_le this (Nat.pow_le_pow_right (by omega) h2)
    have leE : lenE r = 15 + numB ((r.drop 13).take 2) := rfl
    have db : (decE r).b = (r.drop 15).take (numB ((r.drop 13).take 2)) := rfl
    obtain ⟨n, en⟩ : ∃ n, n = numB ((r.drop 13).take 2) := ⟨_, rfl⟩
    rw [← en] at nlt leE db ⊢
    have wn : wrapV .i64 (.int .u64 (n : Int)) = some (.int .i64 (n : Int)) := by rw [wrapV_int, i64_in _ (by omega)]
    have d2 : binNil .sub .other (.int .i64 ((L.length - a : Nat) : Int)) (.int .i64 15) = some (.int .i64 ((L.length - a - 15 : Nat) : Int)) := by rw [binNil_int]; exact sub_nat (b := 15) (by omega) (by omega)
    simp only [wn, SliceAt.len s0, d1, d2, lt_nat, bindV_some, condK_bool, decide_eq_true_eq]
    by_cases sh2 : L.length - a - 15 < n
    · rw [if_pos sh2]
      simp only [lo, bindV_some]
      exact short (by unfold stepE; rw [if_neg (by omega), leE, if_pos (by omega)])
    rw [if_neg sh2]
    have stp : stepE r = if okE (decE r) = true then 0 else 2 := by
      unfold stepE
      rw [if_neg (by omega), leE, if_neg (by omega)]
    obtain ⟨v1, cu1, s1⟩ := cutr 1 4 (by omega)
    obtain ⟨v2, cu2, s2⟩ := cutr 5 8 (by omega)
    obtain ⟨v3, cu3, s3⟩ := cutr 15 n (by omega)
    have el3 : ((r.drop 15).take n).length = n := by rw [List.length_take, List.length_drop]; omega
    have p15n : binV .add .other (.int .i64 ((a + 15 : Nat) : Int)) (.int .i64 (n : Int)) = some (.int .i64 ((a + 15 + n : Nat) : Int)) := by
      have := add_nat (a := a + 15) (b := n) (by omega)
      rw [binNil_int] at this; exact this
    obtain ⟨b, oo, gb0, gb1'⟩ := by_at s (show a < L.length by omega)
    have gb1 := gb1' h1 (Chg.refl _ _)
    have ie := step_ok ltr
    have alt : a < L.length := by omega
    have dk : (decE r).k = (L[a]'alt : Nat) := by
      have e1 : r.take 1 = [L[a]'alt] := by
        rw [er, List.drop_eq_getElem_cons alt]; rfl
      show ((numB (r.take 1) : Nat) : Int) = _
      rw [e1]; simp [numB]
    have c0 : L[a]'alt < 256 := lt _ (List.getElem_mem _)
    have w0 : wrapV .i64 (.int .u8 (L[a]'alt : Int)) = some (.int .i64 (decE r).k) := by rw [wrapV_int, dk, i64_in _ (by omega)]
    have wi : wrapV .u32 (.int .u64 (numB ((r.drop 1).take 4) : Int)) = some (.int .u32 ((decE r).i : Int)) := by
      have h1 := ie.1
      have h2 : (decE r).i = numB ((r.drop 1).take 4) := rfl
      rw [h2] at h1 ⊢
      rw [wrapV_int, IntKind.wrap_u32]
      congr 2; omega
    have dn : (decE r).n = numB ((r.drop 5).take 8) := rfl
    have tail : ∀ {C : Nat → Prop} {q : Nat} {sw : Value} {F : List Value} (hx : St), Chg h1 hx [] → By C hx sw (decE r).b → (∀ j, C j → h1.next ≤ j ∧ j ≠ q) → q < hx.next → h1.next ≤ q → (∃ zs, zs.length = 4 ∧ hx.objs q = some (.cells zs true)) →
        (∀ hy, q_Decode_d0 (tabC tabQd) idG nn m0 F hy (fun v h1 => ∃ h2, St.le h2 h1 ∧ k v h2) = (bindV (loadV true 4 (.pointer (some ⟨q, 0, none⟩)) hy) fun v68 => tabC tabQd 9 [v68] hy fun v69 h9 => bindV (unV .not v69) fun v70 => condK v70 (bindV (lenS out) fun v72 => ∃ h2, St.le h2 h9 ∧ k (.tuple #[(.slice none 0 0), v72, (.int .i64 2)]) h2) (idG (bindV (loadV true 4 (.pointer (some ⟨q, 0, none⟩)) h9) fun v74 => buildSliceE 4 1 [.int .i64 0, .int .u32 0, .int .u64 0, .slice none 0 0] [(0 * 4, 4, v74)] h9 fun v75 h10 => appendE 4 48 out v75 h10 fun v76 h11 => bindV (binNil .add .other (.int .i64 (a : Int)) (.int .i64 15)) fun v78 => bindV (binV .add .other v78 (.int .i64 (n : Int))) fun v80 => idG (q_Decode_l0 (tabC tabQd) idG nn m0 v x2 x3 x4 v76 v80 (.int .i64 (n : Int)) (.pointer (some ⟨q, 0, none⟩)) h11 (fun v h1 => ∃ h2, St.le h2 h1 ∧ k v h2)))))) →
        storeE 4 (.pointer (some ⟨q, 0, none⟩)) (evV (decE r) sw) hx fun _ h8 => (True ∧ True) ∧ q_Decode_d0 (tabC tabQd) idG nn m0 F h8 (fun v h1 => ∃ h2, St.le h2 h1 ∧ k v h2) := by
      intro C q sw F hx cx t hC qn q1 ⟨zs, zl, oq⟩ hF
      refine put_ev t oq zl qn fun h8 c8 n8 x8 => ⟨⟨trivial, trivial⟩, ?_⟩
      rw [hF]
      simp only [x8.ld.2.2.2.2, bindV_some]
      have t8 : By C h8 sw (decE r).b := SliceAt.chg t c8 (by simp; exact fun hh => (hC q hh).2 rfl)
      have c18 : Chg h1 h8 [] := cx.new c8 q1
      refine cK (S := qRightO) (by simp [tabQd]) ⟨C, decE r, sw, rfl, t8, fun h9 c9 => ?_⟩
      have c19 := c18.seq c9
      cases ok : okE (decE r) with
      | false =>
        have st : stepE r = 2 := by rw [stp, if_neg (by rw [ok]; simp)]
        rw [if_pos (by omega), st] at eq
        subst eq
        simp only [unV_not, Bool.not_false, bindV_some, condK_bool, if_true, lo]
        have := H h9 (.slice none 0 0) [] (c.seq c19) EvsO.nil rfl
        rw [evs_len] at this
        exact ⟨h9, St.le.refl _, this⟩
      | true =>
        have st : stepE r = 0 := by rw [stp, if_pos ok]
        rw [if_neg (by omega), leE] at eq
        simp only [unV_not, Bool.not_true, bindV_some, condK_bool, Bool.false_eq_true, if_false, idG_eq, (x8.chg0 c9).ld.2.2.2.2]
        refine push_ev (n0 := h0.next) mc c19 o (SliceAt.imp (t8.chg0 c9) fun j _ hj => (hC j hj).1) (by omega) fun h10 out10 c10 o10 => ?_
        simp only [p15, p15n, bindV_some, idG_eq]
        refine ih m0 (a + 15 + n) h10 out10 (P ++ [(decE r, sw)]) _ _ (by rw [List.length_drop]; omega) (by omega) (by omega) (fresh_out (c.seq c19) (c10.mono fun _ _ h => h.1)) (by rw [List.length_append]; simp; omega) o10 ?_
        have e1 : evs (P ++ [(decE r, sw)]) = evs P ++ [decE r] := by unfold evs; rw [List.map_append]; rfl
        have e2 : L.drop (a + 15 + n) = r.drop (15 + n) := by rw [er, List.drop_drop]; congr 1; omega
        rw [e1, e2]; exact eq
    simp only [idG_eq]
    refine ords_of q_Decode_d0_ords (all_cons ?_ (all_cons ?_ (all_cons ?_ (all_cons ?_ (all_cons ?_ (all_cons ?_ (all_cons ?_ (all_cons ?_ (all_cons ?_ (all_cons ?_ (all_cons ?_ (all_cons ?_ (all_cons ?_ (all_cons ?_ (all_cons ?_ all_nil)))))))))))))))
    · -- ABSXZ
      rw [q_Decode_d0_o0]
      simp only [gb0, gb1, bindV_some]
      refine ⟨trivial, ?_⟩
      try simp only [w0, wi, p1, p5, p13, p15, p15n, cu1, cu2, cu3, bindV_some]
      refine cK (S := refNumO) (by simp [tabQd]) ⟨_, v1, _, rfl, by rw [List.length_take]; omega, sub _ _, s1, ⟨⟨gb1' h1 (Chg.refl _ _), trivial⟩, ?_⟩⟩
      try simp only [w0, wi, p1, p5, p13, p15, p15n, cu1, cu2, cu3, bindV_some]
      refine cK (S := refNumO) (by simp [tabQd]) ⟨_, v2, _, rfl, by rw [List.length_take]; omega, sub _ _, s2, ⟨⟨gb1' h1 (Chg.refl _ _), trivial⟩, ?_⟩⟩
      try simp only [w0, wi, p1, p5, p13, p15, p15n, cu1, cu2, cu3, bindV_some]
      refine buildSliceE_in [] rfl rfl rfl fun h2 c2 n2 o2 => ⟨⟨gb1' h2 (Chg.seq (Chg.refl _ _) c2), trivial⟩, ?_⟩
      have m2 := c2.1
      try simp only [w0, wi, p1, p5, p13, p15, p15n, cu1, cu2, cu3, bindV_some]
      have so3 : ByO (fun j => j = h1.next ∨ h2.next ≤ j) h2 (.slice (some ⟨h1.next, 0, some 1⟩) 0 0) [] := .inr ⟨h1.next, rfl, .inl rfl, by omega, o2, rfl⟩
      refine append_byB (B0 := fun j => j = h1.next ∨ h2.next ≤ j) (fun i hi => .inr hi) so3 (s3.chg0 (Chg.seq (Chg.refl _ _) c2)) (by rw [List.length_nil, el3]; omega) fun h3 sw c3 o3 => ?_
      have cc3 : Chg h1 h3 [] := fresh_out (Chg.seq (Chg.refl _ _) c2) (c3.mono fun j _ hj => by rcases hj with hj | hj <;> omega)
      refine ⟨⟨gb1' h3 cc3, trivial⟩, ?_⟩
      have m3 := c3.1
      rw [List.nil_append, ← db] at o3
      have tx3 : By (fun j => j = h1.next ∨ h2.next ≤ j) h3 sw (decE r).b := own_bytes o3
      have bv3 := build_ev (e := decE r) tx3
      rw [dn] at bv3
      try simp only [bv3, bindV_some]
      try simp only [w0, wi, p1, p5, p13, p15, p15n, cu1, cu2, cu3, bindV_some]
      refine allocE_in fun h4 c4 n4 o4 => ⟨⟨gb1' h4 (Chg.seq cc3 c4), trivial⟩, ?_⟩
      have m4 := c4.1
      have tx4 := tx3.chg0 c4
      try simp only [w0, wi, p1, p5, p13, p15, p15n, cu1, cu2, cu3, bindV_some]
      exact tail (C := fun j => (j = h1.next ∨ h2.next ≤ j) ∧ j < h3.next) h4 (Chg.seq cc3 c4) (By.chg0 (SliceAt.imp tx3 fun j hj hb => (⟨hb, hj⟩ : (j = h1.next ∨ h2.next ≤ j) ∧ j < h3.next)) c4) (fun j hj => by rcases hj.1 with h | h <;> omega) (by omega) (by omega) ⟨_, rfl, o4⟩ (fun _ => by rw [q_Decode_d0_eq])
    · -- ABSZX
      rw [q_Decode_d0_o1]
      simp only [gb0, gb1, bindV_some]
      refine ⟨trivial, ?_⟩
      try simp only [w0, wi, p1, p5, p13, p15, p15n, cu1, cu2, cu3, bindV_some]
      refine cK (S := refNumO) (by simp [tabQd]) ⟨_, v1, _, rfl, by rw [List.length_take]; omega, sub _ _, s1, ⟨⟨gb1' h1 (Chg.refl _ _), trivial⟩, ?_⟩⟩
      try simp only [w0, wi, p1, p5, p13, p15, p15n, cu1, cu2, cu3, bindV_some]
      refine cK (S := refNumO) (by simp [tabQd]) ⟨_, v2, _, rfl, by rw [List.length_take]; omega, sub _ _, s2, ⟨⟨gb1' h1 (Chg.refl _ _), trivial⟩, ?_⟩⟩
      try simp only [w0, wi, p1, p5, p13, p15, p15n, cu1, cu2, cu3, bindV_some]
      refine buildSliceE_in [] rfl rfl rfl fun h2 c2 n2 o2 => ⟨⟨gb1' h2 (Chg.seq (Chg.refl _ _) c2), trivial⟩, ?_⟩
      have m2 := c2.1
      try simp only [w0, wi, p1, p5, p13, p15, p15n, cu1, cu2, cu3, bindV_some]
      refine allocE_in fun h3 c3 n3 o3 => ⟨⟨gb1' h3 (Chg.seq (Chg.seq (Chg.refl _ _) c2) c3), trivial⟩, ?_⟩
      have m3 := c3.1
      have os3 := c3.at0 (by omega) o2
      try simp only [w0, wi, p1, p5, p13, p15, p15n, cu1, cu2, cu3, bindV_some]
      have so4 : ByO (fun j => j = h1.next ∨ h3.next ≤ j) h3 (.slice (some ⟨h1.next, 0, some 1⟩) 0 0) [] := .inr ⟨h1.next, rfl, .inl rfl, by omega, os3, rfl⟩
      refine append_byB (B0 := fun j => j = h1.next ∨ h3.next ≤ j) (fun i hi => .inr hi) so4 (s3.chg0 (Chg.seq (Chg.seq (Chg.refl _ _) c2) c3)) (by rw [List.length_nil, el3]; omega) fun h4 sw c4 o4 => ?_
      have cc4 : Chg h1 h4 [] := fresh_out (Chg.seq (Chg.seq (Chg.refl _ _) c2) c3) (c4.mono fun j _ hj => by rcases hj with hj | hj <;> omega)
      refine ⟨⟨gb1' h4 cc4, trivial⟩, ?_⟩
      have m4 := c4.1
      rw [List.nil_append, ← db] at o4
      have oz4 := c4.at (by omega) (fun hh => by rcases hh with hh | hh <;> omega) o3
      have tx4 : By (fun j => j = h1.next ∨ h3.next ≤ j) h4 sw (decE r).b := own_bytes o4
      have bv4 := build_ev (e := decE r) tx4
      rw [dn] at bv4
      try simp only [bv4, bindV_some]
      try simp only [w0, wi, p1, p5, p13, p15, p15n, cu1, cu2, cu3, bindV_some]
      exact tail (C := fun j => (j = h1.next ∨ h3.next ≤ j)) h4 cc4 tx4 (fun j hj => by rcases hj with h | h <;> omega) (by omega) (by omega) ⟨_, rfl, oz4⟩ (fun _ => by rw [q_Decode_d0_eq])
    · -- ABZSX
      rw [q_Decode_d0_o2]
      simp only [gb0, gb1, bindV_some]
      refine ⟨trivial, ?_⟩
      try simp only [w0, wi, p1, p5, p13, p15, p15n, cu1, cu2, cu3, bindV_some]
      refine cK (S := refNumO) (by simp [tabQd]) ⟨_, v1, _, rfl, by rw [List.length_take]; omega, sub _ _, s1, ⟨⟨gb1' h1 (Chg.refl _ _), trivial⟩, ?_⟩⟩
      try simp only [w0, wi, p1, p5, p13, p15, p15n, cu1, cu2, cu3, bindV_some]
      refine cK (S := refNumO) (by simp [tabQd]) ⟨_, v2, _, rfl, by rw [List.length_take]; omega, sub _ _, s2, ⟨⟨gb1' h1 (Chg.refl _ _), trivial⟩, ?_⟩⟩
      try simp only [w0, wi, p1, p5, p13, p15, p15n, cu1, cu2, cu3, bindV_some]
      refine allocE_in fun h2 c2 n2 o2 => ⟨⟨gb1' h2 (Chg.seq (Chg.refl _ _) c2), trivial⟩, ?_⟩
      have m2 := c2.1
      try simp only [w0, wi, p1, p5, p13, p15, p15n, cu1, cu2, cu3, bindV_some]
      refine buildSliceE_in [] rfl rfl rfl fun h3 c3 n3 o3 => ⟨⟨gb1' h3 (Chg.seq (Chg.seq (Chg.refl _ _) c2) c3), trivial⟩, ?_⟩
      have m3 := c3.1
      have oz3 := c3.at0 (by omega) o2
      try simp only [w0, wi, p1, p5, p13, p15, p15n, cu1, cu2, cu3, bindV_some]
      have so4 : ByO (fun j => j = h2.next ∨ h3.next ≤ j) h3 (.slice (some ⟨h2.next, 0, some 1⟩) 0 0) [] := .inr ⟨h2.next, rfl, .inl rfl, by omega, o3, rfl⟩
      refine append_byB (B0 := fun j => j = h2.next ∨ h3.next ≤ j) (fun i hi => .inr hi) so4 (s3.chg0 (Chg.seq (Chg.seq (Chg.refl _ _) c2) c3)) (by rw [List.length_nil, el3]; omega) fun h4 sw c4 o4 => ?_
      have cc4 : Chg h1 h4 [] := fresh_out (Chg.seq (Chg.seq (Chg.refl _ _) c2) c3) (c4.mono fun j _ hj => by rcases hj with hj | hj <;> omega)
      refine ⟨⟨gb1' h4 cc4, trivial⟩, ?_⟩
      have m4 := c4.1
      rw [List.nil_append, ← db] at o4
      have oz4 := c4.at (by omega) (fun hh => by rcases hh with hh | hh <;> omega) oz3
      have tx4 : By (fun j => j = h2.next ∨ h3.next ≤ j) h4 sw (decE r).b := own_bytes o4
      have bv4 := build_ev (e := decE r) tx4
      rw [dn] at bv4
      try simp only [bv4, bindV_some]
      try simp only [w0, wi, p1, p5, p13, p15, p15n, cu1, cu2, cu3, bindV_some]
      exact tail (C := fun j => (j = h2.next ∨ h3.next ≤ j)) h4 cc4 tx4 (fun j hj => by rcases hj with h | h <;> omega) (by omega) (by omega) ⟨_, rfl, oz4⟩ (fun _ => by rw [q_Decode_d0_eq])
    · -- AZBSX
      rw [q_Decode_d0_o3]
      simp only [gb0, gb1, bindV_some]
      refine ⟨trivial, ?_⟩
      try simp only [w0, wi, p1, p5, p13, p15, p15n, cu1, cu2, cu3, bindV_some]
      refine cK (S := refNumO) (by simp [tabQd]) ⟨_, v1, _, rfl, by rw [List.length_take]; omega, sub _ _, s1, ⟨⟨gb1' h1 (Chg.refl _ _), trivial⟩, ?_⟩⟩
      try simp only [w0, wi, p1, p5, p13, p15, p15n, cu1, cu2, cu3, bindV_some]
      refine allocE_in fun h2 c2 n2 o2 => ⟨⟨gb1' h2 (Chg.seq (Chg.refl _ _) c2), trivial⟩, ?_⟩
      have m2 := c2.1
      try simp only [w0, wi, p1, p5, p13, p15, p15n, cu1, cu2, cu3, bindV_some]
      refine cK (S := refNumO) (by simp [tabQd]) ⟨_, v2, _, rfl, by rw [List.length_take]; omega, sub _ _, s2.chg0 (Chg.seq (Chg.refl _ _) c2), ⟨⟨gb1' h2 (Chg.seq (Chg.refl _ _) c2), trivial⟩, ?_⟩⟩
      try simp only [w0, wi, p1, p5, p13, p15, p15n, cu1, cu2, cu3, bindV_some]
      refine buildSliceE_in [] rfl rfl rfl fun h3 c3 n3 o3 => ⟨⟨gb1' h3 (Chg.seq (Chg.seq (Chg.refl _ _) c2) c3), trivial⟩, ?_⟩
      have m3 := c3.1
      have oz3 := c3.at0 (by omega) o2
      try simp only [w0, wi, p1, p5, p13, p15, p15n, cu1, cu2, cu3, bindV_some]
      have so4 : ByO (fun j => j = h2.next ∨ h3.next ≤ j) h3 (.slice (some ⟨h2.next, 0, some 1⟩) 0 0) [] := .inr ⟨h2.next, rfl, .inl rfl, by omega, o3, rfl⟩
      refine append_byB (B0 := fun j => j = h2.next ∨ h3.next ≤ j) (fun i hi => .inr hi) so4 (s3.chg0 (Chg.seq (Chg.seq (Chg.refl _ _) c2) c3)) (by rw [List.length_nil, el3]; omega) fun h4 sw c4 o4 => ?_
      have cc4 : Chg h1 h4 [] := fresh_out (Chg.seq (Chg.seq (Chg.refl _ _) c2) c3) (c4.mono fun j _ hj => by rcases hj with hj | hj <;> omega)
      refine ⟨⟨gb1' h4 cc4, trivial⟩, ?_⟩
      have m4 := c4.1
      rw [List.nil_append, ← db] at o4
      have oz4 := c4.at (by omega) (fun hh => by rcases hh with hh | hh <;> omega) oz3
      have tx4 : By (fun j => j = h2.next ∨ h3.next ≤ j) h4 sw (decE r).b := own_bytes o4
      have bv4 := build_ev (e := decE r) tx4
      rw [dn] at bv4
      try simp only [bv4, bindV_some]
      try simp only [w0, wi, p1, p5, p13, p15, p15n, cu1, cu2, cu3, bindV_some]
      exact tail (C := fun j => (j = h2.next ∨ h3.next ≤ j)) h4 cc4 tx4 (fun j hj => by rcases hj with h | h <;> omega) (by omega) (by omega) ⟨_, rfl, oz4⟩ (fun _ => by rw [q_Decode_d0_eq])
    · -- ZABSX
      rw [q_Decode_d0_o4]
      simp only [gb0, gb1, bindV_some]
      refine ⟨trivial, ?_⟩
      try simp only [w0, wi, p1, p5, p13, p15, p15n, cu1, cu2, cu3, bindV_some]
      refine allocE_in fun h2 c2 n2 o2 => ⟨⟨gb1' h2 (Chg.seq (Chg.refl _ _) c2), trivial⟩, ?_⟩
      have m2 := c2.1
      try simp only [w0, wi, p1, p5, p13, p15, p15n, cu1, cu2, cu3, bindV_some]
      refine cK (S := refNumO) (by simp [tabQd]) ⟨_, v1, _, rfl, by rw [List.length_take]; omega, sub _ _, s1.chg0 (Chg.seq (Chg.refl _ _) c2), ⟨⟨gb1' h2 (Chg.seq (Chg.refl _ _) c2), trivial⟩, ?_⟩⟩
      try simp only [w0, wi, p1, p5, p13, p15, p15n, cu1, cu2, cu3, bindV_some]
      refine cK (S := refNumO) (by simp [tabQd]) ⟨_, v2, _, rfl, by rw [List.length_take]; omega, sub _ _, s2.chg0 (Chg.seq (Chg.refl _ _) c2), ⟨⟨gb1' h2 (Chg.seq (Chg.refl _ _) c2), trivial⟩, ?_⟩⟩
      try simp only [w0, wi, p1, p5, p13, p15, p15n, cu1, cu2, cu3, bindV_some]
      refine buildSliceE_in [] rfl rfl rfl fun h3 c3 n3 o3 => ⟨⟨gb1' h3 (Chg.seq (Chg.seq (Chg.refl _ _) c2) c3), trivial⟩, ?_⟩
      have m3 := c3.1
      have oz3 := c3.at0 (by omega) o2
      try simp only [w0, wi, p1, p5, p13, p15, p15n, cu1, cu2, cu3, bindV_some]
      have so4 : ByO (fun j => j = h2.next ∨ h3.next ≤ j) h3 (.slice (some ⟨h2.next, 0, some 1⟩) 0 0) [] := .inr ⟨h2.next, rfl, .inl rfl, by omega, o3, rfl⟩
      refine append_byB (B0 := fun j => j = h2.next ∨ h3.next ≤ j) (fun i hi => .inr hi) so4 (s3.chg0 (Chg.seq (Chg.seq (Chg.refl _ _) c2) c3)) (by rw [List.length_nil, el3]; omega) fun h4 sw c4 o4 => ?_
      have cc4 : Chg h1 h4 [] := fresh_out (Chg.seq (Chg.seq (Chg.refl _ _) c2) c3) (c4.mono fun j _ hj => by rcases hj with hj | hj <;> omega)
      refine ⟨⟨gb1' h4 cc4, trivial⟩, ?_⟩
      have m4 := c4.1
      rw [List.nil_append, ← db] at o4
      have oz4 := c4.at (by omega) (fun hh => by rcases hh with hh | hh <;> omega) oz3
      have tx4 : By (fun j => j = h2.next ∨ h3.next ≤ j) h4 sw (decE r).b := own_bytes o4
      have bv4 := build_ev (e := decE r) tx4
      rw [dn] at bv4
      try simp only [bv4, bindV_some]
      try simp only [w0, wi, p1, p5, p13, p15, p15n, cu1, cu2, cu3, bindV_some]
      exact tail (C := fun j => (j = h2.next ∨ h3.next ≤ j)) h4 cc4 tx4 (fun j hj => by rcases hj with h | h <;> omega) (by omega) (by omega) ⟨_, rfl, oz4⟩ (fun _ => by rw [q_Decode_d0_eq])
    · -- ASBXZ
      rw [q_Decode_d0_o5]
      simp only [gb0, gb1, bindV_some]
      refine ⟨trivial, ?_⟩
      try simp only [w0, wi, p1, p5, p13, p15, p15n, cu1, cu2, cu3, bindV_some]
      refine cK (S := refNumO) (by simp [tabQd]) ⟨_, v1, _, rfl, by rw [List.length_take]; omega, sub _ _, s1, ⟨⟨gb1' h1 (Chg.refl _ _), trivial⟩, ?_⟩⟩
      try simp only [w0, wi, p1, p5, p13, p15, p15n, cu1, cu2, cu3, bindV_some]
      refine buildSliceE_in [] rfl rfl rfl fun h2 c2 n2 o2 => ⟨⟨gb1' h2 (Chg.seq (Chg.refl _ _) c2), trivial⟩, ?_⟩
      have m2 := c2.1
      try simp only [w0, wi, p1, p5, p13, p15, p15n, cu1, cu2, cu3, bindV_some]
      refine cK (S := refNumO) (by simp [tabQd]) ⟨_, v2, _, rfl, by rw [List.length_take]; omega, sub _ _, s2.chg0 (Chg.seq (Chg.refl _ _) c2), ⟨⟨gb1' h2 (Chg.seq (Chg.refl _ _) c2), trivial⟩, ?_⟩⟩
      try simp only [w0, wi, p1, p5, p13, p15, p15n, cu1, cu2, cu3, bindV_some]
      have so3 : ByO (fun j => j = h1.next ∨ h2.next ≤ j) h2 (.slice (some ⟨h1.next, 0, some 1⟩) 0 0) [] := .inr ⟨h1.next, rfl, .inl rfl, by omega, o2, rfl⟩
      refine append_byB (B0 := fun j => j = h1.next ∨ h2.next ≤ j) (fun i hi => .inr hi) so3 (s3.chg0 (Chg.seq (Chg.refl _ _) c2)) (by rw [List.length_nil, el3]; omega) fun h3 sw c3 o3 => ?_
      have cc3 : Chg h1 h3 [] := fresh_out (Chg.seq (Chg.refl _ _) c2) (c3.mono fun j _ hj => by rcases hj with hj | hj <;> omega)
      refine ⟨⟨gb1' h3 cc3, trivial⟩, ?_⟩
      have m3 := c3.1
      rw [List.nil_append, ← db] at o3
      have tx3 : By (fun j => j = h1.next ∨ h2.next ≤ j) h3 sw (decE r).b := own_bytes o3
      have bv3 := build_ev (e := decE r) tx3
      rw [dn] at bv3
      try simp only [bv3, bindV_some]
      try simp only [w0, wi, p1, p5, p13, p15, p15n, cu1, cu2, cu3, bindV_some]
      refine allocE_in fun h4 c4 n4 o4 => ⟨⟨gb1' h4 (Chg.seq cc3 c4), trivial⟩, ?_⟩
      have m4 := c4.1
      have tx4 := tx3.chg0 c4
      try simp only [w0, wi, p1, p5, p13, p15, p15n, cu1, cu2, cu3, bindV_some]
      exact tail (C := fun j => (j = h1.next ∨ h2.next ≤ j) ∧ j < h3.next) h4 (Chg.seq cc3 c4) (By.chg0 (SliceAt.imp tx3 fun j hj hb => (⟨hb, hj⟩ : (j = h1.next ∨ h2.next ≤ j) ∧ j < h3.next)) c4) (fun j hj => by rcases hj.1 with h | h <;> omega) (by omega) (by omega) ⟨_, rfl, o4⟩ (fun _ => by rw [q_Decode_d0_eq])
    · -- ASBZX
      rw [q_Decode_d0_o6]
      simp only [gb0, gb1, bindV_some]
      refine ⟨trivial, ?_⟩
      try simp only [w0, wi, p1, p5, p13, p15, p15n, cu1, cu2, cu3, bindV_some]
      refine cK (S := refNumO) (by simp [tabQd]) ⟨_, v1, _, rfl, by rw [List.length_take]; omega, sub _ _, s1, ⟨⟨gb1' h1 (Chg.refl _ _), trivial⟩, ?_⟩⟩
      try simp only [w0, wi, p1, p5, p13, p15, p15n, cu1, cu2, cu3, bindV_some]
      refine buildSliceE_in [] rfl rfl rfl fun h2 c2 n2 o2 => ⟨⟨gb1' h2 (Chg.seq (Chg.refl _ _) c2), trivial⟩, ?_⟩
      have m2 := c2.1
      try simp only [w0, wi, p1, p5, p13, p15, p15n, cu1, cu2, cu3, bindV_some]
      refine cK (S := refNumO) (by simp [tabQd]) ⟨_, v2, _, rfl, by rw [List.length_take]; omega, sub _ _, s2.chg0 (Chg.seq (Chg.refl _ _) c2), ⟨⟨gb1' h2 (Chg.seq (Chg.refl _ _) c2), trivial⟩, ?_⟩⟩
      try simp only [w0, wi, p1, p5, p13, p15, p15n, cu1, cu2, cu3, bindV_some]
      refine allocE_in fun h3 c3 n3 o3 => ⟨⟨gb1' h3 (Chg.seq (Chg.seq (Chg.refl _ _) c2) c3), trivial⟩, ?_⟩
      have m3 := c3.1
      have os3 := c3.at0 (by omega) o2
      try simp only [w0, wi, p1, p5, p13, p15, p15n, cu1, cu2, cu3, bindV_some]
      have so4 : ByO (fun j => j = h1.next ∨ h3.next ≤ j) h3 (.slice (some ⟨h1.next, 0, some 1⟩) 0 0) [] := .inr ⟨h1.next, rfl, .inl rfl, by omega, os3, rfl⟩
      refine append_byB (B0 := fun j => j = h1.next ∨ h3.next ≤ j) (fun i hi => .inr hi) so4 (s3.chg0 (Chg.seq (Chg.seq (Chg.refl _ _) c2) c3)) (by rw [List.length_nil, el3]; omega) fun h4 sw c4 o4 => ?_
      have cc4 : Chg h1 h4 [] := fresh_out (Chg.seq (Chg.seq (Chg.refl _ _) c2) c3) (c4.mono fun j _ hj => by rcases hj with hj | hj <;> omega)
      refine ⟨⟨gb1' h4 cc4, trivial⟩, ?_⟩
      have m4 := c4.1
      rw [List.nil_append, ← db] at o4
      have oz4 := c4.at (by omega) (fun hh => by rcases hh with hh | hh <;> omega) o3
      have tx4 : By (fun j => j = h1.next ∨ h3.next ≤ j) h4 sw (decE r).b := own_bytes o4
      have bv4 := build_ev (e := decE r) tx4
      rw [dn] at bv4
      try simp only [bv4, bindV_some]
      try simp only [w0, wi, p1, p5, p13, p15, p15n, cu1, cu2, cu3, bindV_some]
      exact tail (C := fun j => (j = h1.next ∨ h3.next ≤ j)) h4 cc4 tx4 (fun j hj => by rcases hj with h | h <;> omega) (by omega) (by omega) ⟨_, rfl, oz4⟩ (fun _ => by rw [q_Decode_d0_eq])
    · -- ASZBX
      rw [q_Decode_d0_o7]
      simp only [gb0, gb1, bindV_some]
      refine ⟨trivial, ?_⟩
      try simp only [w0, wi, p1, p5, p13, p15, p15n, cu1, cu2, cu3, bindV_some]
      refine cK (S := refNumO) (by simp [tabQd]) ⟨_, v1, _, rfl, by rw [List.length_take]; omega, sub _ _, s1, ⟨⟨gb1' h1 (Chg.refl _ _), trivial⟩, ?_⟩⟩
      try simp only [w0, wi, p1, p5, p13, p15, p15n, cu1, cu2, cu3, bindV_some]
      refine buildSliceE_in [] rfl rfl rfl fun h2 c2 n2 o2 => ⟨⟨gb1' h2 (Chg.seq (Chg.refl _ _) c2), trivial⟩, ?_⟩
      have m2 := c2.1
      try simp only [w0, wi, p1, p5, p13, p15, p15n, cu1, cu2, cu3, bindV_some]
      refine allocE_in fun h3 c3 n3 o3 => ⟨⟨gb1' h3 (Chg.seq (Chg.seq (Chg.refl _ _) c2) c3), trivial⟩, ?_⟩
      have m3 := c3.1
      have os3 := c3.at0 (by omega) o2
      try simp only [w0, wi, p1, p5, p13, p15, p15n, cu1, cu2, cu3, bindV_some]
      refine cK (S := refNumO) (by simp [tabQd]) ⟨_, v2, _, rfl, by rw [List.length_take]; omega, sub _ _, s2.chg0 (Chg.seq (Chg.seq (Chg.refl _ _) c2) c3), ⟨⟨gb1' h3 (Chg.seq (Chg.seq (Chg.refl _ _) c2) c3), trivial⟩, ?_⟩⟩
      try simp only [w0, wi, p1, p5, p13, p15, p15n, cu1, cu2, cu3, bindV_some]
      have so4 : ByO (fun j => j = h1.next ∨ h3.next ≤ j) h3 (.slice (some ⟨h1.next, 0, some 1⟩) 0 0) [] := .inr ⟨h1.next, rfl, .inl rfl, by omega, os3, rfl⟩
      refine append_byB (B0 := fun j => j = h1.next ∨ h3.next ≤ j) (fun i hi => .inr hi) so4 (s3.chg0 (Chg.seq (Chg.seq (Chg.refl _ _) c2) c3)) (by rw [List.length_nil, el3]; omega) fun h4 sw c4 o4 => ?_
      have cc4 : Chg h1 h4 [] := fresh_out (Chg.seq (Chg.seq (Chg.refl _ _) c2) c3) (c4.mono fun j _ hj => by rcases hj with hj | hj <;> omega)
      refine ⟨⟨gb1' h4 cc4, trivial⟩, ?_⟩
      have m4 := c4.1
      rw [List.nil_append, ← db] at o4
      have oz4 := c4.at (by omega) (fun hh => by rcases hh with hh | hh <;> omega) o3
      have tx4 : By (fun j => j = h1.next ∨ h3.next ≤ j) h4 sw (decE r).b := own_bytes o4
      have bv4 := build_ev (e := decE r) tx4
      rw [dn] at bv4
      try simp only [bv4, bindV_some]
      try simp only [w0, wi, p1, p5, p13, p15, p15n, cu1, cu2, cu3, bindV_some]
      exact tail (C := fun j => (j = h1.next ∨ h3.next ≤ j)) h4 cc4 tx4 (fun j hj => by rcases hj with h | h <;> omega) (by omega) (by omega) ⟨_, rfl, oz4⟩ (fun _ => by rw [q_Decode_d0_eq])
    · -- AZSBX
      rw [q_Decode_d0_o8]
      simp only [gb0, gb1, bindV_some]
      refine ⟨trivial, ?_⟩
      try simp only [w0, wi, p1, p5, p13, p15, p15n, cu1, cu2, cu3, bindV_some]
      refine cK (S := refNumO) (by simp [tabQd]) ⟨_, v1, _, rfl, by rw [List.length_take]; omega, sub _ _, s1, ⟨⟨gb1' h1 (Chg.refl _ _), trivial⟩, ?_⟩⟩
      try simp only [w0, wi, p1, p5, p13, p15, p15n, cu1, cu2, cu3, bindV_some]
      refine allocE_in fun h2 c2 n2 o2 => ⟨⟨gb1' h2 (Chg.seq (Chg.refl _ _) c2), trivial⟩, ?_⟩
      have m2 := c2.1
      try simp only [w0, wi, p1, p5, p13, p15, p15n, cu1, cu2, cu3, bindV_some]
      refine buildSliceE_in [] rfl rfl rfl fun h3 c3 n3 o3 => ⟨⟨gb1' h3 (Chg.seq (Chg.seq (Chg.refl _ _) c2) c3), trivial⟩, ?_⟩
      have m3 := c3.1
      have oz3 := c3.at0 (by omega) o2
      try simp only [w0, wi, p1, p5, p13, p15, p15n, cu1, cu2, cu3, bindV_some]
      refine cK (S := refNumO) (by simp [tabQd]) ⟨_, v2, _, rfl, by rw [List.length_take]; omega, sub _ _, s2.chg0 (Chg.seq (Chg.seq (Chg.refl _ _) c2) c3), ⟨⟨gb1' h3 (Chg.seq (Chg.seq (Chg.refl _ _) c2) c3), trivial⟩, ?_⟩⟩
      try simp only [w0, wi, p1, p5, p13, p15, p15n, cu1, cu2, cu3, bindV_some]
      have so4 : ByO (fun j => j = h2.next ∨ h3.next ≤ j) h3 (.slice (some ⟨h2.next, 0, some 1⟩) 0 0) [] := .inr ⟨h2.next, rfl, .inl rfl, by omega, o3, rfl⟩
      refine append_byB (B0 := fun j => j = h2.next ∨ h3.next ≤ j) (fun i hi => .inr hi) so4 (s3.chg0 (Chg.seq (Chg.seq (Chg.refl _ _) c2) c3)) (by rw [List.length_nil, el3]; omega) fun h4 sw c4 o4 => ?_
      have cc4 : Chg h1 h4 [] := fresh_out (Chg.seq (Chg.seq (Chg.refl _ _) c2) c3) (c4.mono fun j _ hj => by rcases hj with hj | hj <;> omega)
      refine ⟨⟨gb1' h4 cc4, trivial⟩, ?_⟩
      have m4 := c4.1
      rw [List.nil_append, ← db] at o4
      have oz4 := c4.at (by omega) (fun hh => by rcases hh with hh | hh <;> omega) oz3
      have tx4 : By (fun j => j = h2.next ∨ h3.next ≤ j) h4 sw (decE r).b := own_bytes o4
      have bv4 := build_ev (e := decE r) tx4
      rw [dn] at bv4
      try simp only [bv4, bindV_some]
      try simp only [w0, wi, p1, p5, p13, p15, p15n, cu1, cu2, cu3, bindV_some]
      exact tail (C := fun j => (j = h2.next ∨ h3.next ≤ j)) h4 cc4 tx4 (fun j hj => by rcases hj with h | h <;> omega) (by omega) (by omega) ⟨_, rfl, oz4⟩ (fun _ => by rw [q_Decode_d0_eq])
    · -- ZASBX
      rw [q_Decode_d0_o9]
      simp only [gb0, gb1, bindV_some]
      refine ⟨trivial, ?_⟩
      try simp only [w0, wi, p1, p5, p13, p15, p15n, cu1, cu2, cu3, bindV_some]
      refine allocE_in fun h2 c2 n2 o2 => ⟨⟨gb1' h2 (Chg.seq (Chg.refl _ _) c2), trivial⟩, ?_⟩
      have m2 := c2.1
      try simp only [w0, wi, p1, p5, p13, p15, p15n, cu1, cu2, cu3, bindV_some]
      refine cK (S := refNumO) (by simp [tabQd]) ⟨_, v1, _, rfl, by rw [List.length_take]; omega, sub _ _, s1.chg0 (Chg.seq (Chg.refl _ _) c2), ⟨⟨gb1' h2 (Chg.seq (Chg.refl _ _) c2), trivial⟩, ?_⟩⟩
      try simp only [w0, wi, p1, p5, p13, p15, p15n, cu1, cu2, cu3, bindV_some]
      refine buildSliceE_in [] rfl rfl rfl fun h3 c3 n3 o3 => ⟨⟨gb1' h3 (Chg.seq (Chg.seq (Chg.refl _ _) c2) c3), trivial⟩, ?_⟩
      have m3 := c3.1
      have oz3 := c3.at0 (by omega) o2
      try simp only [w0, wi, p1, p5, p13, p15, p15n, cu1, cu2, cu3, bindV_some]
      refine cK (S := refNumO) (by simp [tabQd]) ⟨_, v2, _, rfl, by rw [List.length_take]; omega, sub _ _, s2.chg0 (Chg.seq (Chg.seq (Chg.refl _ _) c2) c3), ⟨⟨gb1' h3 (Chg.seq (Chg.seq (Chg.refl _ _) c2) c3), trivial⟩, ?_⟩⟩
      try simp only [w0, wi, p1, p5, p13, p15, p15n, cu1, cu2, cu3, bindV_some]
      have so4 : ByO (fun j => j = h2.next ∨ h3.next ≤ j) h3 (.slice (some ⟨h2.next, 0, some 1⟩) 0 0) [] := .inr ⟨h2.next, rfl, .inl rfl, by omega, o3, rfl⟩
      refine append_byB (B0 := fun j => j = h2.next ∨ h3.next ≤ j) (fun i hi => .inr hi) so4 (s3.chg0 (Chg.seq (Chg.seq (Chg.refl _ _) c2) c3)) (by rw [List.length_nil, el3]; omega) fun h4 sw c4 o4 => ?_
      have cc4 : Chg h1 h4 [] := fresh_out (Chg.seq (Chg.seq (Chg.refl _ _) c2) c3) (c4.mono fun j _ hj => by rcases hj with hj | hj <;> omega)
      refine ⟨⟨gb1' h4 cc4, trivial⟩, ?_⟩
      have m4 := c4.1
      rw [List.nil_append, ← db] at o4
      have oz4 := c4.at (by omega) (fun hh => by rcases hh with hh | hh <;> omega) oz3
      have tx4 : By (fun j => j = h2.next ∨ h3.next ≤ j) h4 sw (decE r).b := own_bytes o4
      have bv4 := build_ev (e := decE r) tx4
      rw [dn] at bv4
      try simp only [bv4, bindV_some]
      try simp only [w0, wi, p1, p5, p13, p15, p15n, cu1, cu2, cu3, bindV_some]
      exact tail (C := fun j => (j = h2.next ∨ h3.next ≤ j)) h4 cc4 tx4 (fun j hj => by rcases hj with h | h <;> omega) (by omega) (by omega) ⟨_, rfl, oz4⟩ (fun _ => by rw [q_Decode_d0_eq])
    · -- SABXZ
      rw [q_Decode_d0_o10]
      simp only [gb0, gb1, bindV_some]
      refine ⟨trivial, ?_⟩
      try simp only [w0, wi, p1, p5, p13, p15, p15n, cu1, cu2, cu3, bindV_some]
      refine buildSliceE_in [] rfl rfl rfl fun h2 c2 n2 o2 => ⟨⟨gb1' h2 (Chg.seq (Chg.refl _ _) c2), trivial⟩, ?_⟩
      have m2 := c2.1
      try simp only [w0, wi, p1, p5, p13, p15, p15n, cu1, cu2, cu3, bindV_some]
      refine cK (S := refNumO) (by simp [tabQd]) ⟨_, v1, _, rfl, by rw [List.length_take]; omega, sub _ _, s1.chg0 (Chg.seq (Chg.refl _ _) c2), ⟨⟨gb1' h2 (Chg.seq (Chg.refl _ _) c2), trivial⟩, ?_⟩⟩
      try simp only [w0, wi, p1, p5, p13, p15, p15n, cu1, cu2, cu3, bindV_some]
      refine cK (S := refNumO) (by simp [tabQd]) ⟨_, v2, _, rfl, by rw [List.length_take]; omega, sub _ _, s2.chg0 (Chg.seq (Chg.refl _ _) c2), ⟨⟨gb1' h2 (Chg.seq (Chg.refl _ _) c2), trivial⟩, ?_⟩⟩
      try simp only [w0, wi, p1, p5, p13, p15, p15n, cu1, cu2, cu3, bindV_some]
      have so3 : ByO (fun j => j = h1.next ∨ h2.next ≤ j) h2 (.slice (some ⟨h1.next, 0, some 1⟩) 0 0) [] := .inr ⟨h1.next, rfl, .inl rfl, by omega, o2, rfl⟩
      refine append_byB (B0 := fun j => j = h1.next ∨ h2.next ≤ j) (fun i hi => .inr hi) so3 (s3.chg0 (Chg.seq (Chg.refl _ _) c2)) (by rw [List.length_nil, el3]; omega) fun h3 sw c3 o3 => ?_
      have cc3 : Chg h1 h3 [] := fresh_out (Chg.seq (Chg.refl _ _) c2) (c3.mono fun j _ hj => by rcases hj with hj | hj <;> omega)
      refine ⟨⟨gb1' h3 cc3, trivial⟩, ?_⟩
      have m3 := c3.1
      rw [List.nil_append, ← db] at o3
      have tx3 : By (fun j => j = h1.next ∨ h2.next ≤ j) h3 sw (decE r).b := own_bytes o3
      have bv3 := build_ev (e := decE r) tx3
      rw [dn] at bv3
      try simp only [bv3, bindV_some]
      try simp only [w0, wi, p1, p5, p13, p15, p15n, cu1, cu2, cu3, bindV_some]
      refine allocE_in fun h4 c4 n4 o4 => ⟨⟨gb1' h4 (Chg.seq cc3 c4), trivial⟩, ?_⟩
      have m4 := c4.1
      have tx4 := tx3.chg0 c4
      try simp only [w0, wi, p1, p5, p13, p15, p15n, cu1, cu2, cu3, bindV_some]
      exact tail (C := fun j => (j = h1.next ∨ h2.next ≤ j) ∧ j < h3.next) h4 (Chg.seq cc3 c4) (By.chg0 (SliceAt.imp tx3 fun j hj hb => (⟨hb, hj⟩ : (j = h1.next ∨ h2.next ≤ j) ∧ j < h3.next)) c4) (fun j hj => by rcases hj.1 with h | h <;> omega) (by omega) (by omega) ⟨_, rfl, o4⟩ (fun _ => by rw [q_Decode_d0_eq])
    · -- SABZX
      rw [q_Decode_d0_o11]
      simp only [gb0, gb1, bindV_some]
      refine ⟨trivial, ?_⟩
      try simp only [w0, wi, p1, p5, p13, p15, p15n, cu1, cu2, cu3, bindV_some]
      refine buildSliceE_in [] rfl rfl rfl fun h2 c2 n2 o2 => ⟨⟨gb1' h2 (Chg.seq (Chg.refl _ _) c2), trivial⟩, ?_⟩
      have m2 := c2.1
      try simp only [w0, wi, p1, p5, p13, p15, p15n, cu1, cu2, cu3, bindV_some]
      refine cK (S := refNumO) (by simp [tabQd]) ⟨_, v1, _, rfl, by rw [List.length_take]; omega, sub _ _, s1.chg0 (Chg.seq (Chg.refl _ _) c2), ⟨⟨gb1' h2 (Chg.seq (Chg.refl _ _) c2), trivial⟩, ?_⟩⟩
      try simp only [w0, wi, p1, p5, p13, p15, p15n, cu1, cu2, cu3, bindV_some]
      refine cK (S := refNumO) (by simp [tabQd]) ⟨_, v2, _, rfl, by rw [List.length_take]; omega, sub _ _, s2.chg0 (Chg.seq (Chg.refl _ _) c2), ⟨⟨gb1' h2 (Chg.seq (Chg.refl _ _) c2), trivial⟩, ?_⟩⟩
      try simp only [w0, wi, p1, p5, p13, p15, p15n, cu1, cu2, cu3, bindV_some]
      refine allocE_in fun h3 c3 n3 o3 => ⟨⟨gb1' h3 (Chg.seq (Chg.seq (Chg.refl _ _) c2) c3), trivial⟩, ?_⟩
      have m3 := c3.1
      have os3 := c3.at0 (by omega) o2
      try simp only [w0, wi, p1, p5, p13, p15, p15n, cu1, cu2, cu3, bindV_some]
      have so4 : ByO (fun j => j = h1.next ∨ h3.next ≤ j) h3 (.slice (some ⟨h1.next, 0, some 1⟩) 0 0) [] := .inr ⟨h1.next, rfl, .inl rfl, by omega, os3, rfl⟩
      refine append_byB (B0 := fun j => j = h1.next ∨ h3.next ≤ j) (fun i hi => .inr hi) so4 (s3.chg0 (Chg.seq (Chg.seq (Chg.refl _ _) c2) c3)) (by rw [List.length_nil, el3]; omega) fun h4 sw c4 o4 => ?_
      have cc4 : Chg h1 h4 [] := fresh_out (Chg.seq (Chg.seq (Chg.refl _ _) c2) c3) (c4.mono fun j _ hj => by rcases hj with hj | hj <;> omega)
      refine ⟨⟨gb1' h4 cc4, trivial⟩, ?_⟩
      have m4 := c4.1
      rw [List.nil_append, ← db] at o4
      have oz4 := c4.at (by omega) (fun hh => by rcases hh with hh | hh <;> omega) o3
      have tx4 : By (fun j => j = h1.next ∨ h3.next ≤ j) h4 sw (decE r).b := own_bytes o4
      have bv4 := build_ev (e := decE r) tx4
      rw [dn] at bv4
      try simp only [bv4, bindV_some]
      try simp only [w0, wi, p1, p5, p13, p15, p15n, cu1, cu2, cu3, bindV_some]
      exact tail (C := fun j => (j = h1.next ∨ h3.next ≤ j)) h4 cc4 tx4 (fun j hj => by rcases hj with h | h <;> omega) (by omega) (by omega) ⟨_, rfl, oz4⟩ (fun _ => by rw [q_Decode_d0_eq])
    · -- SAZBX
      rw [q_Decode_d0_o12]
      simp only [gb0, gb1, bindV_some]
      refine ⟨trivial, ?_⟩
      try simp only [w0, wi, p1, p5, p13, p15, p15n, cu1, cu2, cu3, bindV_some]
      refine buildSliceE_in [] rfl rfl rfl fun h2 c2 n2 o2 => ⟨⟨gb1' h2 (Chg.seq (Chg.refl _ _) c2), trivial⟩, ?_⟩
      have m2 := c2.1
      try simp only [w0, wi, p1, p5, p13, p15, p15n, cu1, cu2, cu3, bindV_some]
      refine cK (S := refNumO) (by simp [tabQd]) ⟨_, v1, _, rfl, by rw [List.length_take]; omega, sub _ _, s1.chg0 (Chg.seq (Chg.refl _ _) c2), ⟨⟨gb1' h2 (Chg.seq (Chg.refl _ _) c2), trivial⟩, ?_⟩⟩
      try simp only [w0, wi, p1, p5, p13, p15, p15n, cu1, cu2, cu3, bindV_some]
      refine allocE_in fun h3 c3 n3 o3 => ⟨⟨gb1' h3 (Chg.seq (Chg.seq (Chg.refl _ _) c2) c3), trivial⟩, ?_⟩
      have m3 := c3.1
      have os3 := c3.at0 (by omega) o2
      try simp only [w0, wi, p1, p5, p13, p15, p15n, cu1, cu2, cu3, bindV_some]
      refine cK (S := refNumO) (by simp [tabQd]) ⟨_, v2, _, rfl, by rw [List.length_take]; omega, sub _ _, s2.chg0 (Chg.seq (Chg.seq (Chg.refl _ _) c2) c3), ⟨⟨gb1' h3 (Chg.seq (Chg.seq (Chg.refl _ _) c2) c3), trivial⟩, ?_⟩⟩
      try simp only [w0, wi, p1, p5, p13, p15, p15n, cu1, cu2, cu3, bindV_some]
      have so4 : ByO (fun j => j = h1.next ∨ h3.next ≤ j) h3 (.slice (some ⟨h1.next, 0, some 1⟩) 0 0) [] := .inr ⟨h1.next, rfl, .inl rfl, by omega, os3, rfl⟩
      refine append_byB (B0 := fun j => j = h1.next ∨ h3.next ≤ j) (fun i hi => .inr hi) so4 (s3.chg0 (Chg.seq (Chg.seq (Chg.refl _ _) c2) c3)) (by rw [List.length_nil, el3]; omega) fun h4 sw c4 o4 => ?_
      have cc4 : Chg h1 h4 [] := fresh_out (Chg.seq (Chg.seq (Chg.refl _ _) c2) c3) (c4.mono fun j _ hj => by rcases hj with hj | hj <;> omega)
      refine ⟨⟨gb1' h4 cc4, trivial⟩, ?_⟩
      have m4 := c4.1
      rw [List.nil_append, ← db] at o4
      have oz4 := c4.at (by omega) (fun hh => by rcases hh with hh | hh <;> omega) o3
      have tx4 : By (fun j => j = h1.next ∨ h3.next ≤ j) h4 sw (decE r).b := own_bytes o4
      have bv4 := build_ev (e := decE r) tx4
      rw [dn] at bv4
      try simp only [bv4, bindV_some]
      try simp only [w0, wi, p1, p5, p13, p15, p15n, cu1, cu2, cu3, bindV_some]
      exact tail (C := fun j => (j = h1.next ∨ h3.next ≤ j)) h4 cc4 tx4 (fun j hj => by rcases hj with h | h <;> omega) (by omega) (by omega) ⟨_, rfl, oz4⟩ (fun _ => by rw [q_Decode_d0_eq])
    · -- SZABX
      rw [q_Decode_d0_o13]
      simp only [gb0, gb1, bindV_some]
      refine ⟨trivial, ?_⟩
      try simp only [w0, wi, p1, p5, p13, p15, p15n, cu1, cu2, cu3, bindV_some]
      refine buildSliceE_in [] rfl rfl rfl fun h2 c2 n2 o2 => ⟨⟨gb1' h2 (Chg.seq (Chg.refl _ _) c2), trivial⟩, ?_⟩
      have m2 := c2.1
      try simp only [w0, wi, p1, p5, p13, p15, p15n, cu1, cu2, cu3, bindV_some]
      refine allocE_in fun h3 c3 n3 o3 => ⟨⟨gb1' h3 (Chg.seq (Chg.seq (Chg.refl _ _) c2) c3), trivial⟩, ?_⟩
      have m3 := c3.1
      have os3 := c3.at0 (by omega) o2
      try simp only [w0, wi, p1, p5, p13, p15, p15n, cu1, cu2, cu3, bindV_some]
      refine cK (S := refNumO) (by simp [tabQd]) ⟨_, v1, _, rfl, by rw [List.length_take]; omega, sub _ _, s1.chg0 (Chg.seq (Chg.seq (Chg.refl _ _) c2) c3), ⟨⟨gb1' h3 (Chg.seq (Chg.seq (Chg.refl _ _) c2) c3), trivial⟩, ?_⟩⟩
      try simp only [w0, wi, p1, p5, p13, p15, p15n, cu1, cu2, cu3, bindV_some]
      refine cK (S := refNumO) (by simp [tabQd]) ⟨_, v2, _, rfl, by rw [List.length_take]; omega, sub _ _, s2.chg0 (Chg.seq (Chg.seq (Chg.refl _ _) c2) c3), ⟨⟨gb1' h3 (Chg.seq (Chg.seq (Chg.refl _ _) c2) c3), trivial⟩, ?_⟩⟩
      try simp only [w0, wi, p1, p5, p13, p15, p15n, cu1, cu2, cu3, bindV_some]
      have so4 : ByO (fun j => j = h1.next ∨ h3.next ≤ j) h3 (.slice (some ⟨h1.next, 0, some 1⟩) 0 0) [] := .inr ⟨h1.next, rfl, .inl rfl, by omega, os3, rfl⟩
      refine append_byB (B0 := fun j => j = h1.next ∨ h3.next ≤ j) (fun i hi => .inr hi) so4 (s3.chg0 (Chg.seq (Chg.seq (Chg.refl _ _) c2) c3)) (by rw [List.length_nil, el3]; omega) fun h4 sw c4 o4 => ?_
      have cc4 : Chg h1 h4 [] := fresh_out (Chg.seq (Chg.seq (Chg.refl _ _) c2) c3) (c4.mono fun j _ hj => by rcases hj with hj | hj <;> omega)
      refine ⟨⟨gb1' h4 cc4, trivial⟩, ?_⟩
      have m4 := c4.1
      rw [List.nil_append, ← db] at o4
      have oz4 := c4.at (by omega) (fun hh => by rcases hh with hh | hh <;> omega) o3
      have tx4 : By (fun j => j = h1.next ∨ h3.next ≤ j) h4 sw (decE r).b := own_bytes o4
      have bv4 := build_ev (e := decE r) tx4
      rw [dn] at bv4
      try simp only [bv4, bindV_some]
      try simp only [w0, wi, p1, p5, p13, p15, p15n, cu1, cu2, cu3, bindV_some]
      exact tail (C := fun j => (j = h1.next ∨ h3.next ≤ j)) h4 cc4 tx4 (fun j hj => by rcases hj with h | h <;> omega) (by omega) (by omega) ⟨_, rfl, oz4⟩ (fun _ => by rw [q_Decode_d0_eq])
    · -- ZSABX
      rw [q_Decode_d0_o14]
      simp only [gb0, gb1, bindV_some]
      refine ⟨trivial, ?_⟩
      try simp only [w0, wi, p1, p5, p13, p15, p15n, cu1, cu2, cu3, bindV_some]
      refine allocE_in fun h2 c2 n2 o2 => ⟨⟨gb1' h2 (Chg.seq (Chg.refl _ _) c2), trivial⟩, ?_⟩
      have m2 := c2.1
      try simp only [w0, wi, p1, p5, p13, p15, p15n, cu1, cu2, cu3, bindV_some]
      refine buildSliceE_in [] rfl rfl rfl fun h3 c3 n3 o3 => ⟨⟨gb1' h3 (Chg.seq (Chg.seq (Chg.refl _ _) c2) c3), trivial⟩, ?_⟩
      have m3 := c3.1
      have oz3 := c3.at0 (by omega) o2
      try simp only [w0, wi, p1, p5, p13, p15, p15n, cu1, cu2, cu3, bindV_some]
      refine cK (S := refNumO) (by simp [tabQd]) ⟨_, v1, _, rfl, by rw [List.length_take]; omega, sub _ _, s1.chg0 (Chg.seq (Chg.seq (Chg.refl _ _) c2) c3), ⟨⟨gb1' h3 (Chg.seq (Chg.seq (Chg.refl _ _) c2) c3), trivial⟩, ?_⟩⟩
      try simp only [w0, wi, p1, p5, p13, p15, p15n, cu1, cu2, cu3, bindV_some]
      refine cK (S := refNumO) (by simp [tabQd]) ⟨_, v2, _, rfl, by rw [List.length_take]; omega, sub _ _, s2.chg0 (Chg.seq (Chg.seq (Chg.refl _ _) c2) c3), ⟨⟨gb1' h3 (Chg.seq (Chg.seq (Chg.refl _ _) c2) c3), trivial⟩, ?_⟩⟩
      try simp only [w0, wi, p1, p5, p13, p15, p15n, cu1, cu2, cu3, bindV_some]
      have so4 : ByO (fun j => j = h2.next ∨ h3.next ≤ j) h3 (.slice (some ⟨h2.next, 0, some 1⟩) 0 0) [] := .inr ⟨h2.next, rfl, .inl rfl, by omega, o3, rfl⟩
      refine append_byB (B0 := fun j => j = h2.next ∨ h3.next ≤ j) (fun i hi => .inr hi) so4 (s3.chg0 (Chg.seq (Chg.seq (Chg.refl _ _) c2) c3)) (by rw [List.length_nil, el3]; omega) fun h4 sw c4 o4 => ?_
      have cc4 : Chg h1 h4 [] := fresh_out (Chg.seq (Chg.seq (Chg.refl _ _) c2) c3) (c4.mono fun j _ hj => by rcases hj with hj | hj <;> omega)
      refine ⟨⟨gb1' h4 cc4, trivial⟩, ?_⟩
      have m4 := c4.1
      rw [List.nil_append, ← db] at o4
      have oz4 := c4.at (by omega) (fun hh => by rcases hh with hh | hh <;> omega) oz3
      have tx4 : By (fun j => j = h2.next ∨ h3.next ≤ j) h4 sw (decE r).b := own_bytes o4
      have bv4 := build_ev (e := decE r) tx4
      rw [dn] at bv4
      try simp only [bv4, bindV_some]
      try simp only [w0, wi, p1, p5, p13, p15, p15n, cu1, cu2, cu3, bindV_some]
      exact tail (C := fun j => (j = h2.next ∨ h3.next ≤ j)) h4 cc4 tx4 (fun j hj => by rcases hj with h | h <;> omega) (by omega) (by omega) ⟨_, rfl, oz4⟩ (fun _ => by rw [q_Decode_d0_eq])
theorem qdecO_good : SpecGood Tryz.prog (14, decO) := by
  refine spec_good mixed Tryz.func14 (by kernel_rfl) (by kernel_rfl) (tab := tabQd) tabQd_good (keep := q_Decode_keep) ?_
  rintro args h k ⟨B, v, l, rfl, few, lt, s, H⟩
  refine ⟨l.length + 1, ?_⟩
  show q_Decode (tabC _) idG _ v h _
  rw [q_Decode_eq]
  simp only [idG_eq]
  exact qdec_l0 (T := decL l) few lt s H l.length _ 0 h _ [] _ _ (by simp) (by omega) (by omega) (Chg.refl _ _) (by simp) EvsO.nil rfl
end Go.Proofs.YtnnjcenoihdhfaaGreatDoor
end
