/- A part of the proof in YtjghbldehddemaaGreatDoorSame12: lemmas and contracts; nothing is claimed here. -/
import Derived.Test.YtjghbldehddemaaGreatDoorSame5
import Derived.Test.YtjghbldehddemaaGreatDoorProg
set_option linter.unusedVariables false
set_option linter.unusedSimpArgs false
section
set_option maxRecDepth 1000000
namespace Go.EvK
open Go Go.Ew
noncomputable section
def runs : List Nat := [4, 5, 7, 8, 9, 10, 11, 12, 13, 16, 17, 18, 19, 20, 21, 22, 23, 24, 25, 26, 28, 31, 33, 34, 35, 36, 38, 39, 41, 42, 43, 44, 45, 46, 47, 48, 49, 50, 55, 56, 59, 60, 61, 62, 63, 64, 65, 66, 67, 68, 70, 72, 73, 74, 75, 76, 77, 78, 79, 80, 82, 86, 87, 92, 93, 94, 95, 97, 98, 99, 100, 102, 104, 105, 106, 108, 109, 111, 114, 116, 119, 120, 121, 122, 123, 124, 125, 126, 130, 131, 132, 133, 134, 137, 140, 142, 143, 144, 145, 146, 149, 150, 151, 152, 154, 155, 156, 157, 158, 159, 160, 164, 173, 177, 178, 182, 183, 185, 186, 187, 188, 191, 203, 210, 211, 212, 213, 214, 215, 220, 221, 222, 234, 236, 237, 239, 240, 242, 243, 244, 248, 255, 260, 261, 271, 351, 352, 353]
theorem runs1 : (runs.take 60).all (statB Go.Proofs.Tryz.prog) = true := by kernel_rfl
theorem runs2 : ((runs.drop 60).take 40).all (statB Go.Proofs.Tryz.prog) = true := by kernel_rfl
theorem runs3 : (runs.drop 100).all (statB Go.Proofs.Tryz.prog) = true := by kernel_rfl
theorem runsAll : runs.all (statB Go.Proofs.Tryz.prog) = true := by
  have h : runs = runs.take 60 ++ ((runs.drop 60).take 40 ++ runs.drop 100) := by kernel_rfl
  rw [h, List.all_append, List.all_append, runs1, runs2, runs3]
  rfl
theorem ext1 : Extern.findNext Go.Proofs.Tryz.f176 = none := by kernel_rfl
theorem ext2 : Extern.find Go.Proofs.Tryz.f176 = some Extern.BytealgIndexByte.indexByte := by kernel_rfl
theorem ext3 : Extern.findNext Go.Proofs.Tryz.f265 = none := by kernel_rfl
theorem ext4 : Extern.find Go.Proofs.Tryz.f265 = some add64Entry := by kernel_rfl
def tab (l : List Giv) : Tab := tabOf Go.Proofs.Tryz.prog 176 265 runs l
theorem extOk (l : List Giv) : ExtOk Go.Proofs.Tryz.prog (tab l) := extOk_of (i := 176) (a := 265) rfl Go.Proofs.Tryz.func176 ext1 ext2 Go.Proofs.Tryz.func265 ext3 ext4
theorem runOk (l : List Giv) : RunOk Go.Proofs.Tryz.prog (tab l) := runOk_of runs (fun _ => rfl) runsAll
def two : Value := .agg #[.bool false, .int .u64 0, .int .u64 2, .int .i64 0]
def st (l : List UInt8) : Value := .string ⟨⟨l⟩⟩
def g1 : Giv := ⟨131, [two], .bool true⟩
theorem c1 : chkG Go.Proofs.Tryz.prog (tab []) g1 = true := by kernel_rfl
def g2 : Giv := ⟨177, [st [50]], .tuple #[two, .int .i64 0]⟩
theorem c2 : chkG Go.Proofs.Tryz.prog (tab [g1]) g2 = true := by kernel_rfl
def g3 : Giv := ⟨173, [two], .tuple #[st [50], .int .i64 0]⟩
theorem c3 : chkG Go.Proofs.Tryz.prog (tab [g2, g1]) g3 = true := by kernel_rfl
end
end Go.EvK
end
