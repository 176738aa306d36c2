/- A part of the proof in YtbncpcdooinpjaaGreatDoorTypes12: lemmas and contracts; nothing is claimed here. -/
import Derived.Test.YtbncpcdooinpjaaGreatDoorTypes5
import Derived.Test.YtbncpcdooinpjaaGreatDoorProg
set_option linter.unusedVariables false
set_option linter.unusedSimpArgs false
section
set_option maxRecDepth 1000000
namespace Go.EvK
open Go Go.Ew
noncomputable section
def runs : List Nat := [4, 12, 9, 10, 11, 27, 28, 29, 30, 18, 19, 20, 21, 22, 23, 24, 25, 26, 62, 63, 65, 36, 38, 7, 39, 40, 42, 43, 45, 46, 47, 48, 6, 49, 50, 51, 52, 53, 58, 59, 71, 15, 16, 72, 73, 74, 75, 76, 14, 77, 79, 81, 82, 83, 84, 85, 86, 87, 88, 89, 91, 95, 96, 103, 32, 33, 34, 105, 106, 107, 108, 110, 112, 113, 114, 116, 117, 119, 122, 69, 125, 126, 127, 128, 129, 130, 131, 132, 136, 137, 138, 139, 140, 100, 144, 146, 147, 148, 149, 150, 153, 154, 155, 156, 158, 159, 160, 161, 162, 163, 164, 168, 177, 181, 182, 186, 187, 189, 190, 191, 192, 195, 207, 214, 215, 216, 217, 218, 219, 224, 225, 226, 238, 240, 241, 243, 244, 246, 247, 248, 252, 259, 264, 265, 275, 355, 356, 357]
theorem runs1 : (runs.take 60).all (statB Go.Proofs.Tryz.prog) = true := by kernel_rfl
theorem runs2 : ((runs.drop 60).take 40).all (statB Go.Proofs.Tryz.prog) = true := by kernel_rfl
theorem runs3 : (runs.drop 100).all (statB Go.Proofs.Tryz.prog) = true := by kernel_rfl
theorem runsAll : runs.all (statB Go.Proofs.Tryz.prog) = true := by
  have h : runs = runs.take 60 ++ ((runs.drop 60).take 40 ++ runs.drop 100) := by kernel_rfl
  rw [h, List.all_append, List.all_append, runs1, runs2, runs3]
  rfl
theorem ext1 : Extern.findNext Go.Proofs.Tryz.f180 = none := by kernel_rfl
theorem ext2 : Extern.find Go.Proofs.Tryz.f180 = some Extern.BytealgIndexByte.indexByte := by kernel_rfl
theorem ext3 : Extern.findNext Go.Proofs.Tryz.f269 = none := by kernel_rfl
theorem ext4 : Extern.find Go.Proofs.Tryz.f269 = some add64Entry := by kernel_rfl
def tab (l : List Giv) : Tab := tabOf Go.Proofs.Tryz.prog 180 269 runs l
theorem extOk (l : List Giv) : ExtOk Go.Proofs.Tryz.prog (tab l) := extOk_of (i := 180) (a := 269) rfl Go.Proofs.Tryz.func180 ext1 ext2 Go.Proofs.Tryz.func269 ext3 ext4
theorem runOk (l : List Giv) : RunOk Go.Proofs.Tryz.prog (tab l) := runOk_of runs (fun _ => rfl) runsAll
def two : Value := .agg #[.bool false, .int .u64 0, .int .u64 2, .int .i64 0]
def st (l : List UInt8) : Value := .string ⟨⟨l⟩⟩
def g1 : Giv := ⟨137, [two], .bool true⟩
theorem c1 : chkG Go.Proofs.Tryz.prog (tab []) g1 = true := by kernel_rfl
def g2 : Giv := ⟨181, [st [50]], .tuple #[two, .int .i64 0]⟩
theorem c2 : chkG Go.Proofs.Tryz.prog (tab [g1]) g2 = true := by kernel_rfl
def g3 : Giv := ⟨177, [two], .tuple #[st [50], .int .i64 0]⟩
theorem c3 : chkG Go.Proofs.Tryz.prog (tab [g2, g1]) g3 = true := by kernel_rfl
end
end Go.EvK
end
