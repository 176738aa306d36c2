/- A part of the proof in YtbncpcdooinpjaaGreatDoorTypes12: lemmas and contracts; nothing is claimed here. -/
import Derived.Test.YtbncpcdooinpjaaGreatDoorTypes6
set_option linter.unusedVariables false
set_option linter.unusedSimpArgs false
section
set_option maxRecDepth 1000000
namespace Go.EvK
open Go Go.Ew
noncomputable section
def num : Value := .agg #[.int .i64 2, .int .i64 0]
def g4 : Giv := ⟨39, [st [109]], .bool true⟩
theorem c4 : chkG Go.Proofs.Tryz.prog (tab [g3, g2, g1]) g4 = true := by kernel_rfl
def g5 : Giv := ⟨39, [st [105]], .bool true⟩
theorem c5 : chkG Go.Proofs.Tryz.prog (tab [g4, g3, g2, g1]) g5 = true := by kernel_rfl
def g6 : Giv := ⟨39, [st [120]], .bool true⟩
theorem c6 : chkG Go.Proofs.Tryz.prog (tab [g5, g4, g3, g2, g1]) g6 = true := by kernel_rfl
def g7 : Giv := ⟨39, [st [100]], .bool true⟩
theorem c7 : chkG Go.Proofs.Tryz.prog (tab [g6, g5, g4, g3, g2, g1]) g7 = true := by kernel_rfl
def g8 : Giv := ⟨39, [st [121]], .bool true⟩
theorem c8 : chkG Go.Proofs.Tryz.prog (tab [g7, g6, g5, g4, g3, g2, g1]) g8 = true := by kernel_rfl
def g9 : Giv := ⟨40, [st []], .bool true⟩
theorem c9 : chkG Go.Proofs.Tryz.prog (tab [g8, g7, g6, g5, g4, g3, g2, g1]) g9 = true := by kernel_rfl
def g10 : Giv := ⟨40, [st [122]], .bool true⟩
theorem c10 : chkG Go.Proofs.Tryz.prog (tab [g9, g8, g7, g6, g5, g4, g3, g2, g1]) g10 = true := by kernel_rfl
def g11 : Giv := ⟨40, [st [120, 32, 42, 32, 50]], .bool true⟩
theorem c11 : chkG Go.Proofs.Tryz.prog (tab [g10, g9, g8, g7, g6, g5, g4, g3, g2, g1]) g11 = true := by kernel_rfl
def g12 : Giv := ⟨14, [st [110, 117, 109, 98, 101, 114]], .tuple #[num, .int .i64 0]⟩
theorem c12 : chkG Go.Proofs.Tryz.prog (tab [g11, g10, g9, g8, g7, g6, g5, g4, g3, g2, g1]) g12 = true := by kernel_rfl
def g13 : Giv := ⟨79, [st [122], .bool false], .tuple #[st [122], .int .i64 0]⟩
theorem c13 : chkG Go.Proofs.Tryz.prog (tab [g12, g11, g10, g9, g8, g7, g6, g5, g4, g3, g2, g1]) g13 = true := by kernel_rfl
def g14 : Giv := ⟨79, [st [120, 32, 42, 32, 50], .bool false], .tuple #[st [120, 32, 42, 32, 50], .int .i64 0]⟩
theorem c14 : chkG Go.Proofs.Tryz.prog (tab [g13, g12, g11, g10, g9, g8, g7, g6, g5, g4, g3, g2, g1]) g14 = true := by kernel_rfl
end
end Go.EvK
end
