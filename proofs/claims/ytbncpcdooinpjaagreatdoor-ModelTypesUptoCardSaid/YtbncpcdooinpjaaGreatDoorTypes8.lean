/- A part of the proof in YtbncpcdooinpjaaGreatDoorTypes12: lemmas and contracts; nothing is claimed here. -/
import Derived.Test.YtbncpcdooinpjaaGreatDoorTypes7
set_option linter.unusedVariables false
set_option linter.unusedSimpArgs false
section
set_option maxRecDepth 1000000
namespace Go.EvK
open Go Go.Ew
noncomputable section
def gk : Giv := ⟨4, [], .bool true⟩
theorem ck : chkG Go.Proofs.Tryz.prog (tab [g14, g13, g12, g11, g10, g9, g8, g7, g6, g5, g4, g3, g2, g1]) gk = true := by kernel_rfl
theorem given0 : GivenOk Go.Proofs.Tryz.prog (tab []) := given_nil
theorem given1 : GivenOk Go.Proofs.Tryz.prog (tab [g1]) := given_cons (extOk _) (runOk _) given0 c1
theorem given2 : GivenOk Go.Proofs.Tryz.prog (tab [g2, g1]) := given_cons (extOk _) (runOk _) given1 c2
theorem given3 : GivenOk Go.Proofs.Tryz.prog (tab [g3, g2, g1]) := given_cons (extOk _) (runOk _) given2 c3
theorem given4 : GivenOk Go.Proofs.Tryz.prog (tab [g4, g3, g2, g1]) := given_cons (extOk _) (runOk _) given3 c4
theorem given5 : GivenOk Go.Proofs.Tryz.prog (tab [g5, g4, g3, g2, g1]) := given_cons (extOk _) (runOk _) given4 c5
theorem given6 : GivenOk Go.Proofs.Tryz.prog (tab [g6, g5, g4, g3, g2, g1]) := given_cons (extOk _) (runOk _) given5 c6
theorem given7 : GivenOk Go.Proofs.Tryz.prog (tab [g7, g6, g5, g4, g3, g2, g1]) := given_cons (extOk _) (runOk _) given6 c7
theorem given8 : GivenOk Go.Proofs.Tryz.prog (tab [g8, g7, g6, g5, g4, g3, g2, g1]) := given_cons (extOk _) (runOk _) given7 c8
theorem given9 : GivenOk Go.Proofs.Tryz.prog (tab [g9, g8, g7, g6, g5, g4, g3, g2, g1]) := given_cons (extOk _) (runOk _) given8 c9
theorem given10 : GivenOk Go.Proofs.Tryz.prog (tab [g10, g9, g8, g7, g6, g5, g4, g3, g2, g1]) := given_cons (extOk _) (runOk _) given9 c10
theorem given11 : GivenOk Go.Proofs.Tryz.prog (tab [g11, g10, g9, g8, g7, g6, g5, g4, g3, g2, g1]) := given_cons (extOk _) (runOk _) given10 c11
theorem given12 : GivenOk Go.Proofs.Tryz.prog (tab [g12, g11, g10, g9, g8, g7, g6, g5, g4, g3, g2, g1]) := given_cons (extOk _) (runOk _) given11 c12
theorem given13 : GivenOk Go.Proofs.Tryz.prog (tab [g13, g12, g11, g10, g9, g8, g7, g6, g5, g4, g3, g2, g1]) := given_cons (extOk _) (runOk _) given12 c13
theorem given14 : GivenOk Go.Proofs.Tryz.prog (tab [g14, g13, g12, g11, g10, g9, g8, g7, g6, g5, g4, g3, g2, g1]) := given_cons (extOk _) (runOk _) given13 c14
theorem known_calls (w : World) : Calls Go.Proofs.Tryz.prog 4 #[] w fun e w' => match e with
      | .returned u => u = .bool true ∧ ∃ φ hp, HSim w φ hp w'
      | _ => False := by
  obtain ⟨c, hm, h1, h2⟩ := chkG_some ck
  exact closed_call (tyOf_ok _ _ rfl) (extOk _) (runOk _) given14 h1 rfl h2 w
end
end Go.EvK
end
