/- A part of the proof in YtbncpcdooinpjaaGreatDoorTypes12: lemmas and contracts; nothing is claimed here. -/
import Derived.Test.YtbncpcdooinpjaaGreatDoorTypes9
import Derived.Test.YtbncpcdooinpjaaGreatDoorCards
import Derived.Test.YtbncpcdooinpjaaGreatDoorTie
import Derived.Lay
import Derived.Deep.DeepWitnessRowRef
import Derived.ProofKit
import Derived.OpenShut
set_option linter.unusedVariables false
set_option linter.unusedSimpArgs false
section
set_option maxRecDepth 100000
namespace Go.EvT
open Go.Proofs Go.Ev Go.Proofs Go.ChangeShapes Go.WideShapes Go.RowKit Go.Lib
namespace RW
open Go.Proofs.YtbncpcdooinpjaaGreatDoor
theorem rd_build0 (ds : List U.D) (h : ds.map D.t = U.tys 0) : ∃ x : U.car 0, U.get 0 x = ds := by
  have h : ds.map D.t = [.str, .str, (.sl (.st 1)), (.sl (.st 3)), (.sl (.st 4))] := h
  rcases ds with _ | ⟨⟨t0, x0⟩, _ | ⟨⟨t1, x1⟩, _ | ⟨⟨t2, x2⟩, _ | ⟨⟨t3, x3⟩, _ | ⟨⟨t4, x4⟩, _ | ⟨w, ws⟩⟩⟩⟩⟩⟩
  · cases h
  · cases h
  · cases h
  · cases h
  · cases h
  · cases h
    exact ⟨(⟨x0, x1, x2, x3, x4⟩ : Model), rfl⟩
  · cases h
theorem rd_build1 (ds : List U.D) (h : ds.map D.t = U.tys 1) : ∃ x : U.car 1, U.get 1 x = ds := by
  have h : ds.map D.t = [.str, (.st 2), .str] := h
  rcases ds with _ | ⟨⟨t0, x0⟩, _ | ⟨⟨t1, x1⟩, _ | ⟨⟨t2, x2⟩, _ | ⟨w, ws⟩⟩⟩⟩
  · cases h
  · cases h
  · cases h
  · cases h
    exact ⟨(⟨x0, x1, x2⟩ : Item), rfl⟩
  · cases h
theorem rd_build2 (ds : List U.D) (h : ds.map D.t = U.tys 2) : ∃ x : U.car 2, U.get 2 x = ds := by
  have h : ds.map D.t = [(.int .i64), (.int .i64)] := h
  rcases ds with _ | ⟨⟨t0, x0⟩, _ | ⟨⟨t1, x1⟩, _ | ⟨w, ws⟩⟩⟩
  · cases h
  · cases h
  · cases h
    exact ⟨(⟨x0, x1⟩ : Typ), rfl⟩
  · cases h
theorem rd_build3 (ds : List U.D) (h : ds.map D.t = U.tys 3) : ∃ x : U.car 3, U.get 3 x = ds := by
  have h : ds.map D.t = [.str, .str, .str] := h
  rcases ds with _ | ⟨⟨t0, x0⟩, _ | ⟨⟨t1, x1⟩, _ | ⟨⟨t2, x2⟩, _ | ⟨w, ws⟩⟩⟩⟩
  · cases h
  · cases h
  · cases h
  · cases h
    exact ⟨(⟨x0, x1, x2⟩ : Input), rfl⟩
  · cases h
theorem rd_build4 (ds : List U.D) (h : ds.map D.t = U.tys 4) : ∃ x : U.car 4, U.get 4 x = ds := by
  have h : ds.map D.t = [.str, .str, .str, (.sl .str), .str, (.st 5)] := h
  rcases ds with _ | ⟨⟨t0, x0⟩, _ | ⟨⟨t1, x1⟩, _ | ⟨⟨t2, x2⟩, _ | ⟨⟨t3, x3⟩, _ | ⟨⟨t4, x4⟩, _ | ⟨⟨t5, x5⟩, _ | ⟨w, ws⟩⟩⟩⟩⟩⟩⟩
  · cases h
  · cases h
  · cases h
  · cases h
  · cases h
  · cases h
  · cases h
    exact ⟨(⟨x0, x1, x2, x3, x4, x5⟩ : Decision), rfl⟩
  · cases h
theorem rd_build5 (ds : List U.D) (h : ds.map D.t = U.tys 5) : ∃ x : U.car 5, U.get 5 x = ds := by
  have h : ds.map D.t = [(.int .i64), (.sl (.st 6)), (.sl (.st 6)), (.sl (.st 7)), (.sl .str)] := h
  rcases ds with _ | ⟨⟨t0, x0⟩, _ | ⟨⟨t1, x1⟩, _ | ⟨⟨t2, x2⟩, _ | ⟨⟨t3, x3⟩, _ | ⟨⟨t4, x4⟩, _ | ⟨w, ws⟩⟩⟩⟩⟩⟩
  · cases h
  · cases h
  · cases h
  · cases h
  · cases h
  · cases h
    exact ⟨(⟨x0, x1, x2, x3, x4⟩ : Tabl), rfl⟩
  · cases h
theorem rd_build6 (ds : List U.D) (h : ds.map D.t = U.tys 6) : ∃ x : U.car 6, U.get 6 x = ds := by
  have h : ds.map D.t = [.str, .str, (.sl .str)] := h
  rcases ds with _ | ⟨⟨t0, x0⟩, _ | ⟨⟨t1, x1⟩, _ | ⟨⟨t2, x2⟩, _ | ⟨w, ws⟩⟩⟩⟩
  · cases h
  · cases h
  · cases h
  · cases h
    exact ⟨(⟨x0, x1, x2⟩ : Column), rfl⟩
  · cases h
theorem rd_build7 (ds : List U.D) (h : ds.map D.t = U.tys 7) : ∃ x : U.car 7, U.get 7 x = ds := by
  have h : ds.map D.t = [(.sl .str), (.sl .str)] := h
  rcases ds with _ | ⟨⟨t0, x0⟩, _ | ⟨⟨t1, x1⟩, _ | ⟨w, ws⟩⟩⟩
  · cases h
  · cases h
  · cases h
    exact ⟨(⟨x0, x1⟩ : Rule), rfl⟩
  · cases h
theorem rd_build : ∀ id ds, ds.map D.t = U.tys id → U.tys id ≠ [] → ∃ x, U.get id x = ds
  | 0, ds, h, _ => rd_build0 ds h
  | 1, ds, h, _ => rd_build1 ds h
  | 2, ds, h, _ => rd_build2 ds h
  | 3, ds, h, _ => rd_build3 ds h
  | 4, ds, h, _ => rd_build4 ds h
  | 5, ds, h, _ => rd_build5 ds h
  | 6, ds, h, _ => rd_build6 ds h
  | 7, ds, h, _ => rd_build7 ds h
  | _ + 8, ds, _, hne => absurd rfl hne
theorem rdok : RdOk Tryz.prog U tyL := ⟨by kernel_rfl, rd_build⟩
theorem bulkAll {H : Type} : ∀ l : List (DataW H), Rows.uptoBulkAll l = sumB Rows.uptoBulk l
  | [] => rfl
  | d :: r => by simp only [Rows.uptoBulkAll, sumB, bulkAll r]
theorem bulkOk (H : Type) : BulkOk (Rows.uptoBulk (H := H)) where
  lit l := by cases l <;> simp [Rows.uptoBulk]
  str bytes := by simp [Rows.uptoBulk]
  nil := by simp [Rows.uptoBulk]
  slice es rs := by simp only [Rows.uptoBulk, bulkAll]; omega
  agg es := by simp only [Rows.uptoBulk, bulkAll]; omega
theorem sumB_le {H : Type} : ∀ a b : List (DataW H), sumB Rows.uptoBulk a ≤ sumB Rows.uptoBulk (a ++ b)
  | [], _ => Nat.zero_le _
  | d :: a, b => by
    have := sumB_le a b
    simp only [List.cons_append, sumB]
    omega
theorem own : ownKnob Tryz.prog.godebug = none := by kernel_rfl
theorem laidOut : laidOutB Tryz.prog = true := by kernel_rfl
end RW
end Go.EvT
end
section
set_option maxRecDepth 100000
namespace Go.EvT
open Go.Ev Go Go.Lib
theorem db_up {a b : Nat} {d : U.D} (h : DB U a d) (hab : a ≤ b) : DB U b d := by
  cases h with
  | int h1 h2 => exact .int h1 (by omega)
  | bool h1 => exact .bool (by omega)
  | str h1 => exact .str (by omega)
  | sl h1 h2 => exact .sl h1 (by omega)
  | arr h1 h2 => exact .arr h1 (by omega)
  | st h1 h2 => exact .st h1 (by omega)
theorem dbl_all : ∀ {N : Nat} {ds : List U.D}, DBL U N ds → ds.length ≤ N ∧ ∀ d ∈ ds, DB U N d
  | N, [], _ => ⟨Nat.zero_le _, fun d h => by cases h⟩
  | N, d :: ds, h => by
    cases h with
    | @cons a b _ _ _ h1 h2 h3 =>
      obtain ⟨g1, g2⟩ := dbl_all h2
      have h1' : 1 ≤ a := by cases h1 <;> omega
      refine ⟨by simp only [List.length_cons]; omega, fun x hx => ?_⟩
      cases hx with
      | head => exact db_up h1 (by omega)
      | tail _ hx => exact db_up (g2 x hx) (by omega)
theorem db_sl {N : Nat} {e : Ty} {l : List (e.den U.car)} (h : DB U N ⟨.sl e, l⟩) : l.length + 1 ≤ N ∧ ∀ x ∈ l, DB U N ⟨e, x⟩ := by
  cases h with
  | sl h1 h2 =>
    obtain ⟨g1, g2⟩ := dbl_all h1
    rw [List.length_map] at g1
    exact ⟨by omega, fun x hx => db_up (g2 _ (List.mem_map_of_mem hx)) (by omega)⟩
theorem db_st {N id : Nat} {x : U.car id} (h : DB U N ⟨.st id, x⟩) : ∀ d ∈ U.get id x, DB U N d := by
  cases h with
  | st h1 h2 => exact fun d hd => db_up ((dbl_all h1).2 d hd) (by omega)
theorem col_ok {N : Nat} {c : Column} (h : DB U N ⟨.st 6, c⟩) (hN : N ≤ 1048576) : ColOk c := by
  have h := (db_sl (db_st h ⟨.sl .str, c.values⟩ (.tail _ (.tail _ (.head _))))).1
  show c.values.length ≤ 1048576
  have : c.values.length + 1 ≤ N := h
  omega
theorem rule_ok {N : Nat} {c : Rule} (h : DB U N ⟨.st 7, c⟩) (hN : N ≤ 1048576) : RuleOk c := by
  have h1 : c.tests.length + 1 ≤ N := (db_sl (db_st h ⟨.sl .str, c.tests⟩ (.head _))).1
  have h2 : c.says.length + 1 ≤ N := (db_sl (db_st h ⟨.sl .str, c.says⟩ (.tail _ (.head _)))).1
  exact ⟨by show c.tests.length ≤ 1048576; omega, by show c.says.length ≤ 1048576; omega⟩
theorem tabl_ok {N : Nat} {t : Tabl} (h : DB U N ⟨.st 5, t⟩) (hN : N ≤ 1048576) : TablOk t := by
  have h1 := db_sl (db_st h ⟨.sl (.st 6), t.ins⟩ (.tail _ (.head _)))
  have h2 := db_sl (db_st h ⟨.sl (.st 6), t.outs⟩ (.tail _ (.tail _ (.head _))))
  have h3 := db_sl (db_st h ⟨.sl (.st 7), t.rules⟩ (.tail _ (.tail _ (.tail _ (.head _)))))
  have h4 : t.default.length + 1 ≤ N := (db_sl (db_st h ⟨.sl .str, t.default⟩ (.tail _ (.tail _ (.tail _ (.tail _ (.head _))))))).1
  have g1 : t.ins.length + 1 ≤ N := h1.1
  have g2 : t.outs.length + 1 ≤ N := h2.1
  have g3 : t.rules.length + 1 ≤ N := h3.1
  exact ⟨by show t.ins.length ≤ 1048576; omega, by show t.outs.length ≤ 1048576; omega, by show t.rules.length ≤ 1048576; omega, by show t.default.length ≤ 1048576; omega,
    fun c hc => col_ok (h1.2 c hc) hN, fun c hc => col_ok (h2.2 c hc) hN, fun c hc => rule_ok (h3.2 c hc) hN⟩
theorem dec_ok {N : Nat} {d : Decision} (h : DB U N ⟨.st 4, d⟩) (hN : N ≤ 1048576) : DecOk d := by
  have h1 : d.needs.length + 1 ≤ N := (db_sl (db_st h ⟨.sl .str, d.needs⟩ (.tail _ (.tail _ (.tail _ (.head _)))))).1
  have h2 := db_st h ⟨.st 5, d.table⟩ (.tail _ (.tail _ (.tail _ (.tail _ (.tail _ (.head _))))))
  exact ⟨by show d.needs.length ≤ 1048576; omega, tabl_ok h2 hN⟩
theorem dbl_cons {N : Nat} {d : U.D} {ds : List U.D} (h : DBL U N (d :: ds)) : ∃ a b, DB U a d ∧ DBL U b ds ∧ a + b ≤ N := by
  cases h with
  | cons h1 h2 h3 => exact ⟨_, _, h1, h2, h3⟩
theorem dbl_flat {e : Ty} {g : e.den U.car → List ByteArray} (hg : ∀ x n, DB U n ⟨e, x⟩ → (g x).length ≤ n) : ∀ (l : List (e.den U.car)) (N : Nat), DBL U N (l.map (D.mk e)) → (l.flatMap g).length ≤ N
  | [], N, _ => Nat.zero_le _
  | x :: l, N, h => by
    obtain ⟨a, b, h1, h2, h3⟩ := dbl_cons h
    have := dbl_flat hg l b h2
    have := hg x a h1
    rw [List.flatMap_cons, List.length_append]
    omega
theorem db_flat {e : Ty} {g : e.den U.car → List ByteArray} (hg : ∀ x n, DB U n ⟨e, x⟩ → (g x).length ≤ n) {l : List (e.den U.car)} {N : Nat} (h : DB U N ⟨.sl e, l⟩) : (l.flatMap g).length + 1 ≤ N := by
  cases h with
  | sl h1 h2 =>
    have := dbl_flat hg l _ h1
    omega
theorem db_str {N : Nat} {s : ByteArray} (h : DB U N ⟨.str, s⟩) : s.size + 1 ≤ N := by
  cases h with
  | str h => exact h
theorem db_str1 {N : Nat} {s : ByteArray} (h : DB U N ⟨.str, s⟩) : 1 ≤ N := by
  have := db_str h
  omega
theorem db_in {N id : Nat} {x : U.car id} (h : DB U N ⟨.st id, x⟩) : ∃ M, DBL U M (U.get id x) ∧ M + 1 ≤ N := by
  cases h with
  | st h1 h2 => exact ⟨_, h1, h2⟩
theorem db_len {N : Nat} {e : Ty} {l : List (e.den U.car)} (h : DB U N ⟨.sl e, l⟩) : l.length + 1 ≤ N := (db_sl h).1
theorem item_len (x : Item) (n : Nat) (h : DB U n ⟨.st 1, x⟩) : (itemT x).length ≤ n := by
  obtain ⟨M, h, hM⟩ := db_in h
  obtain ⟨a, b, h1, h, e⟩ := dbl_cons (show DBL U M [⟨.str, x.name⟩, ⟨.st 2, x.type_⟩, ⟨.str, x.allowed⟩] from h)
  have := db_str1 h1
  show 2 ≤ n
  omega
theorem input_len (x : Input) (n : Nat) (h : DB U n ⟨.st 3, x⟩) : (inputT x).length ≤ n := by
  obtain ⟨M, h, hM⟩ := db_in h
  obtain ⟨a, b, h1, h, e⟩ := dbl_cons (show DBL U M [⟨.str, x.id⟩, ⟨.str, x.name⟩, ⟨.str, x.item⟩] from h)
  obtain ⟨a2, b2, h2, h, e2⟩ := dbl_cons h
  have := db_str1 h1
  have := db_str1 h2
  show 3 ≤ n
  omega
theorem col_len (x : Column) (n : Nat) (h : DB U n ⟨.st 6, x⟩) : (colT x).length ≤ n := by
  obtain ⟨M, h, hM⟩ := db_in h
  obtain ⟨a, b, h1, h, e⟩ := dbl_cons (show DBL U M [⟨.str, x.text⟩, ⟨.str, x.item⟩, ⟨.sl .str, x.values⟩] from h)
  obtain ⟨a2, b2, h2, h, e2⟩ := dbl_cons h
  obtain ⟨a3, b3, h3, h, e3⟩ := dbl_cons h
  have := db_str1 h1
  have := db_str1 h2
  have h4 : x.values.length + 1 ≤ a3 := db_len h3
  have : (colT x).length = 2 + x.values.length := by simp [colT]; omega
  omega
theorem rule_len (x : Rule) (n : Nat) (h : DB U n ⟨.st 7, x⟩) : (ruleT x).length ≤ n := by
  obtain ⟨M, h, hM⟩ := db_in h
  obtain ⟨a, b, h1, h, e⟩ := dbl_cons (show DBL U M [⟨.sl .str, x.tests⟩, ⟨.sl .str, x.says⟩] from h)
  obtain ⟨a2, b2, h2, h, e2⟩ := dbl_cons h
  have h4 : x.tests.length + 1 ≤ a := db_len h1
  have h5 : x.says.length + 1 ≤ a2 := db_len h2
  have : (ruleT x).length = x.tests.length + x.says.length := by simp [ruleT]
  omega
theorem tab_len (x : Tabl) (n : Nat) (h : DB U n ⟨.st 5, x⟩) : (tabT x).length ≤ n := by
  obtain ⟨M, h, hM⟩ := db_in h
  obtain ⟨a, b, h1, h, e⟩ := dbl_cons (show DBL U M [⟨.int .i64, x.policy⟩, ⟨.sl (.st 6), x.ins⟩, ⟨.sl (.st 6), x.outs⟩, ⟨.sl (.st 7), x.rules⟩, ⟨.sl .str, x.default⟩] from h)
  obtain ⟨a2, b2, h2, h, e2⟩ := dbl_cons h
  obtain ⟨a3, b3, h3, h, e3⟩ := dbl_cons h
  obtain ⟨a4, b4, h4, h, e4⟩ := dbl_cons h
  obtain ⟨a5, b5, h5, h, e5⟩ := dbl_cons h
  have g2 : (x.ins.flatMap colT).length + 1 ≤ a2 := db_flat (e := .st 6) (g := colT) col_len h2
  have g3 : (x.outs.flatMap colT).length + 1 ≤ a3 := db_flat (e := .st 6) (g := colT) col_len h3
  have g4 : (x.rules.flatMap ruleT).length + 1 ≤ a4 := db_flat (e := .st 7) (g := ruleT) rule_len h4
  have g5 : x.default.length + 1 ≤ a5 := db_len h5
  have : (tabT x).length = (x.ins.flatMap colT).length + (x.outs.flatMap colT).length + (x.rules.flatMap ruleT).length + x.default.length := by
    unfold tabT
    rw [List.length_append, List.length_append, List.flatMap_append, List.length_append]
  omega
theorem dec_len (x : Decision) (n : Nat) (h : DB U n ⟨.st 4, x⟩) : (decT x).length ≤ n := by
  obtain ⟨M, h, hM⟩ := db_in h
  obtain ⟨a, b, h1, h, e⟩ := dbl_cons (show DBL U M [⟨.str, x.id⟩, ⟨.str, x.name⟩, ⟨.str, x.item⟩, ⟨.sl .str, x.needs⟩, ⟨.str, x.text⟩, ⟨.st 5, x.table⟩] from h)
  obtain ⟨a2, b2, h2, h, e2⟩ := dbl_cons h
  obtain ⟨a3, b3, h3, h, e3⟩ := dbl_cons h
  obtain ⟨a4, b4, h4, h, e4⟩ := dbl_cons h
  obtain ⟨a5, b5, h5, h, e5⟩ := dbl_cons h
  obtain ⟨a6, b6, h6, h, e6⟩ := dbl_cons h
  have := db_str1 h1
  have := db_str1 h2
  have := db_str1 h3
  have := db_str1 h5
  have g4 : x.needs.length + 1 ≤ a4 := db_len h4
  have g6 := tab_len x.table a6 h6
  have : (decT x).length = 4 + x.needs.length + (tabT x.table).length := by simp [decT]; omega
  omega
theorem mod_len (x : Model) (n : Nat) (h : DB U n ⟨.st 0, x⟩) : (modT x).length ≤ n := by
  obtain ⟨M, h, hM⟩ := db_in h
  obtain ⟨a, b, h1, h, e⟩ := dbl_cons (show DBL U M [⟨.str, x.id⟩, ⟨.str, x.name⟩, ⟨.sl (.st 1), x.items⟩, ⟨.sl (.st 3), x.inputs⟩, ⟨.sl (.st 4), x.decisions⟩] from h)
  obtain ⟨a2, b2, h2, h, e2⟩ := dbl_cons h
  obtain ⟨a3, b3, h3, h, e3⟩ := dbl_cons h
  obtain ⟨a4, b4, h4, h, e4⟩ := dbl_cons h
  obtain ⟨a5, b5, h5, h, e5⟩ := dbl_cons h
  have := db_str1 h1
  have := db_str1 h2
  have g3 : (x.items.flatMap itemT).length + 1 ≤ a3 := db_flat (e := .st 1) (g := itemT) item_len h3
  have g4 : (x.inputs.flatMap inputT).length + 1 ≤ a4 := db_flat (e := .st 3) (g := inputT) input_len h4
  have g5 : (x.decisions.flatMap decT).length + 1 ≤ a5 := db_flat (e := .st 4) (g := decT) dec_len h5
  have : (modT x).length = 2 + (x.items.flatMap itemT).length + (x.inputs.flatMap inputT).length + (x.decisions.flatMap decT).length := by
    unfold modT
    rw [List.length_append, List.length_append, List.length_append]
    rfl
  omega
theorem mod_ok {N : Nat} {m : Model} (h : DB U N ⟨.st 0, m⟩) (hN : N ≤ 1048576) : ModOk m := by
  have h1 : m.items.length + 1 ≤ N := (db_sl (db_st h ⟨.sl (.st 1), m.items⟩ (.tail _ (.tail _ (.head _))))).1
  have h2 : m.inputs.length + 1 ≤ N := (db_sl (db_st h ⟨.sl (.st 3), m.inputs⟩ (.tail _ (.tail _ (.tail _ (.head _)))))).1
  have h3 := db_sl (db_st h ⟨.sl (.st 4), m.decisions⟩ (.tail _ (.tail _ (.tail _ (.tail _ (.head _))))))
  have g3 : m.decisions.length + 1 ≤ N := h3.1
  exact ⟨by show m.items.length ≤ 1048576; omega, by show m.inputs.length ≤ 1048576; omega, by show m.decisions.length ≤ 1048576; omega, fun d hd => dec_ok (h3.2 d hd) hN, Nat.le_trans (mod_len m N h) hN⟩
end Go.EvT
end
