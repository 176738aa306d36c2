/- A part of the proof in YtlpfolhckkcopaaGreatDoorMatch7: lemmas and contracts; nothing is claimed here. -/
import Derived.Test.YtlpfolhckkcopaaGreatDoorMatch4
import Derived.Laws.Bits64
import Derived.Laws.BitsLemmas
import Derived.Lib.RuneCountTail
import Derived.Lib.ValidLaws
set_option linter.unusedVariables false
set_option linter.unusedSimpArgs false
section
set_option maxRecDepth 100000
namespace Go.EvT
open Go.Proofs Go.Ev
def tariffref07_Count.S : Sig := ⟨[.d (.int .i64)], []⟩
def tariffref07_Count.P : List PM := [.d (.st 3), .d (.int .i64)]
def tariffref07_Same.S : Sig := ⟨[.d .bool], []⟩
def tariffref07_Same.P : List PM := [.d (.st 3), .d (.st 3)]
def tariffref12_SameAll.S : Sig := ⟨[.d .bool], []⟩
def tariffref12_SameAll.P : List PM := [.d (.sl (.st 3)), .d (.sl (.st 3))]
def tarifflaw12_known.S : Sig := ⟨[.d .bool], []⟩
def tarifflaw12_known.P : List PM := []
def tariffref10_kids.S : Sig := ⟨[.d .bool], []⟩
def tariffref10_kids.P : List PM := [.d (.int .i64), .d (.int .i64)]
def tariffref10_stack.S : Sig := ⟨[.d (.sl (.sl (.int .i64))), .d (.sl (.int .i64)), .d .bool], []⟩
def tariffref10_stack.P : List PM := [.d (.sl (.st 0)), .d (.int .i64)]
def tariffref01_twice.S : Sig := ⟨[.d (.sl (.int .i64))], []⟩
def tariffref01_twice.P : List PM := [.d (.sl (.int .i64)), .d (.int .i64)]
def tariffref01_words.S : Sig := ⟨[.d (.sl (.int .i64))], []⟩
def tariffref01_words.P : List PM := [.d (.sl (.int .u64))]
def tariffref01_Of.S : Sig := ⟨[.d (.sl (.int .i64))], []⟩
def tariffref01_Of.P : List PM := [.d (.st 2)]
def tariffref02_Form.S : Sig := ⟨[.d .bool], []⟩
def tariffref02_Form.P : List PM := [.d (.st 1)]
def tariffref04_tail.S : Sig := ⟨[.d (.int .i64), .d .bool], []⟩
def tariffref04_tail.P : List PM := [.d .str, .d (.int .i64)]
def tariffref04_one.S : Sig := ⟨[.d (.int .i64), .d (.int .i64), .d .bool], []⟩
def tariffref04_one.P : List PM := [.d .str, .d (.int .i64)]
def tariffref04_Char.S : Sig := ⟨[.d .bool], []⟩
def tariffref04_Char.P : List PM := [.d (.int .i64)]
def tariffref04_Chars.S : Sig := ⟨[.d (.sl (.int .i64)), .d .bool], []⟩
def tariffref04_Chars.P : List PM := [.d .str]
def tariffref04_Valid.S : Sig := ⟨[.d .bool], []⟩
def tariffref04_Valid.P : List PM := [.d .str]
def tariffref03_Is.S : Sig := ⟨[.d .bool], []⟩
def tariffref03_Is.P : List PM := [.d (.int .i64)]
def tariffref04_Letter.S : Sig := ⟨[.d .bool], []⟩
def tariffref04_Letter.P : List PM := [.d (.int .u8)]
def tariffref04_Word.S : Sig := ⟨[.d .bool], []⟩
def tariffref04_Word.P : List PM := [.d .str]
def tariffref04_Digit.S : Sig := ⟨[.d .bool], []⟩
def tariffref04_Digit.P : List PM := [.d (.int .u8)]
def tariffref04_Name.S : Sig := ⟨[.d .bool], []⟩
def tariffref04_Name.P : List PM := [.d .str]
def tariffref10_fields.S : Sig := ⟨[.d .bool], []⟩
def tariffref10_fields.P : List PM := [.d (.st 0)]
def tariffref10_sort.S : Sig := ⟨[.d (.int .i64)], []⟩
def tariffref10_sort.P : List PM := [.d (.int .i64)]
def tariffref10_wants.S : Sig := ⟨[.d (.int .i64)], []⟩
def tariffref10_wants.P : List PM := [.d (.int .i64), .d (.int .i64)]
def tariffref10_twice.S : Sig := ⟨[.d .bool], []⟩
def tariffref10_twice.P : List PM := [.d (.sl (.st 0)), .d (.sl (.int .i64))]
def tariffref10_Check.S : Sig := ⟨[.d (.int .i64)], []⟩
def tariffref10_Check.P : List PM := [.d (.sl (.st 0)), .d .bool]
def tariffref07_depth.S : Sig := ⟨[.d (.int .i64)], []⟩
def tariffref07_depth.P : List PM := [.d (.st 3)]
def tariffref07_bare.S : Sig := ⟨[.d .bool], []⟩
def tariffref07_bare.P : List PM := [.d (.st 3)]
def tariffref07_form.S : Sig := ⟨[.d .bool], []⟩
def tariffref07_form.P : List PM := [.d (.st 3)]
def tariffref07_Check.S : Sig := ⟨[.d (.int .i64)], []⟩
def tariffref07_Check.P : List PM := [.d (.st 3)]
def tariffref10_Places.S : Sig := ⟨[.d (.sl (.sl (.int .i64)))], []⟩
def tariffref10_Places.P : List PM := [.d (.sl (.st 0))]
def tariffref12_isTest.S : Sig := ⟨[.d .bool], []⟩
def tariffref12_isTest.P : List PM := [.d (.int .i64)]
def tariffref07_Truth.S : Sig := ⟨[.d (.st 3)], []⟩
def tariffref07_Truth.P : List PM := [.d .bool]
def tariffref02_Flip.S : Sig := ⟨[.d (.st 1)], []⟩
def tariffref02_Flip.P : List PM := [.d (.st 1)]
def tariffref12_literal.S : Sig := ⟨[.d (.st 3), .d .bool], []⟩
def tariffref12_literal.P : List PM := [.d (.sl (.st 0)), .d (.sl (.sl (.int .i64))), .d (.int .i64)]
def tariffref12_ends.S : Sig := ⟨[.d (.sl (.st 3)), .d .bool], []⟩
def tariffref12_ends.P : List PM := [.d (.sl (.st 0))]
def tariffref12_Plain.S : Sig := ⟨[.d .bool], []⟩
def tariffref12_Plain.P : List PM := [.d (.sl (.st 0))]
def tariffref07_Not.S : Sig := ⟨[.d (.st 3)], []⟩
def tariffref07_Not.P : List PM := [.d (.st 3)]
def tariffref07_all.S : Sig := ⟨[.d (.st 3)], []⟩
def tariffref07_all.P : List PM := [.d (.sl (.st 3))]
def tariffref07_And.S : Sig := ⟨[.d (.st 3)], []⟩
def tariffref07_And.P : List PM := [.d (.st 3), .d (.st 3)]
def tariffref07_Or.S : Sig := ⟨[.d (.st 3)], []⟩
def tariffref07_Or.P : List PM := [.d (.st 3), .d (.st 3)]
def tariffref07_Find.S : Sig := ⟨[.d (.int .i64)], []⟩
def tariffref07_Find.P : List PM := [.d (.st 3), .d .str]
def tariffref07_Equal.S : Sig := ⟨[.d (.st 3)], []⟩
def tariffref07_Equal.P : List PM := [.d (.st 3), .d (.st 3)]
def tariffref01_Shift.S : Sig := ⟨[.d (.sl (.int .i64))], []⟩
def tariffref01_Shift.P : List PM := [.d (.sl (.int .i64)), .d (.int .i64)]
def tariffref02_Units.S : Sig := ⟨[.d .bool, .d (.sl (.int .i64))], []⟩
def tariffref02_Units.P : List PM := [.d (.st 1)]
def tariffref01_Cut.S : Sig := ⟨[.d (.sl (.int .i64))], []⟩
def tariffref01_Cut.P : List PM := [.d (.sl (.int .i64))]
def tariffref01_Plus.S : Sig := ⟨[.d (.sl (.int .i64))], []⟩
def tariffref01_Plus.P : List PM := [.d (.sl (.int .i64)), .d (.sl (.int .i64))]
def tariffref01_Cmp.S : Sig := ⟨[.d (.int .i64)], []⟩
def tariffref01_Cmp.P : List PM := [.d (.sl (.int .i64)), .d (.sl (.int .i64))]
def tariffref01_Less.S : Sig := ⟨[.d (.sl (.int .i64))], []⟩
def tariffref01_Less.P : List PM := [.d (.sl (.int .i64)), .d (.sl (.int .i64))]
def tariffref02_sum.S : Sig := ⟨[.d .bool, .d (.sl (.int .i64))], []⟩
def tariffref02_sum.P : List PM := [.d .bool, .d (.sl (.int .i64)), .d .bool, .d (.sl (.int .i64))]
def tariffref02_Order.S : Sig := ⟨[.d (.int .i64)], []⟩
def tariffref02_Order.P : List PM := [.d (.st 1), .d (.st 1)]
def tariffref07_Less.S : Sig := ⟨[.d (.st 3)], []⟩
def tariffref07_Less.P : List PM := [.d (.st 3), .d (.st 3)]
def tariffref12_One.S : Sig := ⟨[.d (.st 3)], []⟩
def tariffref12_One.P : List PM := [.d (.st 0), .d (.st 3), .d (.sl (.st 3))]
def tariffref12_says.S : Sig := ⟨[.d (.st 3)], []⟩
def tariffref12_says.P : List PM := [.d (.sl (.st 0)), .d (.sl (.sl (.int .i64))), .d (.int .i64), .d (.st 3)]
def tariffref12_Match.S : Sig := ⟨[.d (.st 3)], []⟩
def tariffref12_Match.P : List PM := [.d (.sl (.st 0)), .d (.st 3)]
def tariffref12_DocMatch.S : Sig := ⟨[.d (.st 3), .d (.int .i64)], []⟩
def tariffref12_DocMatch.P : List PM := [.d (.sl (.st 0)), .d (.st 3)]
def tarifflaw12_UnaryMatches.S : Sig := ⟨[.d .bool], []⟩
def tarifflaw12_UnaryMatches.P : List PM := [.d (.sl (.st 0)), .d (.st 3)]
def tariffref07_Count.l7 (k : Nat) (v1 : Int) (v7 : List Val) : Nat → Int → (List (List Val)) → Int → Option (Int × Int × (List (List Val)))
 | 0, _, _, _ => none
 | n + 1, v5, w6, v8 =>
 ((if (decide (v8 < (v7.length : Int))) = true then
 some (decide (v5 ≤ v1))
 else some false) : Option Bool).bind fun b3 =>
 if b3 = true then
 (idx v7 v8).bind fun e4 =>
 if (decide ((e4.list.length : Int) > (0 : Int))) = true then
 (idx v7 v8).bind fun e5 =>
 if room ((w6.length + ([e5.list] : List (List Val)).length) * 24) then
 tariffref07_Count.l7 k v1 v7 n (IntKind.wrap .i64 (v5 + (1 : Int))) (w6 ++ ([e5.list] : List (List Val))) (IntKind.wrap .i64 (v8 + (1 : Int)))
 else none
 else
 tariffref07_Count.l7 k v1 v7 n (IntKind.wrap .i64 (v5 + (1 : Int))) w6 (IntKind.wrap .i64 (v8 + (1 : Int)))
 else
 some (v1, v5, w6)
def tariffref07_Count.l3 (k : Nat) : Nat → Int → Int → (List (List Val)) → Option (Int)
 | 0, _, _, _ => none
 | n + 1, v1, v5, w6 =>
 ((if (decide ((w6.length : Int) > (0 : Int))) = true then
 some (decide (v5 ≤ v1))
 else some false) : Option Bool).bind fun b1 =>
 if b1 = true then
 if 0 ≤ (IntKind.wrap .i64 ((w6.length : Int) - (1 : Int))) ∧ (IntKind.wrap .i64 ((w6.length : Int) - (1 : Int))) < (w6.length : Int) then
 (idx w6 (IntKind.wrap .i64 ((w6.length : Int) - (1 : Int)))).bind fun e2 =>
 if 0 ≤ (0 : Int) ∧ (0 : Int) ≤ (IntKind.wrap .i64 ((w6.length : Int) - (1 : Int))) ∧ (IntKind.wrap .i64 ((w6.length : Int) - (1 : Int))) ≤ (w6.length : Int) then
 (tariffref07_Count.l7 k v1 e2 k v5 (w6.take ((IntKind.wrap .i64 ((w6.length : Int) - (1 : Int)))).toNat) (0 : Int)).bind fun x6 =>
 tariffref07_Count.l3 k n x6.1 x6.2.1 x6.2.2
 else none
 else none
 else
 some v5
def tariffref07_Count (k : Nat) (a0 : Val) (a1 : Int) : Option (Int) :=
 (tariffref07_Count.l3 k k a1 (0 : Int) ([([a0] : List Val)] : List (List Val))).bind fun x7 =>
 some x7
def tariffref07_Count.u (k : Nat) (v : Val × Int) : Option (Int) := tariffref07_Count k v.1 v.2
def tariffref07_Count.G (k : Nat) : Ctx U := ⟨tyOf, bytesOf, fun f xs => none, fun f xs => none⟩
def tariffref07_Count.l7.L (k : Nat) : ELoop U := ⟨[.slot 1 (.int .i64), .slot 5 (.int .i64), .row 6 (.sl (.st 3)), .slot 7 (.sl (.st 3)), .slot 8 (.int .i64)], 2, [.slot 1 (.int .i64), .slot 5 (.int .i64), .row 6 (.sl (.st 3))], fun (v : Int × Int × (List (List Val)) × (List Val) × Int) => tariffref07_Count.l7 k v.1 v.2.2.2.1 k v.2.1 v.2.2.1 v.2.2.2.2⟩
def tariffref07_Count.l3.L (k : Nat) : ELoop U := ⟨[.slot 1 (.int .i64), .slot 5 (.int .i64), .row 6 (.sl (.st 3))], 0, [.slot 5 (.int .i64)], fun (v : Int × Int × (List (List Val))) => tariffref07_Count.l3 k k v.1 v.2.1 v.2.2⟩
def tariffref07_Count.H (k : Nat) : Hint U := ⟨[], fun i => if i == 60 then some (tariffref07_Count.l3.L k) else if i == 7726 then some (tariffref07_Count.l7.L k) else none, fun i => none, fun i => none⟩
theorem tariffref07_Count.l7.ok (k n : Nat) (v : Vars U (tariffref07_Count.l7.L k).ks) : loopT (tariffref07_Count.G k) (tariffref07_Count.H k) (pick [true, true, true, false, false, false, true, false, true, true, true, false, false] (bodyOf Tryz.f30)) 7726 (tariffref07_Count.l7.L k) n v = (fun (v : Int × Int × (List (List Val)) × (List Val) × Int) => tariffref07_Count.l7 k v.1 v.2.2.2.1 n v.2.1 v.2.2.1 v.2.2.2.2) v :=
  loopT_eq (tariffref07_Count.G k) (tariffref07_Count.H k) _ _ (tariffref07_Count.l7.L k) (fun n (v : Int × Int × (List (List Val)) × (List Val) × Int) => tariffref07_Count.l7 k v.1 v.2.2.2.1 n v.2.1 v.2.2.1 v.2.2.2.2) (fun _ => rfl) (fun n v => by kernel_rfl) n v
theorem tariffref07_Count.l3.ok (k n : Nat) (v : Vars U (tariffref07_Count.l3.L k).ks) : loopT (tariffref07_Count.G k) (tariffref07_Count.H k) (pick [true, true, true, false, false, false] (bodyOf Tryz.f30)) 60 (tariffref07_Count.l3.L k) n v = (fun (v : Int × Int × (List (List Val))) => tariffref07_Count.l3 k n v.1 v.2.1 v.2.2) v :=
  loopT_eq (tariffref07_Count.G k) (tariffref07_Count.H k) _ _ (tariffref07_Count.l3.L k) (fun n (v : Int × Int × (List (List Val))) => tariffref07_Count.l3 k n v.1 v.2.1 v.2.2) (fun _ => rfl) (fun n v => by kernel_rfl) n v
theorem tariffref07_Count.ev (k : Nat) (v : Val × Int) : evFn (tariffref07_Count.G k) (tariffref07_Count.H k) tariffref07_Count.S Tryz.f30 (encA tariffref07_Count.P v) = tariffref07_Count.u k v := by kernel_rfl
theorem tariffref07_Count.fns : Fns Tryz.prog 30 Tryz.f30 tariffref07_Count.P := ⟨Tryz.func30, by kernel_rfl⟩
theorem tariffref07_Count.loops (k : Nat) : LoopsOk (tariffref07_Count.G k) (tariffref07_Count.H k) (bodyOf Tryz.f30) 1 := loops_of (ps := [(60, pick [true, true, true, false, false, false] (bodyOf Tryz.f30)), (7726, pick [true, true, true, false, false, false, true, false, true, true, true, false, false] (bodyOf Tryz.f30))]) (by kernel_rfl) ⟨loopT_ok rfl fun v x hx => ⟨k, (tariffref07_Count.l3.ok k k v).trans hx⟩, ⟨loopT_ok rfl fun v x hx => ⟨k, (tariffref07_Count.l7.ok k k v).trans hx⟩, trivial⟩⟩
theorem tariffref07_Count.call (k : Nat) : FnC Tryz.prog U Lay 30 tariffref07_Count.P tariffref07_Count.S (tariffref07_Count.u k) := fnC hLay ulaw gok (fun f xs => (CallC.none : CallC Tryz.prog U Lay _ f xs)) (fun f xs => (CallC2.none : CallC2 Tryz.prog U Lay _ f xs)) tariffref07_Count.fns (tariffref07_Count.loops k) (tariffref07_Count.ev k)
def tariffref07_Same.l4 (rec_tariffref07_Same : Val → Val → Option (Bool)) (k : Nat) (b2 : Val) (b3 : Val) : Nat → Int → Option (Fl (Val × Val) (Bool))
 | 0, _ => none
 | n + 1, v5 =>
 if (decide (v5 < (b2.names.length : Int))) = true then
 (idx b2.names v5).bind fun e7 =>
 (idx b3.names v5).bind fun e8 =>
 if (!(e7.data.toList == e8.data.toList)) = true then
 some (Fl.ret false)
 else
 tariffref07_Same.l4 rec_tariffref07_Same k b2 b3 n (IntKind.wrap .i64 (v5 + (1 : Int)))
 else
 some (Fl.go (b2, b3))
def tariffref07_Same.l9 (rec_tariffref07_Same : Val → Val → Option (Bool)) (k : Nat) (b2 : Val) (b3 : Val) : Nat → Int → Option (Fl (Unit) (Bool))
 | 0, _ => none
 | n + 1, v6 =>
 if (decide (v6 < (b2.list.length : Int))) = true then
 (idx b2.list v6).bind fun e11 =>
 (idx b3.list v6).bind fun e12 =>
 (rec_tariffref07_Same e11 e12).bind fun r13 =>
 if (!r13) = true then
 some (Fl.ret false)
 else
 tariffref07_Same.l9 rec_tariffref07_Same k b2 b3 n (IntKind.wrap .i64 (v6 + (1 : Int)))
 else
 some (Fl.go ())
def tariffref07_Same : Nat → Val → Val → Option (Bool)
 | 0, _, _ => none
 | k + 1, a0, a1 =>
 ((if (a0.kind != a1.kind) = false then
 some (!(a0.yes == a1.yes))
 else some true) : Option Bool).bind fun b1 =>
 ((if b1 = false then
 some (!((a0.num.neg == a1.num.neg) && (((a0.num.coef.hi == a1.num.coef.hi) && ((a0.num.coef.lo == a1.num.coef.lo) && true)) && ((a0.num.scale == a1.num.scale) && true))))
 else some true) : Option Bool).bind fun b2 =>
 ((if b2 = false then
 some (!(a0.text.data.toList == a1.text.data.toList))
 else some true) : Option Bool).bind fun b3 =>
 ((if b3 = false then
 some (a0.day != a1.day)
 else some true) : Option Bool).bind fun b4 =>
 ((if b4 = false then
 some ((a0.list.length : Int) != (a1.list.length : Int))
 else some true) : Option Bool).bind fun b5 =>
 ((if b5 = false then
 some ((a0.names.length : Int) != (a1.names.length : Int))
 else some true) : Option Bool).bind fun b6 =>
 if b6 = true then
 some false
 else
 (tariffref07_Same.l4 (tariffref07_Same k) k a0 a1 k (0 : Int)).bind fun o => (match o with
 | .go x9 =>
 (tariffref07_Same.l9 (tariffref07_Same k) k x9.1 x9.2 k (0 : Int)).bind fun o => (match o with
 | .go x14 =>
 some true
 | .ret x15 =>
 some x15)
 | .ret x10 =>
 some x10)
def tariffref07_Same.u (k : Nat) (v : Val × Val) : Option (Bool) := tariffref07_Same k v.1 v.2
def tariffref07_Same.G (k : Nat) : Ctx U := ⟨tyOf, bytesOf, fun f xs => if f == 21 then entry tariffref07_Same.P tariffref07_Same.S (tariffref07_Same.u k) xs else none, fun f xs => none⟩
def tariffref07_Same.l4.L (k : Nat) : ELoopR U := ⟨[.ptr 2 2 [] (.st 3), .ptr 3 3 [] (.st 3), .slot 5 (.int .i64), .box 2 (.st 3) [], .box 3 (.st 3) []], 0, [.ptr 2 2 [] (.st 3), .ptr 3 3 [] (.st 3), .box 2 (.st 3) [], .box 3 (.st 3) []], [.slot 4 .bool], fun (v : Int × Val × Val) => tariffref07_Same.l4 (tariffref07_Same k) k v.2.1 v.2.2 k v.1⟩
def tariffref07_Same.l9.L (k : Nat) : ELoopR U := ⟨[.ptr 2 2 [] (.st 3), .ptr 3 3 [] (.st 3), .slot 6 (.int .i64), .box 2 (.st 3) [], .box 3 (.st 3) []], 2, [], [.slot 4 .bool], fun (v : Int × Val × Val) => tariffref07_Same.l9 (tariffref07_Same k) k v.2.1 v.2.2 k v.1⟩
def tariffref07_Same.H (k : Nat) : Hint U := ⟨[], fun i => none, fun i => if i == 122 then some (tariffref07_Same.l9.L k) else if i == 58 then some (tariffref07_Same.l4.L k) else none, fun i => none⟩
theorem tariffref07_Same.l4.ok (k n : Nat) (v : Vars U (tariffref07_Same.l4.L k).ks) : loopRT (tariffref07_Same.G k) (tariffref07_Same.H k) (pick [true, true, false, true, false, false] (bodyOf Tryz.f21)) 58 (tariffref07_Same.l4.L k) n v = (fun (v : Int × Val × Val) => tariffref07_Same.l4 (tariffref07_Same k) k v.2.1 v.2.2 n v.1) v :=
  loopRT_eq (tariffref07_Same.G k) (tariffref07_Same.H k) _ _ (tariffref07_Same.l4.L k) (fun n (v : Int × Val × Val) => tariffref07_Same.l4 (tariffref07_Same k) k v.2.1 v.2.2 n v.1) (fun _ => rfl) (fun n v => by kernel_rfl) n v
theorem tariffref07_Same.l9.ok (k n : Nat) (v : Vars U (tariffref07_Same.l9.L k).ks) : loopRT (tariffref07_Same.G k) (tariffref07_Same.H k) (pick [true, true, true, false, true, false, false] (bodyOf Tryz.f21)) 122 (tariffref07_Same.l9.L k) n v = (fun (v : Int × Val × Val) => tariffref07_Same.l9 (tariffref07_Same k) k v.2.1 v.2.2 n v.1) v :=
  loopRT_eq (tariffref07_Same.G k) (tariffref07_Same.H k) _ _ (tariffref07_Same.l9.L k) (fun n (v : Int × Val × Val) => tariffref07_Same.l9 (tariffref07_Same k) k v.2.1 v.2.2 n v.1) (fun _ => rfl) (fun n v => by kernel_rfl) n v
theorem tariffref07_Same.ev (k : Nat) (v : Val × Val) : evFn (tariffref07_Same.G k) (tariffref07_Same.H k) tariffref07_Same.S Tryz.f21 (encA tariffref07_Same.P v) = tariffref07_Same.u (k + 1) v := by kernel_rfl
theorem tariffref07_Same.fns : Fns Tryz.prog 21 Tryz.f21 tariffref07_Same.P := ⟨Tryz.func21, by kernel_rfl⟩
theorem tariffref07_Same.loops (k : Nat) : LoopsOk (tariffref07_Same.G k) (tariffref07_Same.H k) (bodyOf Tryz.f21) 1 := loops_of (ps := [(58, pick [true, true, false, true, false, false] (bodyOf Tryz.f21)), (122, pick [true, true, true, false, true, false, false] (bodyOf Tryz.f21))]) (by kernel_rfl) ⟨loopR_ok rfl rfl fun v x hx => ⟨k, (tariffref07_Same.l4.ok k k v).trans hx⟩, ⟨loopR_ok rfl rfl fun v x hx => ⟨k, (tariffref07_Same.l9.ok k k v).trans hx⟩, trivial⟩⟩
theorem tariffref07_Same.call : ∀ (k : Nat), FnC Tryz.prog U Lay 21 tariffref07_Same.P tariffref07_Same.S (tariffref07_Same.u k)
  | 0 => fun _ _ h => nomatch (show none = some _ from h)
  | k + 1 => fnC hLay ulaw gok (fun f xs => (.ite (.entry (tariffref07_Same.call k)) (CallC.none) : CallC Tryz.prog U Lay _ f xs)) (fun f xs => (CallC2.none : CallC2 Tryz.prog U Lay _ f xs)) tariffref07_Same.fns (tariffref07_Same.loops k) (tariffref07_Same.ev k)
def tariffref12_SameAll.l4 (k : Nat) (v0 : List Val) (v1 : List Val) : Nat → Int → Option (Fl (Unit) (Bool))
 | 0, _ => none
 | n + 1, v5 =>
 if (decide (v5 < (v0.length : Int))) = true then
 (idx v0 v5).bind fun e1 =>
 (tariffref07_Count k e1 (1000 : Int)).bind fun r2 =>
 if (decide (r2 > (1000 : Int))) = false then
 (idx v1 v5).bind fun e3 =>
 (tariffref07_Count k e3 (1000 : Int)).bind fun r4 =>
 if (decide (r4 > (1000 : Int))) = false then
 (idx v0 v5).bind fun e5 =>
 (idx v1 v5).bind fun e6 =>
 (tariffref07_Same k e5 e6).bind fun r7 =>
 if (!r7) = true then
 some (Fl.ret false)
 else
 tariffref12_SameAll.l4 k v0 v1 n (IntKind.wrap .i64 (v5 + (1 : Int)))
 else
 some (Fl.ret false)
 else
 if true = false then
 (idx v0 v5).bind fun e8 =>
 (idx v1 v5).bind fun e9 =>
 (tariffref07_Same k e8 e9).bind fun r10 =>
 if (!r10) = true then
 some (Fl.ret false)
 else
 tariffref12_SameAll.l4 k v0 v1 n (IntKind.wrap .i64 (v5 + (1 : Int)))
 else
 some (Fl.ret false)
 else
 some (Fl.go ())
def tariffref12_SameAll (k : Nat) (a0 : List Val) (a1 : List Val) : Option (Bool) :=
 if ((a0.length : Int) != (a1.length : Int)) = true then
 some false
 else
 (tariffref12_SameAll.l4 k a0 a1 k (0 : Int)).bind fun o => (match o with
 | .go x11 =>
 some true
 | .ret x12 =>
 some x12)
def tariffref12_SameAll.u (k : Nat) (v : (List Val) × (List Val)) : Option (Bool) := tariffref12_SameAll k v.1 v.2
def tariffref12_SameAll.G (k : Nat) : Ctx U := ⟨tyOf, bytesOf, fun f xs => if f == 30 then entry tariffref07_Count.P tariffref07_Count.S (tariffref07_Count.u k) xs else if f == 21 then entry tariffref07_Same.P tariffref07_Same.S (tariffref07_Same.u k) xs else none, fun f xs => none⟩
def tariffref12_SameAll.l4.L (k : Nat) : ELoopR U := ⟨[.slot 0 (.sl (.st 3)), .slot 1 (.sl (.st 3)), .slot 5 (.int .i64)], 0, [], [.slot 4 .bool], fun (v : (List Val) × (List Val) × Int) => tariffref12_SameAll.l4 k v.1 v.2.1 k v.2.2⟩
def tariffref12_SameAll.H (k : Nat) : Hint U := ⟨[], fun i => none, fun i => if i == 58 then some (tariffref12_SameAll.l4.L k) else none, fun i => none⟩
theorem tariffref12_SameAll.l4.ok (k n : Nat) (v : Vars U (tariffref12_SameAll.l4.L k).ks) : loopRT (tariffref12_SameAll.G k) (tariffref12_SameAll.H k) (pick [true, true, false, true, false, false] (bodyOf Tryz.f10)) 58 (tariffref12_SameAll.l4.L k) n v = (fun (v : (List Val) × (List Val) × Int) => tariffref12_SameAll.l4 k v.1 v.2.1 n v.2.2) v :=
  loopRT_eq (tariffref12_SameAll.G k) (tariffref12_SameAll.H k) _ _ (tariffref12_SameAll.l4.L k) (fun n (v : (List Val) × (List Val) × Int) => tariffref12_SameAll.l4 k v.1 v.2.1 n v.2.2) (fun _ => rfl) (fun n v => by kernel_rfl) n v
theorem tariffref12_SameAll.ev (k : Nat) (v : (List Val) × (List Val)) : evFn (tariffref12_SameAll.G k) (tariffref12_SameAll.H k) tariffref12_SameAll.S Tryz.f10 (encA tariffref12_SameAll.P v) = tariffref12_SameAll.u k v := by kernel_rfl
theorem tariffref12_SameAll.fns : Fns Tryz.prog 10 Tryz.f10 tariffref12_SameAll.P := ⟨Tryz.func10, by kernel_rfl⟩
theorem tariffref12_SameAll.loops (k : Nat) : LoopsOk (tariffref12_SameAll.G k) (tariffref12_SameAll.H k) (bodyOf Tryz.f10) 1 := loops_of (ps := [(58, pick [true, true, false, true, false, false] (bodyOf Tryz.f10))]) (by kernel_rfl) ⟨loopR_ok rfl rfl fun v x hx => ⟨k, (tariffref12_SameAll.l4.ok k k v).trans hx⟩, trivial⟩
theorem tariffref12_SameAll.call (k : Nat) : FnC Tryz.prog U Lay 10 tariffref12_SameAll.P tariffref12_SameAll.S (tariffref12_SameAll.u k) := fnC hLay ulaw gok (fun f xs => (.ite (.entry (tariffref07_Count.call k)) (.ite (.entry (tariffref07_Same.call k)) (CallC.none)) : CallC Tryz.prog U Lay _ f xs)) (fun f xs => (CallC2.none : CallC2 Tryz.prog U Lay _ f xs)) tariffref12_SameAll.fns (tariffref12_SameAll.loops k) (tariffref12_SameAll.ev k)
def tarifflaw12_known (k : Nat) : Option (Bool) :=
 (tarifflaw12_below5).bind fun r1 =>
 (tarifflaw12_num (4 : Int)).bind fun r2 =>
 (unary_Match k r1 r2).bind fun r3 =>
 (tarifflaw12_below5).bind fun r4 =>
 (unary_Ends k r4).bind fun r5 =>
 ((if (r3.2 == (0 : Int)) = true then
 some (r5.2 == (0 : Int))
 else some false) : Option Bool).bind fun b6 =>
 ((if b6 = true then
 (tariffref07_Is r3.1 true).bind fun r7 =>
 some r7
 else some false) : Option Bool).bind fun b8 =>
 ((if b8 = true then
 (tarifflaw12_num (5 : Int)).bind fun r9 =>
 (tariffref12_SameAll k r5.1 ([r9] : List Val)).bind fun r10 =>
 some r10
 else some false) : Option Bool).bind fun b11 =>
 some b11
def tarifflaw12_known.u (k : Nat) (v : Unit) : Option (Bool) := tarifflaw12_known k
def tarifflaw12_known.G (k : Nat) : Ctx U := ⟨tyOf, bytesOf, fun f xs => if f == 23 then entry tarifflaw12_below5.P tarifflaw12_below5.S (tarifflaw12_below5.u) xs else if f == 14 then entry tarifflaw12_num.P tarifflaw12_num.S (tarifflaw12_num.u) xs else if f == 9 then entry unary_Match.P unary_Match.S (unary_Match.u k) xs else if f == 11 then entry unary_Ends.P unary_Ends.S (unary_Ends.u k) xs else if f == 22 then entry tariffref07_Is.P tariffref07_Is.S (tariffref07_Is.u) xs else if f == 10 then entry tariffref12_SameAll.P tariffref12_SameAll.S (tariffref12_SameAll.u k) xs else none, fun f xs => none⟩
def tarifflaw12_known.H (k : Nat) : Hint U := ⟨[], fun i => none, fun i => none, fun i => none⟩
theorem tarifflaw12_known.ev (k : Nat) (v : Unit) : evFn (tarifflaw12_known.G k) (tarifflaw12_known.H k) tarifflaw12_known.S Tryz.f7 (encA tarifflaw12_known.P v) = tarifflaw12_known.u k v := by kernel_rfl
theorem tarifflaw12_known.fns : Fns Tryz.prog 7 Tryz.f7 tarifflaw12_known.P := ⟨Tryz.func7, by kernel_rfl⟩
theorem tarifflaw12_known.loops (k : Nat) : LoopsOk (tarifflaw12_known.G k) (tarifflaw12_known.H k) (bodyOf Tryz.f7) 1 := loops_of (ps := []) (by kernel_rfl) trivial
theorem tarifflaw12_known.call (k : Nat) : FnC Tryz.prog U Lay 7 tarifflaw12_known.P tarifflaw12_known.S (tarifflaw12_known.u k) := fnC hLay ulaw gok (fun f xs => (.ite (.entry (tarifflaw12_below5.call)) (.ite (.entry (tarifflaw12_num.call)) (.ite (.entry (unary_Match.call k)) (.ite (.entry (unary_Ends.call k)) (.ite (.entry (tariffref07_Is.call)) (.ite (.entry (tariffref12_SameAll.call k)) (CallC.none)))))) : CallC Tryz.prog U Lay _ f xs)) (fun f xs => (CallC2.none : CallC2 Tryz.prog U Lay _ f xs)) tarifflaw12_known.fns (tarifflaw12_known.loops k) (tarifflaw12_known.ev k)
def tariffref10_kids (a0 : Int) (a1 : Int) : Option (Bool) :=
 ((if (decide (a0 ≥ (1 : Int))) = true then
 some (decide (a0 ≤ (7 : Int)))
 else some false) : Option Bool).bind fun b1 =>
 ((if b1 = false then
 some (a0 == (29 : Int))
 else some true) : Option Bool).bind fun b2 =>
 if b2 = true then
 some (a1 == (0 : Int))
 else
 ((if (a0 == (8 : Int)) = false then
 some (a0 == (24 : Int))
 else some true) : Option Bool).bind fun b3 =>
 ((if b3 = false then
 ((if (decide (a0 ≥ (28 : Int))) = true then
 some (decide (a0 ≤ (34 : Int)))
 else some false) : Option Bool).bind fun b4 =>
 some b4
 else some true) : Option Bool).bind fun b5 =>
 ((if b5 = false then
 some (a0 == (37 : Int))
 else some true) : Option Bool).bind fun b6 =>
 if b6 = true then
 some (a1 == (1 : Int))
 else
 ((if (decide (a0 ≥ (9 : Int))) = true then
 some (decide (a0 ≤ (20 : Int)))
 else some false) : Option Bool).bind fun b7 =>
 ((if b7 = false then
 some (a0 == (23 : Int))
 else some true) : Option Bool).bind fun b8 =>
 ((if b8 = false then
 some (a0 == (35 : Int))
 else some true) : Option Bool).bind fun b9 =>
 if b9 = true then
 some (a1 == (2 : Int))
 else
 ((if (a0 == (21 : Int)) = false then
 some (a0 == (22 : Int))
 else some true) : Option Bool).bind fun b10 =>
 if b10 = true then
 some (a1 == (3 : Int))
 else
 if (a0 == (25 : Int)) = true then
 ((if (decide (a1 ≥ (0 : Int))) = true then
 some (decide (a1 ≤ (8 : Int)))
 else some false) : Option Bool).bind fun b11 =>
 some b11
 else
 ((if (a0 == (26 : Int)) = false then
 some (a0 == (27 : Int))
 else some true) : Option Bool).bind fun b12 =>
 if b12 = true then
 some (decide (a1 ≥ (0 : Int)))
 else
 if (a0 == (36 : Int)) = true then
 some (decide (a1 ≥ (1 : Int)))
 else
 some false
def tariffref10_kids.u (v : Int × Int) : Option (Bool) := tariffref10_kids v.1 v.2
def tariffref10_kids.G : Ctx U := ⟨tyOf, bytesOf, fun f xs => none, fun f xs => none⟩
def tariffref10_kids.H : Hint U := ⟨[], fun i => none, fun i => none, fun i => none⟩
theorem tariffref10_kids.ev (v : Int × Int) : evFn (tariffref10_kids.G) (tariffref10_kids.H) tariffref10_kids.S Tryz.f64 (encA tariffref10_kids.P v) = tariffref10_kids.u v := by kernel_rfl
theorem tariffref10_kids.fns : Fns Tryz.prog 64 Tryz.f64 tariffref10_kids.P := ⟨Tryz.func64, by kernel_rfl⟩
theorem tariffref10_kids.loops : LoopsOk (tariffref10_kids.G) (tariffref10_kids.H) (bodyOf Tryz.f64) 1 := loops_of (ps := []) (by kernel_rfl) trivial
theorem tariffref10_kids.call : FnC Tryz.prog U Lay 64 tariffref10_kids.P tariffref10_kids.S (tariffref10_kids.u) := fnC hLay ulaw gok (fun f xs => (CallC.none : CallC Tryz.prog U Lay _ f xs)) (fun f xs => (CallC2.none : CallC2 Tryz.prog U Lay _ f xs)) tariffref10_kids.fns (tariffref10_kids.loops) (tariffref10_kids.ev)
def tariffref10_stack.l4 (k : Nat) (v0 : List Node) (v1 : Int) : Nat → (List Int) → (List (List Int)) → Int → Option (Fl ((List Int) × (List (List Int))) ((List (List Int)) × (List Int) × Bool))
 | 0, _, _, _ => none
 | n + 1, v7, w8, v9 =>
 if (decide (v9 ≤ v1)) = true then
 (idx v0 v9).bind fun e1 =>
 (tariffref10_kids e1.op e1.kids).bind fun r2 =>
 ((if (!r2) = false then
 some (decide (e1.kids > (v7.length : Int)))
 else some true) : Option Bool).bind fun b3 =>
 if b3 = true then
 some (Fl.ret (([] : List (List Int)), ([] : List Int), false))
 else
 if 0 ≤ (IntKind.wrap .i64 ((v7.length : Int) - e1.kids)) ∧ (IntKind.wrap .i64 ((v7.length : Int) - e1.kids)) ≤ (v7.length : Int) ∧ (v7.length : Int) ≤ (v7.length : Int) then
 if room ((([] : List Int).length + (sub v7 (IntKind.wrap .i64 ((v7.length : Int) - e1.kids)) (v7.length : Int)).length) * 8) then
 if room ((w8.length + ([(([] : List Int) ++ (sub v7 (IntKind.wrap .i64 ((v7.length : Int) - e1.kids)) (v7.length : Int)))] : List (List Int)).length) * 24) then
 if 0 ≤ (0 : Int) ∧ (0 : Int) ≤ (IntKind.wrap .i64 ((v7.length : Int) - e1.kids)) ∧ (IntKind.wrap .i64 ((v7.length : Int) - e1.kids)) ≤ (v7.length : Int) then
 if room ((([] : List Int).length + (v7.take ((IntKind.wrap .i64 ((v7.length : Int) - e1.kids))).toNat).length) * 8) then
 if room (((([] : List Int) ++ (v7.take ((IntKind.wrap .i64 ((v7.length : Int) - e1.kids))).toNat)).length + ([v9] : List Int).length) * 8) then
 tariffref10_stack.l4 k v0 v1 n ((([] : List Int) ++ (v7.take ((IntKind.wrap .i64 ((v7.length : Int) - e1.kids))).toNat)) ++ ([v9] : List Int)) (w8 ++ ([(([] : List Int) ++ (sub v7 (IntKind.wrap .i64 ((v7.length : Int) - e1.kids)) (v7.length : Int)))] : List (List Int))) (IntKind.wrap .i64 (v9 + (1 : Int)))
 else none
 else none
 else none
 else none
 else none
 else none
 else
 some (Fl.go (v7, w8))
def tariffref10_stack (k : Nat) (a0 : List Node) (a1 : Int) : Option ((List (List Int)) × (List Int) × Bool) :=
 (tariffref10_stack.l4 k a0 a1 k ([] : List Int) ([] : List (List Int)) (0 : Int)).bind fun o => (match o with
 | .go x4 =>
 some (x4.2, x4.1, true)
 | .ret x5 =>
 some (x5.1, x5.2.1, x5.2.2))
def tariffref10_stack.u (k : Nat) (v : (List Node) × Int) : Option ((List (List Int)) × (List Int) × Bool) := tariffref10_stack k v.1 v.2
def tariffref10_stack.G (k : Nat) : Ctx U := ⟨tyOf, bytesOf, fun f xs => if f == 64 then entry tariffref10_kids.P tariffref10_kids.S (tariffref10_kids.u) xs else none, fun f xs => none⟩
def tariffref10_stack.l4.L (k : Nat) : ELoopR U := ⟨[.slot 0 (.sl (.st 0)), .slot 1 (.int .i64), .slot 7 (.sl (.int .i64)), .row 8 (.sl (.int .i64)), .slot 9 (.int .i64)], 0, [.slot 7 (.sl (.int .i64)), .row 8 (.sl (.int .i64))], [.slot 4 (.sl (.sl (.int .i64))), .slot 5 (.sl (.int .i64)), .slot 6 .bool], fun (v : (List Node) × Int × (List Int) × (List (List Int)) × Int) => tariffref10_stack.l4 k v.1 v.2.1 k v.2.2.1 v.2.2.2.1 v.2.2.2.2⟩
def tariffref10_stack.H (k : Nat) : Hint U := ⟨[], fun i => none, fun i => if i == 122 then some (tariffref10_stack.l4.L k) else none, fun i => none⟩
theorem tariffref10_stack.l4.ok (k n : Nat) (v : Vars U (tariffref10_stack.l4.L k).ks) : loopRT (tariffref10_stack.G k) (tariffref10_stack.H k) (pick [true, true, true, false, true, false, false] (bodyOf Tryz.f37)) 122 (tariffref10_stack.l4.L k) n v = (fun (v : (List Node) × Int × (List Int) × (List (List Int)) × Int) => tariffref10_stack.l4 k v.1 v.2.1 n v.2.2.1 v.2.2.2.1 v.2.2.2.2) v :=
  loopRT_eq (tariffref10_stack.G k) (tariffref10_stack.H k) _ _ (tariffref10_stack.l4.L k) (fun n (v : (List Node) × Int × (List Int) × (List (List Int)) × Int) => tariffref10_stack.l4 k v.1 v.2.1 n v.2.2.1 v.2.2.2.1 v.2.2.2.2) (fun _ => rfl) (fun n v => by kernel_rfl) n v
theorem tariffref10_stack.ev (k : Nat) (v : (List Node) × Int) : evFn (tariffref10_stack.G k) (tariffref10_stack.H k) tariffref10_stack.S Tryz.f37 (encA tariffref10_stack.P v) = tariffref10_stack.u k v := by kernel_rfl
theorem tariffref10_stack.fns : Fns Tryz.prog 37 Tryz.f37 tariffref10_stack.P := ⟨Tryz.func37, by kernel_rfl⟩
theorem tariffref10_stack.loops (k : Nat) : LoopsOk (tariffref10_stack.G k) (tariffref10_stack.H k) (bodyOf Tryz.f37) 1 := loops_of (ps := [(122, pick [true, true, true, false, true, false, false] (bodyOf Tryz.f37))]) (by kernel_rfl) ⟨loopR_ok rfl rfl fun v x hx => ⟨k, (tariffref10_stack.l4.ok k k v).trans hx⟩, trivial⟩
theorem tariffref10_stack.call (k : Nat) : FnC Tryz.prog U Lay 37 tariffref10_stack.P tariffref10_stack.S (tariffref10_stack.u k) := fnC hLay ulaw gok (fun f xs => (.ite (.entry (tariffref10_kids.call)) (CallC.none) : CallC Tryz.prog U Lay _ f xs)) (fun f xs => (CallC2.none : CallC2 Tryz.prog U Lay _ f xs)) tariffref10_stack.fns (tariffref10_stack.loops k) (tariffref10_stack.ev k)
def tariffref01_twice.l3 (k : Nat) (v0 : List Int) : Nat → Int → (List Int) → Int → Option (Int × (List Int))
 | 0, _, _, _ => none
 | n + 1, v1, w5, v6 =>
 if (decide (v6 < (v0.length : Int))) = true then
 (idx v0 v6).bind fun e1 =>
 if ¬ (10 : Int) = 0 then
 if room ((w5.length + ([(Int.tmod (IntKind.wrap .i64 ((IntKind.wrap .i64 ((2 : Int) * e1)) + v1)) (10 : Int))] : List Int).length) * 8) then
 if ¬ (10 : Int) = 0 then
 tariffref01_twice.l3 k v0 n (IntKind.wrap .i64 (Int.tdiv (IntKind.wrap .i64 ((IntKind.wrap .i64 ((2 : Int) * e1)) + v1)) (10 : Int))) (w5 ++ ([(Int.tmod (IntKind.wrap .i64 ((IntKind.wrap .i64 ((2 : Int) * e1)) + v1)) (10 : Int))] : List Int)) (IntKind.wrap .i64 (v6 + (1 : Int)))
 else none
 else none
 else none
 else
 some (v1, w5)
def tariffref01_twice (k : Nat) (a0 : List Int) (a1 : Int) : Option ((List Int)) :=
 (tariffref01_twice.l3 k a0 k a1 ([] : List Int) (0 : Int)).bind fun x2 =>
 if (decide (x2.1 > (0 : Int))) = true then
 if room ((x2.2.length + ([x2.1] : List Int).length) * 8) then
 some (x2.2 ++ ([x2.1] : List Int))
 else none
 else
 some x2.2
def tariffref01_twice.u (k : Nat) (v : (List Int) × Int) : Option ((List Int)) := tariffref01_twice k v.1 v.2
def tariffref01_twice.G (k : Nat) : Ctx U := ⟨tyOf, bytesOf, fun f xs => none, fun f xs => none⟩
def tariffref01_twice.l3.L (k : Nat) : ELoop U := ⟨[.slot 0 (.sl (.int .i64)), .slot 1 (.int .i64), .row 5 (.int .i64), .slot 6 (.int .i64)], 0, [.slot 1 (.int .i64), .row 5 (.int .i64)], fun (v : (List Int) × Int × (List Int) × Int) => tariffref01_twice.l3 k v.1 k v.2.1 v.2.2.1 v.2.2.2⟩
def tariffref01_twice.H (k : Nat) : Hint U := ⟨[], fun i => if i == 58 then some (tariffref01_twice.l3.L k) else none, fun i => none, fun i => none⟩
theorem tariffref01_twice.l3.ok (k n : Nat) (v : Vars U (tariffref01_twice.l3.L k).ks) : loopT (tariffref01_twice.G k) (tariffref01_twice.H k) (pick [true, true, false, true, false, false] (bodyOf Tryz.f157)) 58 (tariffref01_twice.l3.L k) n v = (fun (v : (List Int) × Int × (List Int) × Int) => tariffref01_twice.l3 k v.1 n v.2.1 v.2.2.1 v.2.2.2) v :=
  loopT_eq (tariffref01_twice.G k) (tariffref01_twice.H k) _ _ (tariffref01_twice.l3.L k) (fun n (v : (List Int) × Int × (List Int) × Int) => tariffref01_twice.l3 k v.1 n v.2.1 v.2.2.1 v.2.2.2) (fun _ => rfl) (fun n v => by kernel_rfl) n v
theorem tariffref01_twice.ev (k : Nat) (v : (List Int) × Int) : evFn (tariffref01_twice.G k) (tariffref01_twice.H k) tariffref01_twice.S Tryz.f157 (encA tariffref01_twice.P v) = tariffref01_twice.u k v := by kernel_rfl
theorem tariffref01_twice.fns : Fns Tryz.prog 157 Tryz.f157 tariffref01_twice.P := ⟨Tryz.func157, by kernel_rfl⟩
theorem tariffref01_twice.loops (k : Nat) : LoopsOk (tariffref01_twice.G k) (tariffref01_twice.H k) (bodyOf Tryz.f157) 1 := loops_of (ps := [(58, pick [true, true, false, true, false, false] (bodyOf Tryz.f157))]) (by kernel_rfl) ⟨loopT_ok rfl fun v x hx => ⟨k, (tariffref01_twice.l3.ok k k v).trans hx⟩, trivial⟩
theorem tariffref01_twice.call (k : Nat) : FnC Tryz.prog U Lay 157 tariffref01_twice.P tariffref01_twice.S (tariffref01_twice.u k) := fnC hLay ulaw gok (fun f xs => (CallC.none : CallC Tryz.prog U Lay _ f xs)) (fun f xs => (CallC2.none : CallC2 Tryz.prog U Lay _ f xs)) tariffref01_twice.fns (tariffref01_twice.loops k) (tariffref01_twice.ev k)
def tariffref01_words.l6 (k : Nat) (v0 : List Int) (v4 : Int) : Nat → (List Int) → Int → Option ((List Int) × (List Int) × Int)
 | 0, _, _ => none
 | n + 1, v3, v5 =>
 if (decide (v5 ≥ (0 : Int))) = true then
 (idx v0 v4).bind fun e1 =>
 if 0 ≤ v5 then
 (tariffref01_twice k v3 (IntKind.wrap .i64 (IntKind.wrap .u64 ((BitVec.ofInt (IntKind.bits .u64) (Int.fdiv e1 (2 ^ min (v5).toNat (IntKind.bits .u64))) &&& BitVec.ofInt (IntKind.bits .u64) (1 : Int)).toNat : Int)))).bind fun r2 =>
 tariffref01_words.l6 k v0 v4 n r2 (IntKind.wrap .i64 (v5 - (1 : Int)))
 else none
 else
 some (v0, v3, v4)
def tariffref01_words.l3 (k : Nat) : Nat → (List Int) → (List Int) → Int → Option ((List Int))
 | 0, _, _, _ => none
 | n + 1, v0, v3, v4 =>
 if (decide (v4 ≥ (0 : Int))) = true then
 (tariffref01_words.l6 k v0 v4 k v3 (63 : Int)).bind fun x3 =>
 tariffref01_words.l3 k n x3.1 x3.2.1 (IntKind.wrap .i64 (x3.2.2 - (1 : Int)))
 else
 some v3
def tariffref01_words (k : Nat) (a0 : List Int) : Option ((List Int)) :=
 (tariffref01_words.l3 k k a0 ([] : List Int) (IntKind.wrap .i64 ((a0.length : Int) - (1 : Int)))).bind fun x4 =>
 some x4
def tariffref01_words.u (k : Nat) (v : (List Int)) : Option ((List Int)) := tariffref01_words k v
def tariffref01_words.G (k : Nat) : Ctx U := ⟨tyOf, bytesOf, fun f xs => if f == 157 then entry tariffref01_twice.P tariffref01_twice.S (tariffref01_twice.u k) xs else none, fun f xs => none⟩
def tariffref01_words.l6.L (k : Nat) : ELoop U := ⟨[.slot 0 (.sl (.int .u64)), .slot 3 (.sl (.int .i64)), .slot 4 (.int .i64), .slot 5 (.int .i64)], 2, [.slot 0 (.sl (.int .u64)), .slot 3 (.sl (.int .i64)), .slot 4 (.int .i64)], fun (v : (List Int) × (List Int) × Int × Int) => tariffref01_words.l6 k v.1 v.2.2.1 k v.2.1 v.2.2.2⟩
def tariffref01_words.l3.L (k : Nat) : ELoop U := ⟨[.slot 0 (.sl (.int .u64)), .slot 3 (.sl (.int .i64)), .slot 4 (.int .i64)], 0, [.slot 3 (.sl (.int .i64))], fun (v : (List Int) × (List Int) × Int) => tariffref01_words.l3 k k v.1 v.2.1 v.2.2⟩
def tariffref01_words.H (k : Nat) : Hint U := ⟨[], fun i => if i == 58 then some (tariffref01_words.l3.L k) else if i == 3730 then some (tariffref01_words.l6.L k) else none, fun i => none, fun i => none⟩
theorem tariffref01_words.l6.ok (k n : Nat) (v : Vars U (tariffref01_words.l6.L k).ks) : loopT (tariffref01_words.G k) (tariffref01_words.H k) (pick [true, true, false, true, false, false, true, false, false, true, false, false] (bodyOf Tryz.f131)) 3730 (tariffref01_words.l6.L k) n v = (fun (v : (List Int) × (List Int) × Int × Int) => tariffref01_words.l6 k v.1 v.2.2.1 n v.2.1 v.2.2.2) v :=
  loopT_eq (tariffref01_words.G k) (tariffref01_words.H k) _ _ (tariffref01_words.l6.L k) (fun n (v : (List Int) × (List Int) × Int × Int) => tariffref01_words.l6 k v.1 v.2.2.1 n v.2.1 v.2.2.2) (fun _ => rfl) (fun n v => by kernel_rfl) n v
theorem tariffref01_words.l3.ok (k n : Nat) (v : Vars U (tariffref01_words.l3.L k).ks) : loopT (tariffref01_words.G k) (tariffref01_words.H k) (pick [true, true, false, true, false, false] (bodyOf Tryz.f131)) 58 (tariffref01_words.l3.L k) n v = (fun (v : (List Int) × (List Int) × Int) => tariffref01_words.l3 k n v.1 v.2.1 v.2.2) v :=
  loopT_eq (tariffref01_words.G k) (tariffref01_words.H k) _ _ (tariffref01_words.l3.L k) (fun n (v : (List Int) × (List Int) × Int) => tariffref01_words.l3 k n v.1 v.2.1 v.2.2) (fun _ => rfl) (fun n v => by kernel_rfl) n v
theorem tariffref01_words.ev (k : Nat) (v : (List Int)) : evFn (tariffref01_words.G k) (tariffref01_words.H k) tariffref01_words.S Tryz.f131 (encA tariffref01_words.P v) = tariffref01_words.u k v := by kernel_rfl
theorem tariffref01_words.fns : Fns Tryz.prog 131 Tryz.f131 tariffref01_words.P := ⟨Tryz.func131, by kernel_rfl⟩
theorem tariffref01_words.loops (k : Nat) : LoopsOk (tariffref01_words.G k) (tariffref01_words.H k) (bodyOf Tryz.f131) 1 := loops_of (ps := [(58, pick [true, true, false, true, false, false] (bodyOf Tryz.f131)), (3730, pick [true, true, false, true, false, false, true, false, false, true, false, false] (bodyOf Tryz.f131))]) (by kernel_rfl) ⟨loopT_ok rfl fun v x hx => ⟨k, (tariffref01_words.l3.ok k k v).trans hx⟩, ⟨loopT_ok rfl fun v x hx => ⟨k, (tariffref01_words.l6.ok k k v).trans hx⟩, trivial⟩⟩
theorem tariffref01_words.call (k : Nat) : FnC Tryz.prog U Lay 131 tariffref01_words.P tariffref01_words.S (tariffref01_words.u k) := fnC hLay ulaw gok (fun f xs => (.ite (.entry (tariffref01_twice.call k)) (CallC.none) : CallC Tryz.prog U Lay _ f xs)) (fun f xs => (CallC2.none : CallC2 Tryz.prog U Lay _ f xs)) tariffref01_words.fns (tariffref01_words.loops k) (tariffref01_words.ev k)
def tariffref01_Of (k : Nat) (a0 : Wide) : Option ((List Int)) :=
 (tariffref01_words k ([a0.lo, a0.hi] : List Int)).bind fun r1 =>
 some r1
def tariffref01_Of.u (k : Nat) (v : Wide) : Option ((List Int)) := tariffref01_Of k v
def tariffref01_Of.G (k : Nat) : Ctx U := ⟨tyOf, bytesOf, fun f xs => if f == 131 then entry tariffref01_words.P tariffref01_words.S (tariffref01_words.u k) xs else none, fun f xs => none⟩
def tariffref01_Of.H (k : Nat) : Hint U := ⟨[], fun i => none, fun i => none, fun i => none⟩
theorem tariffref01_Of.ev (k : Nat) (v : Wide) : evFn (tariffref01_Of.G k) (tariffref01_Of.H k) tariffref01_Of.S Tryz.f93 (encA tariffref01_Of.P v) = tariffref01_Of.u k v := by kernel_rfl
theorem tariffref01_Of.fns : Fns Tryz.prog 93 Tryz.f93 tariffref01_Of.P := ⟨Tryz.func93, by kernel_rfl⟩
theorem tariffref01_Of.loops (k : Nat) : LoopsOk (tariffref01_Of.G k) (tariffref01_Of.H k) (bodyOf Tryz.f93) 1 := loops_of (ps := []) (by kernel_rfl) trivial
theorem tariffref01_Of.call (k : Nat) : FnC Tryz.prog U Lay 93 tariffref01_Of.P tariffref01_Of.S (tariffref01_Of.u k) := fnC hLay ulaw gok (fun f xs => (.ite (.entry (tariffref01_words.call k)) (CallC.none) : CallC Tryz.prog U Lay _ f xs)) (fun f xs => (CallC2.none : CallC2 Tryz.prog U Lay _ f xs)) tariffref01_Of.fns (tariffref01_Of.loops k) (tariffref01_Of.ev k)
def tariffref02_Form (k : Nat) (a0 : Dec) : Option (Bool) :=
 (tariffref01_Of k a0.coef).bind fun r1 =>
 ((if (decide ((r1.length : Int) > (34 : Int))) = false then
 some (decide (a0.scale < (0 : Int)))
 else some true) : Option Bool).bind fun b2 =>
 ((if b2 = false then
 some (decide (a0.scale > (18 : Int)))
 else some true) : Option Bool).bind fun b3 =>
 if b3 = true then
 some false
 else
 if ((r1.length : Int) == (0 : Int)) = true then
 ((if (!a0.neg) = true then
 some (a0.scale == (0 : Int))
 else some false) : Option Bool).bind fun b4 =>
 some b4
 else
 ((if (a0.scale == (0 : Int)) = false then
 (idx r1 (0 : Int)).bind fun e5 =>
 some (e5 != (0 : Int))
 else some true) : Option Bool).bind fun b6 =>
 some b6
def tariffref02_Form.u (k : Nat) (v : Dec) : Option (Bool) := tariffref02_Form k v
def tariffref02_Form.G (k : Nat) : Ctx U := ⟨tyOf, bytesOf, fun f xs => if f == 93 then entry tariffref01_Of.P tariffref01_Of.S (tariffref01_Of.u k) xs else none, fun f xs => none⟩
def tariffref02_Form.H (k : Nat) : Hint U := ⟨[], fun i => none, fun i => none, fun i => none⟩
theorem tariffref02_Form.ev (k : Nat) (v : Dec) : evFn (tariffref02_Form.G k) (tariffref02_Form.H k) tariffref02_Form.S Tryz.f60 (encA tariffref02_Form.P v) = tariffref02_Form.u k v := by kernel_rfl
theorem tariffref02_Form.fns : Fns Tryz.prog 60 Tryz.f60 tariffref02_Form.P := ⟨Tryz.func60, by kernel_rfl⟩
theorem tariffref02_Form.loops (k : Nat) : LoopsOk (tariffref02_Form.G k) (tariffref02_Form.H k) (bodyOf Tryz.f60) 1 := loops_of (ps := []) (by kernel_rfl) trivial
theorem tariffref02_Form.call (k : Nat) : FnC Tryz.prog U Lay 60 tariffref02_Form.P tariffref02_Form.S (tariffref02_Form.u k) := fnC hLay ulaw gok (fun f xs => (.ite (.entry (tariffref01_Of.call k)) (CallC.none) : CallC Tryz.prog U Lay _ f xs)) (fun f xs => (CallC2.none : CallC2 Tryz.prog U Lay _ f xs)) tariffref02_Form.fns (tariffref02_Form.loops k) (tariffref02_Form.ev k)
def tariffref04_tail (a0 : ByteArray) (a1 : Int) : Option (Int × Bool) :=
 ((if (decide (a1 ≥ (a0.size : Int))) = false then
 (idx a0.data.toList a1).bind fun e1 =>
 some ((IntKind.wrap .u8 ((BitVec.ofInt (IntKind.bits .u8) (e1.toNat : Int) &&& BitVec.ofInt (IntKind.bits .u8) (192 : Int)).toNat : Int)) != (128 : Int))
 else some true) : Option Bool).bind fun b2 =>
 if b2 = true then
 some ((0 : Int), false)
 else
 (idx a0.data.toList a1).bind fun e3 =>
 some ((IntKind.wrap .i64 (IntKind.wrap .u8 ((BitVec.ofInt (IntKind.bits .u8) (e3.toNat : Int) &&& BitVec.ofInt (IntKind.bits .u8) (63 : Int)).toNat : Int))), true)
def tariffref04_tail.u (v : ByteArray × Int) : Option (Int × Bool) := tariffref04_tail v.1 v.2
def tariffref04_tail.G : Ctx U := ⟨tyOf, bytesOf, fun f xs => none, fun f xs => none⟩
def tariffref04_tail.H : Hint U := ⟨[], fun i => none, fun i => none, fun i => none⟩
theorem tariffref04_tail.ev (v : ByteArray × Int) : evFn (tariffref04_tail.G) (tariffref04_tail.H) tariffref04_tail.S Tryz.f158 (encA tariffref04_tail.P v) = tariffref04_tail.u v := by kernel_rfl
theorem tariffref04_tail.fns : Fns Tryz.prog 158 Tryz.f158 tariffref04_tail.P := ⟨Tryz.func158, by kernel_rfl⟩
theorem tariffref04_tail.loops : LoopsOk (tariffref04_tail.G) (tariffref04_tail.H) (bodyOf Tryz.f158) 1 := loops_of (ps := []) (by kernel_rfl) trivial
theorem tariffref04_tail.call : FnC Tryz.prog U Lay 158 tariffref04_tail.P tariffref04_tail.S (tariffref04_tail.u) := fnC hLay ulaw gok (fun f xs => (CallC.none : CallC Tryz.prog U Lay _ f xs)) (fun f xs => (CallC2.none : CallC2 Tryz.prog U Lay _ f xs)) tariffref04_tail.fns (tariffref04_tail.loops) (tariffref04_tail.ev)
def tariffref04_one.l13 (k : Nat) (v0 : ByteArray) (v1 : Int) (v8 : Int) (v9 : Int) : Nat → Int → Int → Option (Fl (Int × Int × Int) (Int × Int × Bool))
 | 0, _, _ => none
 | n + 1, v7, v10 =>
 if (decide (v10 < v8)) = true then
 (tariffref04_tail v0 (IntKind.wrap .i64 (v1 + v10))).bind fun r7 =>
 if (!r7.2) = true then
 some (Fl.ret ((0 : Int), (0 : Int), false))
 else
 tariffref04_one.l13 k v0 v1 v8 v9 n (IntKind.wrap .i64 ((IntKind.wrap .i64 (v7 * (64 : Int))) + r7.1)) (IntKind.wrap .i64 (v10 + (1 : Int)))
 else
 some (Fl.go (v7, v8, v9))
def tariffref04_one (k : Nat) (a0 : ByteArray) (a1 : Int) : Option (Int × Int × Bool) :=
 (idx a0.data.toList a1).bind fun e1 =>
 ((if (decide ((IntKind.wrap .i64 (e1.toNat : Int)) < (128 : Int))) = true then
 some (Fl.ret ((IntKind.wrap .i64 (e1.toNat : Int)), (1 : Int), true))
 else
 ((if (decide ((IntKind.wrap .i64 (e1.toNat : Int)) ≥ (192 : Int))) = true then
 some (decide ((IntKind.wrap .i64 (e1.toNat : Int)) < (224 : Int)))
 else some false) : Option Bool).bind fun b2 =>
 if b2 = true then
 some (Fl.go (a0, a1, (IntKind.wrap .i64 ((BitVec.ofInt (IntKind.bits .i64) (IntKind.wrap .i64 (e1.toNat : Int)) &&& BitVec.ofInt (IntKind.bits .i64) (31 : Int)).toNat : Int)), (2 : Int), (128 : Int)))
 else
 ((if (decide ((IntKind.wrap .i64 (e1.toNat : Int)) ≥ (224 : Int))) = true then
 some (decide ((IntKind.wrap .i64 (e1.toNat : Int)) < (240 : Int)))
 else some false) : Option Bool).bind fun b3 =>
 if b3 = true then
 some (Fl.go (a0, a1, (IntKind.wrap .i64 ((BitVec.ofInt (IntKind.bits .i64) (IntKind.wrap .i64 (e1.toNat : Int)) &&& BitVec.ofInt (IntKind.bits .i64) (15 : Int)).toNat : Int)), (3 : Int), (2048 : Int)))
 else
 ((if (decide ((IntKind.wrap .i64 (e1.toNat : Int)) ≥ (240 : Int))) = true then
 some (decide ((IntKind.wrap .i64 (e1.toNat : Int)) < (248 : Int)))
 else some false) : Option Bool).bind fun b4 =>
 if b4 = true then
 some (Fl.go (a0, a1, (IntKind.wrap .i64 ((BitVec.ofInt (IntKind.bits .i64) (IntKind.wrap .i64 (e1.toNat : Int)) &&& BitVec.ofInt (IntKind.bits .i64) (7 : Int)).toNat : Int)), (4 : Int), (65536 : Int)))
 else
 some (Fl.ret ((0 : Int), (0 : Int), false))) : Option (Fl (ByteArray × Int × Int × Int × Int) (Int × Int × Bool))).bind fun o => (match o with
 | .go j5 =>
 (tariffref04_one.l13 k j5.1 j5.2.1 j5.2.2.2.1 j5.2.2.2.2 k j5.2.2.1 (1 : Int)).bind fun o => (match o with
 | .go x8 =>
 some (x8.1, x8.2.1, (decide (x8.1 ≥ x8.2.2)))
 | .ret x9 =>
 some (x9.1, x9.2.1, x9.2.2))
 | .ret j6 =>
 some (j6.1, j6.2.1, j6.2.2))
def tariffref04_one.u (k : Nat) (v : ByteArray × Int) : Option (Int × Int × Bool) := tariffref04_one k v.1 v.2
def tariffref04_one.G (k : Nat) : Ctx U := ⟨tyOf, bytesOf, fun f xs => if f == 158 then entry tariffref04_tail.P tariffref04_tail.S (tariffref04_tail.u) xs else none, fun f xs => none⟩
def tariffref04_one.l13.L (k : Nat) : ELoopR U := ⟨[.slot 0 .str, .slot 1 (.int .i64), .slot 7 (.int .i64), .slot 8 (.int .i64), .slot 9 (.int .i64), .slot 10 (.int .i64)], 1, [.slot 7 (.int .i64), .slot 8 (.int .i64), .slot 9 (.int .i64)], [.slot 4 (.int .i64), .slot 5 (.int .i64), .slot 6 .bool], fun (v : ByteArray × Int × Int × Int × Int × Int) => tariffref04_one.l13 k v.1 v.2.1 v.2.2.2.1 v.2.2.2.2.1 k v.2.2.1 v.2.2.2.2.2⟩
def tariffref04_one.H (k : Nat) : Hint U := ⟨[], fun i => none, fun i => if i == 250 then some (tariffref04_one.l13.L k) else none, fun i => if i == 30 then some ⟨[.slot 0 .str, .slot 1 (.int .i64), .slot 7 (.int .i64), .slot 8 (.int .i64), .slot 9 (.int .i64)], some [.slot 4 (.int .i64), .slot 5 (.int .i64), .slot 6 .bool]⟩ else none⟩
theorem tariffref04_one.l13.ok (k n : Nat) (v : Vars U (tariffref04_one.l13.L k).ks) : loopRT (tariffref04_one.G k) (tariffref04_one.H k) (pick [true, true, true, true, false, true, false, false] (bodyOf Tryz.f132)) 250 (tariffref04_one.l13.L k) n v = (fun (v : ByteArray × Int × Int × Int × Int × Int) => tariffref04_one.l13 k v.1 v.2.1 v.2.2.2.1 v.2.2.2.2.1 n v.2.2.1 v.2.2.2.2.2) v :=
  loopRT_eq (tariffref04_one.G k) (tariffref04_one.H k) _ _ (tariffref04_one.l13.L k) (fun n (v : ByteArray × Int × Int × Int × Int × Int) => tariffref04_one.l13 k v.1 v.2.1 v.2.2.2.1 v.2.2.2.2.1 n v.2.2.1 v.2.2.2.2.2) (fun _ => rfl) (fun n v => by kernel_rfl) n v
theorem tariffref04_one.ev (k : Nat) (v : ByteArray × Int) : evFn (tariffref04_one.G k) (tariffref04_one.H k) tariffref04_one.S Tryz.f132 (encA tariffref04_one.P v) = tariffref04_one.u k v := by kernel_rfl
theorem tariffref04_one.fns : Fns Tryz.prog 132 Tryz.f132 tariffref04_one.P := ⟨Tryz.func132, by kernel_rfl⟩
theorem tariffref04_one.loops (k : Nat) : LoopsOk (tariffref04_one.G k) (tariffref04_one.H k) (bodyOf Tryz.f132) 1 := loops_of (ps := [(250, pick [true, true, true, true, false, true, false, false] (bodyOf Tryz.f132))]) (by kernel_rfl) ⟨loopR_ok rfl rfl fun v x hx => ⟨k, (tariffref04_one.l13.ok k k v).trans hx⟩, trivial⟩
theorem tariffref04_one.call (k : Nat) : FnC Tryz.prog U Lay 132 tariffref04_one.P tariffref04_one.S (tariffref04_one.u k) := fnC hLay ulaw gok (fun f xs => (.ite (.entry (tariffref04_tail.call)) (CallC.none) : CallC Tryz.prog U Lay _ f xs)) (fun f xs => (CallC2.none : CallC2 Tryz.prog U Lay _ f xs)) tariffref04_one.fns (tariffref04_one.loops k) (tariffref04_one.ev k)
def tariffref04_Char (a0 : Int) : Option (Bool) :=
 ((if (a0 == (9 : Int)) = false then
 some (a0 == (10 : Int))
 else some true) : Option Bool).bind fun b1 =>
 ((if b1 = false then
 some (a0 == (13 : Int))
 else some true) : Option Bool).bind fun b2 =>
 ((if b2 = false then
 ((if (decide (a0 ≥ (32 : Int))) = true then
 some (decide (a0 ≤ (55295 : Int)))
 else some false) : Option Bool).bind fun b3 =>
 some b3
 else some true) : Option Bool).bind fun b4 =>
 ((if b4 = false then
 ((if (decide (a0 ≥ (57344 : Int))) = true then
 some (decide (a0 ≤ (65533 : Int)))
 else some false) : Option Bool).bind fun b5 =>
 some b5
 else some true) : Option Bool).bind fun b6 =>
 ((if b6 = false then
 ((if (decide (a0 ≥ (65536 : Int))) = true then
 some (decide (a0 ≤ (1114111 : Int)))
 else some false) : Option Bool).bind fun b7 =>
 some b7
 else some true) : Option Bool).bind fun b8 =>
 some b8
def tariffref04_Char.u (v : Int) : Option (Bool) := tariffref04_Char v
def tariffref04_Char.G : Ctx U := ⟨tyOf, bytesOf, fun f xs => none, fun f xs => none⟩
def tariffref04_Char.H : Hint U := ⟨[], fun i => none, fun i => none, fun i => none⟩
theorem tariffref04_Char.ev (v : Int) : evFn (tariffref04_Char.G) (tariffref04_Char.H) tariffref04_Char.S Tryz.f133 (encA tariffref04_Char.P v) = tariffref04_Char.u v := by kernel_rfl
theorem tariffref04_Char.fns : Fns Tryz.prog 133 Tryz.f133 tariffref04_Char.P := ⟨Tryz.func133, by kernel_rfl⟩
theorem tariffref04_Char.loops : LoopsOk (tariffref04_Char.G) (tariffref04_Char.H) (bodyOf Tryz.f133) 1 := loops_of (ps := []) (by kernel_rfl) trivial
theorem tariffref04_Char.call : FnC Tryz.prog U Lay 133 tariffref04_Char.P tariffref04_Char.S (tariffref04_Char.u) := fnC hLay ulaw gok (fun f xs => (CallC.none : CallC Tryz.prog U Lay _ f xs)) (fun f xs => (CallC2.none : CallC2 Tryz.prog U Lay _ f xs)) tariffref04_Char.fns (tariffref04_Char.loops) (tariffref04_Char.ev)
def tariffref04_Chars.l3 (k : Nat) (v0 : ByteArray) : Nat → (List Int) → Int → Option (Fl ((List Int) × Int) ((List Int) × Bool))
 | 0, _, _ => none
 | n + 1, w4, v5 =>
 if (decide (v5 < (v0.size : Int))) = true then
 (tariffref04_one k v0 v5).bind fun r1 =>
 ((if (!r1.2.2) = false then
 (tariffref04_Char r1.1).bind fun r2 =>
 some (!r2)
 else some true) : Option Bool).bind fun b3 =>
 if b3 = true then
 some (Fl.ret (([] : List Int), false))
 else
 if room ((w4.length + ([v5] : List Int).length) * 8) then
 tariffref04_Chars.l3 k v0 n (w4 ++ ([v5] : List Int)) (IntKind.wrap .i64 (v5 + r1.2.1))
 else none
 else
 some (Fl.go (w4, v5))
def tariffref04_Chars (k : Nat) (a0 : ByteArray) : Option ((List Int) × Bool) :=
 (tariffref04_Chars.l3 k a0 k ([] : List Int) (0 : Int)).bind fun o => (match o with
 | .go x4 =>
 if room ((x4.1.length + ([x4.2] : List Int).length) * 8) then
 some ((x4.1 ++ ([x4.2] : List Int)), true)
 else none
 | .ret x5 =>
 some (x5.1, x5.2))
def tariffref04_Chars.u (k : Nat) (v : ByteArray) : Option ((List Int) × Bool) := tariffref04_Chars k v
def tariffref04_Chars.G (k : Nat) : Ctx U := ⟨tyOf, bytesOf, fun f xs => if f == 132 then entry tariffref04_one.P tariffref04_one.S (tariffref04_one.u k) xs else if f == 133 then entry tariffref04_Char.P tariffref04_Char.S (tariffref04_Char.u) xs else none, fun f xs => none⟩
def tariffref04_Chars.l3.L (k : Nat) : ELoopR U := ⟨[.slot 0 .str, .row 4 (.int .i64), .slot 5 (.int .i64)], 0, [.row 4 (.int .i64), .slot 5 (.int .i64)], [.slot 2 (.sl (.int .i64)), .slot 3 .bool], fun (v : ByteArray × (List Int) × Int) => tariffref04_Chars.l3 k v.1 k v.2.1 v.2.2⟩
def tariffref04_Chars.H (k : Nat) : Hint U := ⟨[], fun i => none, fun i => if i == 60 then some (tariffref04_Chars.l3.L k) else none, fun i => none⟩
theorem tariffref04_Chars.l3.ok (k n : Nat) (v : Vars U (tariffref04_Chars.l3.L k).ks) : loopRT (tariffref04_Chars.G k) (tariffref04_Chars.H k) (pick [true, true, true, false, false, false] (bodyOf Tryz.f94)) 60 (tariffref04_Chars.l3.L k) n v = (fun (v : ByteArray × (List Int) × Int) => tariffref04_Chars.l3 k v.1 n v.2.1 v.2.2) v :=
  loopRT_eq (tariffref04_Chars.G k) (tariffref04_Chars.H k) _ _ (tariffref04_Chars.l3.L k) (fun n (v : ByteArray × (List Int) × Int) => tariffref04_Chars.l3 k v.1 n v.2.1 v.2.2) (fun _ => rfl) (fun n v => by kernel_rfl) n v
theorem tariffref04_Chars.ev (k : Nat) (v : ByteArray) : evFn (tariffref04_Chars.G k) (tariffref04_Chars.H k) tariffref04_Chars.S Tryz.f94 (encA tariffref04_Chars.P v) = tariffref04_Chars.u k v := by kernel_rfl
theorem tariffref04_Chars.fns : Fns Tryz.prog 94 Tryz.f94 tariffref04_Chars.P := ⟨Tryz.func94, by kernel_rfl⟩
theorem tariffref04_Chars.loops (k : Nat) : LoopsOk (tariffref04_Chars.G k) (tariffref04_Chars.H k) (bodyOf Tryz.f94) 1 := loops_of (ps := [(60, pick [true, true, true, false, false, false] (bodyOf Tryz.f94))]) (by kernel_rfl) ⟨loopR_ok rfl rfl fun v x hx => ⟨k, (tariffref04_Chars.l3.ok k k v).trans hx⟩, trivial⟩
theorem tariffref04_Chars.call (k : Nat) : FnC Tryz.prog U Lay 94 tariffref04_Chars.P tariffref04_Chars.S (tariffref04_Chars.u k) := fnC hLay ulaw gok (fun f xs => (.ite (.entry (tariffref04_one.call k)) (.ite (.entry (tariffref04_Char.call)) (CallC.none)) : CallC Tryz.prog U Lay _ f xs)) (fun f xs => (CallC2.none : CallC2 Tryz.prog U Lay _ f xs)) tariffref04_Chars.fns (tariffref04_Chars.loops k) (tariffref04_Chars.ev k)
def tariffref04_Valid (k : Nat) (a0 : ByteArray) : Option (Bool) :=
 (tariffref04_Chars k a0).bind fun r1 =>
 some r1.2
def tariffref04_Valid.u (k : Nat) (v : ByteArray) : Option (Bool) := tariffref04_Valid k v
def tariffref04_Valid.G (k : Nat) : Ctx U := ⟨tyOf, bytesOf, fun f xs => if f == 94 then entry tariffref04_Chars.P tariffref04_Chars.S (tariffref04_Chars.u k) xs else none, fun f xs => none⟩
def tariffref04_Valid.H (k : Nat) : Hint U := ⟨[], fun i => none, fun i => none, fun i => none⟩
theorem tariffref04_Valid.ev (k : Nat) (v : ByteArray) : evFn (tariffref04_Valid.G k) (tariffref04_Valid.H k) tariffref04_Valid.S Tryz.f61 (encA tariffref04_Valid.P v) = tariffref04_Valid.u k v := by kernel_rfl
theorem tariffref04_Valid.fns : Fns Tryz.prog 61 Tryz.f61 tariffref04_Valid.P := ⟨Tryz.func61, by kernel_rfl⟩
theorem tariffref04_Valid.loops (k : Nat) : LoopsOk (tariffref04_Valid.G k) (tariffref04_Valid.H k) (bodyOf Tryz.f61) 1 := loops_of (ps := []) (by kernel_rfl) trivial
theorem tariffref04_Valid.call (k : Nat) : FnC Tryz.prog U Lay 61 tariffref04_Valid.P tariffref04_Valid.S (tariffref04_Valid.u k) := fnC hLay ulaw gok (fun f xs => (.ite (.entry (tariffref04_Chars.call k)) (CallC.none) : CallC Tryz.prog U Lay _ f xs)) (fun f xs => (CallC2.none : CallC2 Tryz.prog U Lay _ f xs)) tariffref04_Valid.fns (tariffref04_Valid.loops k) (tariffref04_Valid.ev k)
def tariffref03_Is (a0 : Int) : Option (Bool) :=
 ((if (decide (a0 ≥ (1 : Int))) = true then
 some (decide (a0 ≤ (3652059 : Int)))
 else some false) : Option Bool).bind fun b1 =>
 some b1
def tariffref03_Is.u (v : Int) : Option (Bool) := tariffref03_Is v
def tariffref03_Is.G : Ctx U := ⟨tyOf, bytesOf, fun f xs => none, fun f xs => none⟩
def tariffref03_Is.H : Hint U := ⟨[], fun i => none, fun i => none, fun i => none⟩
theorem tariffref03_Is.ev (v : Int) : evFn (tariffref03_Is.G) (tariffref03_Is.H) tariffref03_Is.S Tryz.f62 (encA tariffref03_Is.P v) = tariffref03_Is.u v := by kernel_rfl
theorem tariffref03_Is.fns : Fns Tryz.prog 62 Tryz.f62 tariffref03_Is.P := ⟨Tryz.func62, by kernel_rfl⟩
theorem tariffref03_Is.loops : LoopsOk (tariffref03_Is.G) (tariffref03_Is.H) (bodyOf Tryz.f62) 1 := loops_of (ps := []) (by kernel_rfl) trivial
theorem tariffref03_Is.call : FnC Tryz.prog U Lay 62 tariffref03_Is.P tariffref03_Is.S (tariffref03_Is.u) := fnC hLay ulaw gok (fun f xs => (CallC.none : CallC Tryz.prog U Lay _ f xs)) (fun f xs => (CallC2.none : CallC2 Tryz.prog U Lay _ f xs)) tariffref03_Is.fns (tariffref03_Is.loops) (tariffref03_Is.ev)
def tariffref04_Letter (a0 : Int) : Option (Bool) :=
 ((if (decide (a0 ≥ (97 : Int))) = true then
 some (decide (a0 ≤ (122 : Int)))
 else some false) : Option Bool).bind fun b1 =>
 ((if b1 = false then
 ((if (decide (a0 ≥ (65 : Int))) = true then
 some (decide (a0 ≤ (90 : Int)))
 else some false) : Option Bool).bind fun b2 =>
 some b2
 else some true) : Option Bool).bind fun b3 =>
 ((if b3 = false then
 some (a0 == (95 : Int))
 else some true) : Option Bool).bind fun b4 =>
 some b4
def tariffref04_Letter.u (v : Int) : Option (Bool) := tariffref04_Letter v
def tariffref04_Letter.G : Ctx U := ⟨tyOf, bytesOf, fun f xs => none, fun f xs => none⟩
def tariffref04_Letter.H : Hint U := ⟨[], fun i => none, fun i => none, fun i => none⟩
theorem tariffref04_Letter.ev (v : Int) : evFn (tariffref04_Letter.G) (tariffref04_Letter.H) tariffref04_Letter.S Tryz.f95 (encA tariffref04_Letter.P v) = tariffref04_Letter.u v := by kernel_rfl
theorem tariffref04_Letter.fns : Fns Tryz.prog 95 Tryz.f95 tariffref04_Letter.P := ⟨Tryz.func95, by kernel_rfl⟩
theorem tariffref04_Letter.loops : LoopsOk (tariffref04_Letter.G) (tariffref04_Letter.H) (bodyOf Tryz.f95) 1 := loops_of (ps := []) (by kernel_rfl) trivial
theorem tariffref04_Letter.call : FnC Tryz.prog U Lay 95 tariffref04_Letter.P tariffref04_Letter.S (tariffref04_Letter.u) := fnC hLay ulaw gok (fun f xs => (CallC.none : CallC Tryz.prog U Lay _ f xs)) (fun f xs => (CallC2.none : CallC2 Tryz.prog U Lay _ f xs)) tariffref04_Letter.fns (tariffref04_Letter.loops) (tariffref04_Letter.ev)
def tariffref04_Word (a0 : ByteArray) : Option (Bool) :=
 if (a0.data.toList == (ByteArray.mk #[97, 110, 100]).data.toList) = true then
 some true
 else
 if (a0.data.toList == (ByteArray.mk #[98, 101, 116, 119, 101, 101, 110]).data.toList) = true then
 some true
 else
 if (a0.data.toList == (ByteArray.mk #[101, 108, 115, 101]).data.toList) = true then
 some true
 else
 if (a0.data.toList == (ByteArray.mk #[102, 97, 108, 115, 101]).data.toList) = true then
 some true
 else
 if (a0.data.toList == (ByteArray.mk #[105, 102]).data.toList) = true then
 some true
 else
 if (a0.data.toList == (ByteArray.mk #[105, 110]).data.toList) = true then
 some true
 else
 if (a0.data.toList == (ByteArray.mk #[110, 111, 116]).data.toList) = true then
 some true
 else
 if (a0.data.toList == (ByteArray.mk #[110, 117, 108, 108]).data.toList) = true then
 some true
 else
 if (a0.data.toList == (ByteArray.mk #[111, 114]).data.toList) = true then
 some true
 else
 if (a0.data.toList == (ByteArray.mk #[116, 104, 101, 110]).data.toList) = true then
 some true
 else
 if (a0.data.toList == (ByteArray.mk #[116, 114, 117, 101]).data.toList) = true then
 some true
 else
 some false
def tariffref04_Word.u (v : ByteArray) : Option (Bool) := tariffref04_Word v
def tariffref04_Word.G : Ctx U := ⟨tyOf, bytesOf, fun f xs => none, fun f xs => none⟩
def tariffref04_Word.H : Hint U := ⟨[], fun i => none, fun i => none, fun i => none⟩
theorem tariffref04_Word.ev (v : ByteArray) : evFn (tariffref04_Word.G) (tariffref04_Word.H) tariffref04_Word.S Tryz.f96 (encA tariffref04_Word.P v) = tariffref04_Word.u v := by kernel_rfl
theorem tariffref04_Word.fns : Fns Tryz.prog 96 Tryz.f96 tariffref04_Word.P := ⟨Tryz.func96, by kernel_rfl⟩
theorem tariffref04_Word.loops : LoopsOk (tariffref04_Word.G) (tariffref04_Word.H) (bodyOf Tryz.f96) 1 := loops_of (ps := []) (by kernel_rfl) trivial
theorem tariffref04_Word.call : FnC Tryz.prog U Lay 96 tariffref04_Word.P tariffref04_Word.S (tariffref04_Word.u) := fnC hLay ulaw gok (fun f xs => (CallC.none : CallC Tryz.prog U Lay _ f xs)) (fun f xs => (CallC2.none : CallC2 Tryz.prog U Lay _ f xs)) tariffref04_Word.fns (tariffref04_Word.loops) (tariffref04_Word.ev)
def tariffref04_Digit (a0 : Int) : Option (Bool) :=
 ((if (decide (a0 ≥ (48 : Int))) = true then
 some (decide (a0 ≤ (57 : Int)))
 else some false) : Option Bool).bind fun b1 =>
 some b1
def tariffref04_Digit.u (v : Int) : Option (Bool) := tariffref04_Digit v
def tariffref04_Digit.G : Ctx U := ⟨tyOf, bytesOf, fun f xs => none, fun f xs => none⟩
def tariffref04_Digit.H : Hint U := ⟨[], fun i => none, fun i => none, fun i => none⟩
theorem tariffref04_Digit.ev (v : Int) : evFn (tariffref04_Digit.G) (tariffref04_Digit.H) tariffref04_Digit.S Tryz.f97 (encA tariffref04_Digit.P v) = tariffref04_Digit.u v := by kernel_rfl
theorem tariffref04_Digit.fns : Fns Tryz.prog 97 Tryz.f97 tariffref04_Digit.P := ⟨Tryz.func97, by kernel_rfl⟩
theorem tariffref04_Digit.loops : LoopsOk (tariffref04_Digit.G) (tariffref04_Digit.H) (bodyOf Tryz.f97) 1 := loops_of (ps := []) (by kernel_rfl) trivial
theorem tariffref04_Digit.call : FnC Tryz.prog U Lay 97 tariffref04_Digit.P tariffref04_Digit.S (tariffref04_Digit.u) := fnC hLay ulaw gok (fun f xs => (CallC.none : CallC Tryz.prog U Lay _ f xs)) (fun f xs => (CallC2.none : CallC2 Tryz.prog U Lay _ f xs)) tariffref04_Digit.fns (tariffref04_Digit.loops) (tariffref04_Digit.ev)
def tariffref04_Name.l4 (k : Nat) (v0 : ByteArray) : Nat → Int → Option (Fl (Unit) (Bool))
 | 0, _ => none
 | n + 1, v3 =>
 if (decide (v3 < (v0.size : Int))) = true then
 (idx v0.data.toList v3).bind fun e7 =>
 (tariffref04_Letter (e7.toNat : Int)).bind fun r8 =>
 ((if (!r8) = true then
 (idx v0.data.toList v3).bind fun e9 =>
 (tariffref04_Digit (e9.toNat : Int)).bind fun r10 =>
 some (!r10)
 else some false) : Option Bool).bind fun b11 =>
 if b11 = true then
 some (Fl.ret false)
 else
 tariffref04_Name.l4 k v0 n (IntKind.wrap .i64 (v3 + (1 : Int)))
 else
 some (Fl.go ())
def tariffref04_Name (k : Nat) (a0 : ByteArray) : Option (Bool) :=
 ((if (a0.data.toList == (ByteArray.mk #[]).data.toList) = false then
 some (decide ((a0.size : Int) > (64 : Int)))
 else some true) : Option Bool).bind fun b1 =>
 ((if b1 = false then
 (idx a0.data.toList (0 : Int)).bind fun e2 =>
 (tariffref04_Letter (e2.toNat : Int)).bind fun r3 =>
 some (!r3)
 else some true) : Option Bool).bind fun b4 =>
 ((if b4 = false then
 (tariffref04_Word a0).bind fun r5 =>
 some r5
 else some true) : Option Bool).bind fun b6 =>
 if b6 = true then
 some false
 else
 (tariffref04_Name.l4 k a0 k (1 : Int)).bind fun o => (match o with
 | .go x12 =>
 some true
 | .ret x13 =>
 some x13)
def tariffref04_Name.u (k : Nat) (v : ByteArray) : Option (Bool) := tariffref04_Name k v
def tariffref04_Name.G (k : Nat) : Ctx U := ⟨tyOf, bytesOf, fun f xs => if f == 95 then entry tariffref04_Letter.P tariffref04_Letter.S (tariffref04_Letter.u) xs else if f == 96 then entry tariffref04_Word.P tariffref04_Word.S (tariffref04_Word.u) xs else if f == 97 then entry tariffref04_Digit.P tariffref04_Digit.S (tariffref04_Digit.u) xs else none, fun f xs => none⟩
def tariffref04_Name.l4.L (k : Nat) : ELoopR U := ⟨[.slot 0 .str, .slot 3 (.int .i64)], 0, [], [.slot 2 .bool], fun (v : ByteArray × Int) => tariffref04_Name.l4 k v.1 k v.2⟩
def tariffref04_Name.H (k : Nat) : Hint U := ⟨[], fun i => none, fun i => if i == 58 then some (tariffref04_Name.l4.L k) else none, fun i => none⟩
theorem tariffref04_Name.l4.ok (k n : Nat) (v : Vars U (tariffref04_Name.l4.L k).ks) : loopRT (tariffref04_Name.G k) (tariffref04_Name.H k) (pick [true, true, false, true, false, false] (bodyOf Tryz.f63)) 58 (tariffref04_Name.l4.L k) n v = (fun (v : ByteArray × Int) => tariffref04_Name.l4 k v.1 n v.2) v :=
  loopRT_eq (tariffref04_Name.G k) (tariffref04_Name.H k) _ _ (tariffref04_Name.l4.L k) (fun n (v : ByteArray × Int) => tariffref04_Name.l4 k v.1 n v.2) (fun _ => rfl) (fun n v => by kernel_rfl) n v
theorem tariffref04_Name.ev (k : Nat) (v : ByteArray) : evFn (tariffref04_Name.G k) (tariffref04_Name.H k) tariffref04_Name.S Tryz.f63 (encA tariffref04_Name.P v) = tariffref04_Name.u k v := by kernel_rfl
theorem tariffref04_Name.fns : Fns Tryz.prog 63 Tryz.f63 tariffref04_Name.P := ⟨Tryz.func63, by kernel_rfl⟩
theorem tariffref04_Name.loops (k : Nat) : LoopsOk (tariffref04_Name.G k) (tariffref04_Name.H k) (bodyOf Tryz.f63) 1 := loops_of (ps := [(58, pick [true, true, false, true, false, false] (bodyOf Tryz.f63))]) (by kernel_rfl) ⟨loopR_ok rfl rfl fun v x hx => ⟨k, (tariffref04_Name.l4.ok k k v).trans hx⟩, trivial⟩
theorem tariffref04_Name.call (k : Nat) : FnC Tryz.prog U Lay 63 tariffref04_Name.P tariffref04_Name.S (tariffref04_Name.u k) := fnC hLay ulaw gok (fun f xs => (.ite (.entry (tariffref04_Letter.call)) (.ite (.entry (tariffref04_Word.call)) (.ite (.entry (tariffref04_Digit.call)) (CallC.none))) : CallC Tryz.prog U Lay _ f xs)) (fun f xs => (CallC2.none : CallC2 Tryz.prog U Lay _ f xs)) tariffref04_Name.fns (tariffref04_Name.loops k) (tariffref04_Name.ev k)
def tariffref10_fields (k : Nat) (a0 : Node) : Option (Bool) :=
 ((if (a0.op == (4 : Int)) = true then
 (tariffref02_Form k a0.num).bind fun r1 =>
 ((if (!r1) = false then
 some a0.num.neg
 else some true) : Option Bool).bind fun b2 =>
 if b2 = true then
 some (Fl.ret false)
 else
 some (Fl.go (a0.text, a0.day, (⟨false, (⟨(0 : Int), (0 : Int)⟩ : Wide), (0 : Int)⟩ : Dec)))
 else
 if (a0.op == (5 : Int)) = true then
 (tariffref04_Valid k a0.text).bind fun r3 =>
 ((if (!r3) = false then
 some (decide ((a0.text.size : Int) > (1000 : Int)))
 else some true) : Option Bool).bind fun b4 =>
 if b4 = true then
 some (Fl.ret false)
 else
 some (Fl.go ((ByteArray.mk #[]), a0.day, a0.num))
 else
 if (a0.op == (6 : Int)) = true then
 (tariffref03_Is a0.day).bind fun r5 =>
 if (!r5) = true then
 some (Fl.ret false)
 else
 some (Fl.go (a0.text, (0 : Int), a0.num))
 else
 ((if (a0.op == (7 : Int)) = true then
 some (a0.text, a0.day, a0.op, true, a0.num)
 else
 if (a0.op == (24 : Int)) = true then
 some (a0.text, a0.day, a0.op, true, a0.num)
 else
 if (a0.op == (25 : Int)) = true then
 some (a0.text, a0.day, a0.op, true, a0.num)
 else
 some (a0.text, a0.day, a0.op, (a0.op == (28 : Int)), a0.num)) : Option (ByteArray × Int × Int × Bool × Dec)).bind fun j6 =>
 if j6.2.2.2.1 = true then
 (tariffref04_Name k j6.1).bind fun r7 =>
 if (!r7) = true then
 some (Fl.ret false)
 else
 some (Fl.go ((ByteArray.mk #[]), j6.2.1, j6.2.2.2.2))
 else
 if (j6.2.2.1 == (35 : Int)) = true then
 ((if (!(j6.1.data.toList == (ByteArray.mk #[91, 93]).data.toList)) = true then
 some (!(j6.1.data.toList == (ByteArray.mk #[91, 41]).data.toList))
 else some false) : Option Bool).bind fun b8 =>
 ((if b8 = true then
 some (!(j6.1.data.toList == (ByteArray.mk #[40, 93]).data.toList))
 else some false) : Option Bool).bind fun b9 =>
 ((if b9 = true then
 some (!(j6.1.data.toList == (ByteArray.mk #[40, 41]).data.toList))
 else some false) : Option Bool).bind fun b10 =>
 if b10 = true then
 some (Fl.ret false)
 else
 some (Fl.go ((ByteArray.mk #[]), j6.2.1, j6.2.2.2.2))
 else
 some (Fl.go (j6.1, j6.2.1, j6.2.2.2.2))) : Option (Fl (ByteArray × Int × Dec) (Bool))).bind fun o => (match o with
 | .go j11 =>
 ((if (j11.1.data.toList == (ByteArray.mk #[]).data.toList) = true then
 some ((j11.2.2.neg == false) && (((j11.2.2.coef.hi == (0 : Int)) && ((j11.2.2.coef.lo == (0 : Int)) && true)) && ((j11.2.2.scale == (0 : Int)) && true)))
 else some false) : Option Bool).bind fun b13 =>
 ((if b13 = true then
 some (j11.2.1 == (0 : Int))
 else some false) : Option Bool).bind fun b14 =>
 some b14
 | .ret j12 =>
 some j12)
def tariffref10_fields.u (k : Nat) (v : Node) : Option (Bool) := tariffref10_fields k v
def tariffref10_fields.G (k : Nat) : Ctx U := ⟨tyOf, bytesOf, fun f xs => if f == 60 then entry tariffref02_Form.P tariffref02_Form.S (tariffref02_Form.u k) xs else if f == 61 then entry tariffref04_Valid.P tariffref04_Valid.S (tariffref04_Valid.u k) xs else if f == 62 then entry tariffref03_Is.P tariffref03_Is.S (tariffref03_Is.u) xs else if f == 63 then entry tariffref04_Name.P tariffref04_Name.S (tariffref04_Name.u k) xs else none, fun f xs => none⟩
def tariffref10_fields.H (k : Nat) : Hint U := ⟨[], fun i => none, fun i => none, fun i => if i == 29 then some ⟨[.slot 3 .str, .ptr 4 4 [] (.st 1), .slot 5 (.int .i64), .box 4 (.st 1) []], some [.slot 2 .bool]⟩ else if i == 15101 then some ⟨[.slot 3 .str, .ptr 4 4 [] (.st 1), .slot 5 (.int .i64), .slot 13 (.int .i64), .slot 39 .bool, .box 4 (.st 1) []], none⟩ else none⟩
theorem tariffref10_fields.ev (k : Nat) (v : Node) : evFn (tariffref10_fields.G k) (tariffref10_fields.H k) tariffref10_fields.S Tryz.f38 (encA tariffref10_fields.P v) = tariffref10_fields.u k v := by kernel_rfl
theorem tariffref10_fields.fns : Fns Tryz.prog 38 Tryz.f38 tariffref10_fields.P := ⟨Tryz.func38, by kernel_rfl⟩
theorem tariffref10_fields.loops (k : Nat) : LoopsOk (tariffref10_fields.G k) (tariffref10_fields.H k) (bodyOf Tryz.f38) 1 := loops_of (ps := []) (by kernel_rfl) trivial
theorem tariffref10_fields.call (k : Nat) : FnC Tryz.prog U Lay 38 tariffref10_fields.P tariffref10_fields.S (tariffref10_fields.u k) := fnC hLay ulaw gok (fun f xs => (.ite (.entry (tariffref02_Form.call k)) (.ite (.entry (tariffref04_Valid.call k)) (.ite (.entry (tariffref03_Is.call)) (.ite (.entry (tariffref04_Name.call k)) (CallC.none)))) : CallC Tryz.prog U Lay _ f xs)) (fun f xs => (CallC2.none : CallC2 Tryz.prog U Lay _ f xs)) tariffref10_fields.fns (tariffref10_fields.loops k) (tariffref10_fields.ev k)
def tariffref10_sort (a0 : Int) : Option (Int) :=
 if (decide (a0 ≤ (27 : Int))) = true then
 some (1 : Int)
 else
 if (a0 == (28 : Int)) = true then
 some (2 : Int)
 else
 ((if (decide (a0 ≥ (30 : Int))) = true then
 some (decide (a0 ≤ (35 : Int)))
 else some false) : Option Bool).bind fun b1 =>
 if b1 = true then
 some (3 : Int)
 else
 if (a0 == (36 : Int)) = true then
 some (4 : Int)
 else
 some (5 : Int)
def tariffref10_sort.u (v : Int) : Option (Int) := tariffref10_sort v
def tariffref10_sort.G : Ctx U := ⟨tyOf, bytesOf, fun f xs => none, fun f xs => none⟩
def tariffref10_sort.H : Hint U := ⟨[], fun i => none, fun i => none, fun i => none⟩
theorem tariffref10_sort.ev (v : Int) : evFn (tariffref10_sort.G) (tariffref10_sort.H) tariffref10_sort.S Tryz.f39 (encA tariffref10_sort.P v) = tariffref10_sort.u v := by kernel_rfl
theorem tariffref10_sort.fns : Fns Tryz.prog 39 Tryz.f39 tariffref10_sort.P := ⟨Tryz.func39, by kernel_rfl⟩
theorem tariffref10_sort.loops : LoopsOk (tariffref10_sort.G) (tariffref10_sort.H) (bodyOf Tryz.f39) 1 := loops_of (ps := []) (by kernel_rfl) trivial
theorem tariffref10_sort.call : FnC Tryz.prog U Lay 39 tariffref10_sort.P tariffref10_sort.S (tariffref10_sort.u) := fnC hLay ulaw gok (fun f xs => (CallC.none : CallC Tryz.prog U Lay _ f xs)) (fun f xs => (CallC2.none : CallC2 Tryz.prog U Lay _ f xs)) tariffref10_sort.fns (tariffref10_sort.loops) (tariffref10_sort.ev)
def tariffref10_wants (a0 : Int) (a1 : Int) : Option (Int) :=
 if (a0 == (27 : Int)) = true then
 some (2 : Int)
 else
 if (a0 == (36 : Int)) = true then
 some (3 : Int)
 else
 ((if (a0 == (37 : Int)) = false then
 ((if (a0 == (23 : Int)) = true then
 some (a1 == (1 : Int))
 else some false) : Option Bool).bind fun b1 =>
 some b1
 else some true) : Option Bool).bind fun b2 =>
 if b2 = true then
 some (4 : Int)
 else
 some (1 : Int)
def tariffref10_wants.u (v : Int × Int) : Option (Int) := tariffref10_wants v.1 v.2
def tariffref10_wants.G : Ctx U := ⟨tyOf, bytesOf, fun f xs => none, fun f xs => none⟩
def tariffref10_wants.H : Hint U := ⟨[], fun i => none, fun i => none, fun i => none⟩
theorem tariffref10_wants.ev (v : Int × Int) : evFn (tariffref10_wants.G) (tariffref10_wants.H) tariffref10_wants.S Tryz.f40 (encA tariffref10_wants.P v) = tariffref10_wants.u v := by kernel_rfl
theorem tariffref10_wants.fns : Fns Tryz.prog 40 Tryz.f40 tariffref10_wants.P := ⟨Tryz.func40, by kernel_rfl⟩
theorem tariffref10_wants.loops : LoopsOk (tariffref10_wants.G) (tariffref10_wants.H) (bodyOf Tryz.f40) 1 := loops_of (ps := []) (by kernel_rfl) trivial
theorem tariffref10_wants.call : FnC Tryz.prog U Lay 40 tariffref10_wants.P tariffref10_wants.S (tariffref10_wants.u) := fnC hLay ulaw gok (fun f xs => (CallC.none : CallC Tryz.prog U Lay _ f xs)) (fun f xs => (CallC2.none : CallC2 Tryz.prog U Lay _ f xs)) tariffref10_wants.fns (tariffref10_wants.loops) (tariffref10_wants.ev)
def tariffref10_twice.l5 (k : Nat) (v0 : List Node) (v1 : List Int) (v5 : Int) : Nat → Int → Option (Fl ((List Node) × (List Int) × Int) (Bool))
 | 0, _ => none
 | n + 1, v6 =>
 if (decide (v6 < v5)) = true then
 (idx v1 v5).bind fun e1 =>
 (idx v0 e1).bind fun e2 =>
 (idx v1 v6).bind fun e3 =>
 (idx v0 e3).bind fun e4 =>
 if (e2.text.data.toList == e4.text.data.toList) = true then
 some (Fl.ret true)
 else
 tariffref10_twice.l5 k v0 v1 v5 n (IntKind.wrap .i64 (v6 + (1 : Int)))
 else
 some (Fl.go (v0, v1, v5))
def tariffref10_twice.l2 (k : Nat) : Nat → (List Node) → (List Int) → Int → Option (Fl (Unit) (Bool))
 | 0, _, _, _ => none
 | n + 1, v0, v1, v5 =>
 if (decide (v5 < (v1.length : Int))) = true then
 (tariffref10_twice.l5 k v0 v1 v5 k (0 : Int)).bind fun o => (match o with
 | .go x5 =>
 tariffref10_twice.l2 k n x5.1 x5.2.1 (IntKind.wrap .i64 (x5.2.2 + (1 : Int)))
 | .ret x6 =>
 some (Fl.ret x6))
 else
 some (Fl.go ())
def tariffref10_twice (k : Nat) (a0 : List Node) (a1 : List Int) : Option (Bool) :=
 (tariffref10_twice.l2 k k a0 a1 (0 : Int)).bind fun o => (match o with
 | .go x7 =>
 some false
 | .ret x8 =>
 some x8)
def tariffref10_twice.u (k : Nat) (v : (List Node) × (List Int)) : Option (Bool) := tariffref10_twice k v.1 v.2
def tariffref10_twice.G (k : Nat) : Ctx U := ⟨tyOf, bytesOf, fun f xs => none, fun f xs => none⟩
def tariffref10_twice.l5.L (k : Nat) : ELoopR U := ⟨[.slot 0 (.sl (.st 0)), .slot 1 (.sl (.int .i64)), .slot 5 (.int .i64), .slot 6 (.int .i64)], 2, [.slot 0 (.sl (.st 0)), .slot 1 (.sl (.int .i64)), .slot 5 (.int .i64)], [.slot 4 .bool], fun (v : (List Node) × (List Int) × Int × Int) => tariffref10_twice.l5 k v.1 v.2.1 v.2.2.1 k v.2.2.2⟩
def tariffref10_twice.l2.L (k : Nat) : ELoopR U := ⟨[.slot 0 (.sl (.st 0)), .slot 1 (.sl (.int .i64)), .slot 5 (.int .i64)], 0, [], [.slot 4 .bool], fun (v : (List Node) × (List Int) × Int) => tariffref10_twice.l2 k k v.1 v.2.1 v.2.2⟩
def tariffref10_twice.H (k : Nat) : Hint U := ⟨[], fun i => none, fun i => if i == 26 then some (tariffref10_twice.l2.L k) else if i == 1682 then some (tariffref10_twice.l5.L k) else none, fun i => none⟩
theorem tariffref10_twice.l5.ok (k n : Nat) (v : Vars U (tariffref10_twice.l5.L k).ks) : loopRT (tariffref10_twice.G k) (tariffref10_twice.H k) (pick [true, false, true, false, false, true, false, false, true, false, false] (bodyOf Tryz.f41)) 1682 (tariffref10_twice.l5.L k) n v = (fun (v : (List Node) × (List Int) × Int × Int) => tariffref10_twice.l5 k v.1 v.2.1 v.2.2.1 n v.2.2.2) v :=
  loopRT_eq (tariffref10_twice.G k) (tariffref10_twice.H k) _ _ (tariffref10_twice.l5.L k) (fun n (v : (List Node) × (List Int) × Int × Int) => tariffref10_twice.l5 k v.1 v.2.1 v.2.2.1 n v.2.2.2) (fun _ => rfl) (fun n v => by kernel_rfl) n v
theorem tariffref10_twice.l2.ok (k n : Nat) (v : Vars U (tariffref10_twice.l2.L k).ks) : loopRT (tariffref10_twice.G k) (tariffref10_twice.H k) (pick [true, false, true, false, false] (bodyOf Tryz.f41)) 26 (tariffref10_twice.l2.L k) n v = (fun (v : (List Node) × (List Int) × Int) => tariffref10_twice.l2 k n v.1 v.2.1 v.2.2) v :=
  loopRT_eq (tariffref10_twice.G k) (tariffref10_twice.H k) _ _ (tariffref10_twice.l2.L k) (fun n (v : (List Node) × (List Int) × Int) => tariffref10_twice.l2 k n v.1 v.2.1 v.2.2) (fun _ => rfl) (fun n v => by kernel_rfl) n v
theorem tariffref10_twice.ev (k : Nat) (v : (List Node) × (List Int)) : evFn (tariffref10_twice.G k) (tariffref10_twice.H k) tariffref10_twice.S Tryz.f41 (encA tariffref10_twice.P v) = tariffref10_twice.u k v := by kernel_rfl
theorem tariffref10_twice.fns : Fns Tryz.prog 41 Tryz.f41 tariffref10_twice.P := ⟨Tryz.func41, by kernel_rfl⟩
theorem tariffref10_twice.loops (k : Nat) : LoopsOk (tariffref10_twice.G k) (tariffref10_twice.H k) (bodyOf Tryz.f41) 1 := loops_of (ps := [(26, pick [true, false, true, false, false] (bodyOf Tryz.f41)), (1682, pick [true, false, true, false, false, true, false, false, true, false, false] (bodyOf Tryz.f41))]) (by kernel_rfl) ⟨loopR_ok rfl rfl fun v x hx => ⟨k, (tariffref10_twice.l2.ok k k v).trans hx⟩, ⟨loopR_ok rfl rfl fun v x hx => ⟨k, (tariffref10_twice.l5.ok k k v).trans hx⟩, trivial⟩⟩
theorem tariffref10_twice.call (k : Nat) : FnC Tryz.prog U Lay 41 tariffref10_twice.P tariffref10_twice.S (tariffref10_twice.u k) := fnC hLay ulaw gok (fun f xs => (CallC.none : CallC Tryz.prog U Lay _ f xs)) (fun f xs => (CallC2.none : CallC2 Tryz.prog U Lay _ f xs)) tariffref10_twice.fns (tariffref10_twice.loops k) (tariffref10_twice.ev k)
def tariffref10_Check.l14 (k : Nat) (v0 : List Node) (v1 : Bool) (v5 : List (List Int)) (v9 : Int) (v10 : Int) : Nat → (List Int) → Int → Option (Fl ((List Node) × Bool × (List (List Int)) × (List Int) × Int × Int) (Int))
 | 0, _, _ => none
 | n + 1, w8, v11 =>
 (idx v5 v10).bind fun e5 =>
 if (decide (v11 < (e5.length : Int))) = true then
 (idx v5 v10).bind fun e6 =>
 (idx e6 v11).bind fun e7 =>
 (idx v0 e7).bind fun e8 =>
 (tariffref10_sort e8.op).bind fun r9 =>
 (idx v0 v10).bind fun e10 =>
 (tariffref10_wants e10.op v11).bind fun r11 =>
 if (r9 != r11) = true then
 some (Fl.ret (2 : Int))
 else
 if 0 ≤ v10 ∧ v10 < (w8.length : Int) then
 (idx w8 v10).bind fun e12 =>
 (idx v5 v10).bind fun e13 =>
 (idx e13 v11).bind fun e14 =>
 if 0 ≤ e14 ∧ e14 < (w8.length : Int) then
 (idx w8 e14).bind fun e15 =>
 if 0 ≤ v10 ∧ v10 < (w8.length : Int) then
 (idx w8 v10).bind fun e16 =>
 tariffref10_Check.l14 k v0 v1 v5 v9 v10 n (w8.set (v10).toNat (if e15 > e12 then e15 else e12)) (IntKind.wrap .i64 (v11 + (1 : Int)))
 else none
 else none
 else none
 else
 some (Fl.go (v0, v1, v5, w8, v9, v10))
def tariffref10_Check.l9 (k : Nat) : Nat → (List Node) → Bool → (List (List Int)) → (List Int) → Int → Int → Option (Fl ((List Node) × Bool × Int) (Int))
 | 0, _, _, _, _, _, _ => none
 | n + 1, v0, v1, v5, w8, v9, v10 =>
 if (decide (v10 < (v0.length : Int))) = true then
 (idx v0 v10).bind fun e3 =>
 (tariffref10_fields k e3).bind fun r4 =>
 if (!r4) = true then
 some (Fl.ret (2 : Int))
 else
 (tariffref10_Check.l14 k v0 v1 v5 v9 v10 k w8 (0 : Int)).bind fun o => (match o with
 | .go x17 =>
 (idx x17.1 x17.2.2.2.2.2).bind fun e19 =>
 ((if (e19.op == (27 : Int)) = true then
 (idx x17.2.2.1 x17.2.2.2.2.2).bind fun e20 =>
 (tariffref10_twice k x17.1 e20).bind fun r21 =>
 some r21
 else some false) : Option Bool).bind fun b22 =>
 if b22 = true then
 some (Fl.ret (2 : Int))
 else
 if 0 ≤ x17.2.2.2.2.2 ∧ x17.2.2.2.2.2 < (x17.2.2.2.1.length : Int) then
 (idx x17.2.2.2.1 x17.2.2.2.2.2).bind fun e23 =>
 if 0 ≤ x17.2.2.2.2.2 ∧ x17.2.2.2.2.2 < (x17.2.2.2.1.length : Int) then
 (idx x17.2.2.2.1 x17.2.2.2.2.2).bind fun e24 =>
 if 0 ≤ x17.2.2.2.2.2 ∧ x17.2.2.2.2.2 < ((x17.2.2.2.1.set (x17.2.2.2.2.2).toNat (IntKind.wrap .i64 (e23 + (1 : Int)))).length : Int) then
 (idx (x17.2.2.2.1.set (x17.2.2.2.2.2).toNat (IntKind.wrap .i64 (e23 + (1 : Int)))) x17.2.2.2.2.2).bind fun e25 =>
 tariffref10_Check.l9 k n x17.1 x17.2.1 x17.2.2.1 (x17.2.2.2.1.set (x17.2.2.2.2.2).toNat (IntKind.wrap .i64 (e23 + (1 : Int)))) (if e25 > x17.2.2.2.2.1 then e25 else x17.2.2.2.2.1) (IntKind.wrap .i64 (x17.2.2.2.2.2 + (1 : Int)))
 else none
 else none
 else none
 | .ret x18 =>
 some (Fl.ret x18))
 else
 some (Fl.go (v0, v1, v9))
def tariffref10_Check (k : Nat) (a0 : List Node) (a1 : Bool) : Option (Int) :=
 if (decide ((a0.length : Int) > (300 : Int))) = true then
 some (6 : Int)
 else
 (tariffref10_stack k a0 (IntKind.wrap .i64 ((a0.length : Int) - (1 : Int)))).bind fun r1 =>
 ((if (!r1.2.2) = false then
 some ((r1.2.1.length : Int) != (1 : Int))
 else some true) : Option Bool).bind fun b2 =>
 if b2 = true then
 some (2 : Int)
 else
 if 0 ≤ (a0.length : Int) ∧ (a0.length : Int) ≤ (a0.length : Int) ∧ room (((a0.length : Int)).toNat * 8) then
 (tariffref10_Check.l9 k k a0 a1 r1.1 (List.replicate ((a0.length : Int)).toNat (0 : Int)) (0 : Int) (0 : Int)).bind fun o => (match o with
 | .go x26 =>
 (idx x26.1 (IntKind.wrap .i64 ((x26.1.length : Int) - (1 : Int)))).bind fun e28 =>
 (tariffref10_sort e28.op).bind fun r29 =>
 ((if x26.2.1 = true then
 some (r29 != (4 : Int))
 else some false) : Option Bool).bind fun b30 =>
 ((if b30 = true then
 some (r29 != (5 : Int))
 else some false) : Option Bool).bind fun b31 =>
 ((if b31 = false then
 ((if (!x26.2.1) = true then
 some (r29 != (1 : Int))
 else some false) : Option Bool).bind fun b32 =>
 some b32
 else some true) : Option Bool).bind fun b33 =>
 if b33 = true then
 some (2 : Int)
 else
 if (decide (x26.2.2 > (40 : Int))) = true then
 some (7 : Int)
 else
 some (0 : Int)
 | .ret x27 =>
 some x27)
 else none
def tariffref10_Check.u (k : Nat) (v : (List Node) × Bool) : Option (Int) := tariffref10_Check k v.1 v.2
def tariffref10_Check.G (k : Nat) : Ctx U := ⟨tyOf, bytesOf, fun f xs => if f == 37 then entry tariffref10_stack.P tariffref10_stack.S (tariffref10_stack.u k) xs else if f == 38 then entry tariffref10_fields.P tariffref10_fields.S (tariffref10_fields.u k) xs else if f == 39 then entry tariffref10_sort.P tariffref10_sort.S (tariffref10_sort.u) xs else if f == 40 then entry tariffref10_wants.P tariffref10_wants.S (tariffref10_wants.u) xs else if f == 41 then entry tariffref10_twice.P tariffref10_twice.S (tariffref10_twice.u k) xs else none, fun f xs => none⟩
def tariffref10_Check.l14.L (k : Nat) : ELoopR U := ⟨[.slot 0 (.sl (.st 0)), .slot 1 .bool, .slot 5 (.sl (.sl (.int .i64))), .row 8 (.int .i64), .slot 9 (.int .i64), .slot 10 (.int .i64), .slot 11 (.int .i64)], 2, [.slot 0 (.sl (.st 0)), .slot 1 .bool, .slot 5 (.sl (.sl (.int .i64))), .row 8 (.int .i64), .slot 9 (.int .i64), .slot 10 (.int .i64)], [.slot 4 (.int .i64)], fun (v : (List Node) × Bool × (List (List Int)) × (List Int) × Int × Int × Int) => tariffref10_Check.l14 k v.1 v.2.1 v.2.2.1 v.2.2.2.2.1 v.2.2.2.2.2.1 k v.2.2.2.1 v.2.2.2.2.2.2⟩
def tariffref10_Check.l9.L (k : Nat) : ELoopR U := ⟨[.slot 0 (.sl (.st 0)), .slot 1 .bool, .slot 5 (.sl (.sl (.int .i64))), .row 8 (.int .i64), .slot 9 (.int .i64), .slot 10 (.int .i64)], 0, [.slot 0 (.sl (.st 0)), .slot 1 .bool, .slot 9 (.int .i64)], [.slot 4 (.int .i64)], fun (v : (List Node) × Bool × (List (List Int)) × (List Int) × Int × Int) => tariffref10_Check.l9 k k v.1 v.2.1 v.2.2.1 v.2.2.2.1 v.2.2.2.2.1 v.2.2.2.2.2⟩
def tariffref10_Check.H (k : Nat) : Hint U := ⟨[], fun i => none, fun i => if i == 1018 then some (tariffref10_Check.l9.L k) else if i == 260682 then some (tariffref10_Check.l14.L k) else none, fun i => none⟩
theorem tariffref10_Check.l14.ok (k n : Nat) (v : Vars U (tariffref10_Check.l14.L k).ks) : loopRT (tariffref10_Check.G k) (tariffref10_Check.H k) (pick [true, true, true, true, true, true, false, true, false, false, true, false, false, true, false, true, false, false] (bodyOf Tryz.f24)) 260682 (tariffref10_Check.l14.L k) n v = (fun (v : (List Node) × Bool × (List (List Int)) × (List Int) × Int × Int × Int) => tariffref10_Check.l14 k v.1 v.2.1 v.2.2.1 v.2.2.2.2.1 v.2.2.2.2.2.1 n v.2.2.2.1 v.2.2.2.2.2.2) v :=
  loopRT_eq (tariffref10_Check.G k) (tariffref10_Check.H k) _ _ (tariffref10_Check.l14.L k) (fun n (v : (List Node) × Bool × (List (List Int)) × (List Int) × Int × Int × Int) => tariffref10_Check.l14 k v.1 v.2.1 v.2.2.1 v.2.2.2.2.1 v.2.2.2.2.2.1 n v.2.2.2.1 v.2.2.2.2.2.2) (fun _ => rfl) (fun n v => by kernel_rfl) n v
theorem tariffref10_Check.l9.ok (k n : Nat) (v : Vars U (tariffref10_Check.l9.L k).ks) : loopRT (tariffref10_Check.G k) (tariffref10_Check.H k) (pick [true, true, true, true, true, true, false, true, false, false] (bodyOf Tryz.f24)) 1018 (tariffref10_Check.l9.L k) n v = (fun (v : (List Node) × Bool × (List (List Int)) × (List Int) × Int × Int) => tariffref10_Check.l9 k n v.1 v.2.1 v.2.2.1 v.2.2.2.1 v.2.2.2.2.1 v.2.2.2.2.2) v :=
  loopRT_eq (tariffref10_Check.G k) (tariffref10_Check.H k) _ _ (tariffref10_Check.l9.L k) (fun n (v : (List Node) × Bool × (List (List Int)) × (List Int) × Int × Int) => tariffref10_Check.l9 k n v.1 v.2.1 v.2.2.1 v.2.2.2.1 v.2.2.2.2.1 v.2.2.2.2.2) (fun _ => rfl) (fun n v => by kernel_rfl) n v
theorem tariffref10_Check.ev (k : Nat) (v : (List Node) × Bool) : evFn (tariffref10_Check.G k) (tariffref10_Check.H k) tariffref10_Check.S Tryz.f24 (encA tariffref10_Check.P v) = tariffref10_Check.u k v := by kernel_rfl
theorem tariffref10_Check.fns : Fns Tryz.prog 24 Tryz.f24 tariffref10_Check.P := ⟨Tryz.func24, by kernel_rfl⟩
theorem tariffref10_Check.loops (k : Nat) : LoopsOk (tariffref10_Check.G k) (tariffref10_Check.H k) (bodyOf Tryz.f24) 1 := loops_of (ps := [(1018, pick [true, true, true, true, true, true, false, true, false, false] (bodyOf Tryz.f24)), (260682, pick [true, true, true, true, true, true, false, true, false, false, true, false, false, true, false, true, false, false] (bodyOf Tryz.f24))]) (by kernel_rfl) ⟨loopR_ok rfl rfl fun v x hx => ⟨k, (tariffref10_Check.l9.ok k k v).trans hx⟩, ⟨loopR_ok rfl rfl fun v x hx => ⟨k, (tariffref10_Check.l14.ok k k v).trans hx⟩, trivial⟩⟩
theorem tariffref10_Check.call (k : Nat) : FnC Tryz.prog U Lay 24 tariffref10_Check.P tariffref10_Check.S (tariffref10_Check.u k) := fnC hLay ulaw gok (fun f xs => (.ite (.entry (tariffref10_stack.call k)) (.ite (.entry (tariffref10_fields.call k)) (.ite (.entry (tariffref10_sort.call)) (.ite (.entry (tariffref10_wants.call)) (.ite (.entry (tariffref10_twice.call k)) (CallC.none))))) : CallC Tryz.prog U Lay _ f xs)) (fun f xs => (CallC2.none : CallC2 Tryz.prog U Lay _ f xs)) tariffref10_Check.fns (tariffref10_Check.loops k) (tariffref10_Check.ev k)
def tariffref07_depth.l3 (rec_tariffref07_depth : Val → Option (Int)) (k : Nat) (b1 : Val) : Nat → Int → Int → Option (Int)
 | 0, _, _ => none
 | n + 1, v3, v4 =>
 if (decide (v4 < (b1.list.length : Int))) = true then
 (idx b1.list v4).bind fun e1 =>
 (rec_tariffref07_depth e1).bind fun r2 =>
 tariffref07_depth.l3 rec_tariffref07_depth k b1 n (if r2 > v3 then r2 else v3) (IntKind.wrap .i64 (v4 + (1 : Int)))
 else
 some v3
def tariffref07_depth : Nat → Val → Option (Int)
 | 0, _ => none
 | k + 1, a0 =>
 (tariffref07_depth.l3 (tariffref07_depth k) k a0 k (0 : Int) (0 : Int)).bind fun x3 =>
 some (IntKind.wrap .i64 (x3 + (1 : Int)))
def tariffref07_depth.u (k : Nat) (v : Val) : Option (Int) := tariffref07_depth k v
def tariffref07_depth.G (k : Nat) : Ctx U := ⟨tyOf, bytesOf, fun f xs => if f == 35 then entry tariffref07_depth.P tariffref07_depth.S (tariffref07_depth.u k) xs else none, fun f xs => none⟩
def tariffref07_depth.l3.L (k : Nat) : ELoop U := ⟨[.ptr 1 1 [] (.st 3), .slot 3 (.int .i64), .slot 4 (.int .i64), .box 1 (.st 3) []], 0, [.slot 3 (.int .i64)], fun (v : Int × Int × Val) => tariffref07_depth.l3 (tariffref07_depth k) k v.2.2 k v.1 v.2.1⟩
def tariffref07_depth.H (k : Nat) : Hint U := ⟨[], fun i => if i == 58 then some (tariffref07_depth.l3.L k) else none, fun i => none, fun i => none⟩
theorem tariffref07_depth.l3.ok (k n : Nat) (v : Vars U (tariffref07_depth.l3.L k).ks) : loopT (tariffref07_depth.G k) (tariffref07_depth.H k) (pick [true, true, false, true, false, false] (bodyOf Tryz.f35)) 58 (tariffref07_depth.l3.L k) n v = (fun (v : Int × Int × Val) => tariffref07_depth.l3 (tariffref07_depth k) k v.2.2 n v.1 v.2.1) v :=
  loopT_eq (tariffref07_depth.G k) (tariffref07_depth.H k) _ _ (tariffref07_depth.l3.L k) (fun n (v : Int × Int × Val) => tariffref07_depth.l3 (tariffref07_depth k) k v.2.2 n v.1 v.2.1) (fun _ => rfl) (fun n v => by kernel_rfl) n v
theorem tariffref07_depth.ev (k : Nat) (v : Val) : evFn (tariffref07_depth.G k) (tariffref07_depth.H k) tariffref07_depth.S Tryz.f35 (encA tariffref07_depth.P v) = tariffref07_depth.u (k + 1) v := by kernel_rfl
theorem tariffref07_depth.fns : Fns Tryz.prog 35 Tryz.f35 tariffref07_depth.P := ⟨Tryz.func35, by kernel_rfl⟩
theorem tariffref07_depth.loops (k : Nat) : LoopsOk (tariffref07_depth.G k) (tariffref07_depth.H k) (bodyOf Tryz.f35) 1 := loops_of (ps := [(58, pick [true, true, false, true, false, false] (bodyOf Tryz.f35))]) (by kernel_rfl) ⟨loopT_ok rfl fun v x hx => ⟨k, (tariffref07_depth.l3.ok k k v).trans hx⟩, trivial⟩
theorem tariffref07_depth.call : ∀ (k : Nat), FnC Tryz.prog U Lay 35 tariffref07_depth.P tariffref07_depth.S (tariffref07_depth.u k)
  | 0 => fun _ _ h => nomatch (show none = some _ from h)
  | k + 1 => fnC hLay ulaw gok (fun f xs => (.ite (.entry (tariffref07_depth.call k)) (CallC.none) : CallC Tryz.prog U Lay _ f xs)) (fun f xs => (CallC2.none : CallC2 Tryz.prog U Lay _ f xs)) tariffref07_depth.fns (tariffref07_depth.loops k) (tariffref07_depth.ev k)
def tariffref07_bare (a0 : Val) : Option (Bool) :=
 ((if (a0.kind == (1 : Int)) = false then
 some (!a0.yes)
 else some true) : Option Bool).bind fun b1 =>
 ((if b1 = true then
 ((if (a0.kind == (2 : Int)) = false then
 some ((a0.num.neg == false) && (((a0.num.coef.hi == (0 : Int)) && ((a0.num.coef.lo == (0 : Int)) && true)) && ((a0.num.scale == (0 : Int)) && true)))
 else some true) : Option Bool).bind fun b2 =>
 some b2
 else some false) : Option Bool).bind fun b3 =>
 ((if b3 = true then
 ((if (a0.kind == (3 : Int)) = false then
 some (a0.text.data.toList == (ByteArray.mk #[]).data.toList)
 else some true) : Option Bool).bind fun b4 =>
 some b4
 else some false) : Option Bool).bind fun b5 =>
 ((if b5 = true then
 ((if (a0.kind == (4 : Int)) = false then
 some (a0.day == (0 : Int))
 else some true) : Option Bool).bind fun b6 =>
 some b6
 else some false) : Option Bool).bind fun b7 =>
 ((if b7 = true then
 ((if (decide (a0.kind ≥ (5 : Int))) = false then
 some ((a0.list.length : Int) == (0 : Int))
 else some true) : Option Bool).bind fun b8 =>
 some b8
 else some false) : Option Bool).bind fun b9 =>
 ((if b9 = true then
 ((if (a0.kind == (6 : Int)) = false then
 some ((a0.names.length : Int) == (0 : Int))
 else some true) : Option Bool).bind fun b10 =>
 some b10
 else some false) : Option Bool).bind fun b11 =>
 some b11
def tariffref07_bare.u (v : Val) : Option (Bool) := tariffref07_bare v
def tariffref07_bare.G : Ctx U := ⟨tyOf, bytesOf, fun f xs => none, fun f xs => none⟩
def tariffref07_bare.H : Hint U := ⟨[], fun i => none, fun i => none, fun i => none⟩
theorem tariffref07_bare.ev (v : Val) : evFn (tariffref07_bare.G) (tariffref07_bare.H) tariffref07_bare.S Tryz.f59 (encA tariffref07_bare.P v) = tariffref07_bare.u v := by kernel_rfl
theorem tariffref07_bare.fns : Fns Tryz.prog 59 Tryz.f59 tariffref07_bare.P := ⟨Tryz.func59, by kernel_rfl⟩
theorem tariffref07_bare.loops : LoopsOk (tariffref07_bare.G) (tariffref07_bare.H) (bodyOf Tryz.f59) 1 := loops_of (ps := []) (by kernel_rfl) trivial
theorem tariffref07_bare.call : FnC Tryz.prog U Lay 59 tariffref07_bare.P tariffref07_bare.S (tariffref07_bare.u) := fnC hLay ulaw gok (fun f xs => (CallC.none : CallC Tryz.prog U Lay _ f xs)) (fun f xs => (CallC2.none : CallC2 Tryz.prog U Lay _ f xs)) tariffref07_bare.fns (tariffref07_bare.loops) (tariffref07_bare.ev)
def tariffref07_form.l13 (rec_tariffref07_form : Val → Option (Bool)) (k : Nat) (v3 : Int) (b1 : Val) : Nat → Int → Option (Fl (Int × Val) (Bool))
 | 0, _ => none
 | n + 1, v4 =>
 if (decide (v4 < v3)) = true then
 (idx b1.names v4).bind fun e16 =>
 (idx b1.names v3).bind fun e17 =>
 if (e16.data.toList == e17.data.toList) = true then
 some (Fl.ret false)
 else
 tariffref07_form.l13 rec_tariffref07_form k v3 b1 n (IntKind.wrap .i64 (v4 + (1 : Int)))
 else
 some (Fl.go (v3, b1))
def tariffref07_form.l8 (rec_tariffref07_form : Val → Option (Bool)) (k : Nat) : Nat → Int → Val → Option (Fl (Val) (Bool))
 | 0, _, _ => none
 | n + 1, v3, b1 =>
 if (decide (v3 < (b1.names.length : Int))) = true then
 (idx b1.names v3).bind fun e14 =>
 (tariffref04_Name k e14).bind fun r15 =>
 if (!r15) = true then
 some (Fl.ret false)
 else
 (tariffref07_form.l13 rec_tariffref07_form k v3 b1 k (0 : Int)).bind fun o => (match o with
 | .go x18 =>
 tariffref07_form.l8 rec_tariffref07_form k n (IntKind.wrap .i64 (x18.1 + (1 : Int))) x18.2
 | .ret x19 =>
 some (Fl.ret x19))
 else
 some (Fl.go b1)
def tariffref07_form.l18 (rec_tariffref07_form : Val → Option (Bool)) (k : Nat) (b1 : Val) : Nat → Int → Option (Fl (Unit) (Bool))
 | 0, _ => none
 | n + 1, v5 =>
 if (decide (v5 < (b1.list.length : Int))) = true then
 (idx b1.list v5).bind fun e22 =>
 (rec_tariffref07_form e22).bind fun r23 =>
 if (!r23) = true then
 some (Fl.ret false)
 else
 tariffref07_form.l18 rec_tariffref07_form k b1 n (IntKind.wrap .i64 (v5 + (1 : Int)))
 else
 some (Fl.go ())
def tariffref07_form : Nat → Val → Option (Bool)
 | 0, _ => none
 | k + 1, a0 =>
 ((if (decide (a0.kind < (0 : Int))) = false then
 some (decide (a0.kind > (6 : Int)))
 else some true) : Option Bool).bind fun b1 =>
 ((if b1 = false then
 (tariffref07_bare a0).bind fun r2 =>
 some (!r2)
 else some true) : Option Bool).bind fun b3 =>
 if b3 = true then
 some false
 else
 ((if (a0.kind == (2 : Int)) = true then
 (tariffref02_Form k a0.num).bind fun r4 =>
 some (!r4)
 else some false) : Option Bool).bind fun b5 =>
 ((if b5 = false then
 ((if (a0.kind == (3 : Int)) = true then
 (tariffref04_Valid k a0.text).bind fun r6 =>
 ((if (!r6) = false then
 some (decide ((a0.text.size : Int) > (1000 : Int)))
 else some true) : Option Bool).bind fun b7 =>
 some b7
 else some false) : Option Bool).bind fun b8 =>
 some b8
 else some true) : Option Bool).bind fun b9 =>
 ((if b9 = false then
 ((if (a0.kind == (4 : Int)) = true then
 (tariffref03_Is a0.day).bind fun r10 =>
 some (!r10)
 else some false) : Option Bool).bind fun b11 =>
 some b11
 else some true) : Option Bool).bind fun b12 =>
 if b12 = true then
 some false
 else
 ((if (a0.kind == (6 : Int)) = true then
 some ((a0.names.length : Int) != (a0.list.length : Int))
 else some false) : Option Bool).bind fun b13 =>
 if b13 = true then
 some false
 else
 (tariffref07_form.l8 (tariffref07_form k) k k (0 : Int) a0).bind fun o => (match o with
 | .go x20 =>
 (tariffref07_form.l18 (tariffref07_form k) k x20 k (0 : Int)).bind fun o => (match o with
 | .go x24 =>
 some true
 | .ret x25 =>
 some x25)
 | .ret x21 =>
 some x21)
def tariffref07_form.u (k : Nat) (v : Val) : Option (Bool) := tariffref07_form k v
def tariffref07_form.G (k : Nat) : Ctx U := ⟨tyOf, bytesOf, fun f xs => if f == 59 then entry tariffref07_bare.P tariffref07_bare.S (tariffref07_bare.u) xs else if f == 60 then entry tariffref02_Form.P tariffref02_Form.S (tariffref02_Form.u k) xs else if f == 61 then entry tariffref04_Valid.P tariffref04_Valid.S (tariffref04_Valid.u k) xs else if f == 62 then entry tariffref03_Is.P tariffref03_Is.S (tariffref03_Is.u) xs else if f == 63 then entry tariffref04_Name.P tariffref04_Name.S (tariffref04_Name.u k) xs else if f == 36 then entry tariffref07_form.P tariffref07_form.S (tariffref07_form.u k) xs else none, fun f xs => none⟩
def tariffref07_form.l13.L (k : Nat) : ELoopR U := ⟨[.ptr 1 1 [] (.st 3), .slot 3 (.int .i64), .slot 4 (.int .i64), .box 1 (.st 3) []], 2, [.ptr 1 1 [] (.st 3), .slot 3 (.int .i64), .box 1 (.st 3) []], [.slot 2 .bool], fun (v : Int × Int × Val) => tariffref07_form.l13 (tariffref07_form k) k v.1 v.2.2 k v.2.1⟩
def tariffref07_form.l8.L (k : Nat) : ELoopR U := ⟨[.ptr 1 1 [] (.st 3), .slot 3 (.int .i64), .box 1 (.st 3) []], 0, [.ptr 1 1 [] (.st 3), .box 1 (.st 3) []], [.slot 2 .bool], fun (v : Int × Val) => tariffref07_form.l8 (tariffref07_form k) k k v.1 v.2⟩
def tariffref07_form.l18.L (k : Nat) : ELoopR U := ⟨[.ptr 1 1 [] (.st 3), .slot 5 (.int .i64), .box 1 (.st 3) []], 4, [], [.slot 2 .bool], fun (v : Int × Val) => tariffref07_form.l18 (tariffref07_form k) k v.2 k v.1⟩
def tariffref07_form.H (k : Nat) : Hint U := ⟨[], fun i => none, fun i => if i == 506 then some (tariffref07_form.l18.L k) else if i == 250 then some (tariffref07_form.l8.L k) else if i == 32038 then some (tariffref07_form.l13.L k) else none, fun i => none⟩
theorem tariffref07_form.l13.ok (k n : Nat) (v : Vars U (tariffref07_form.l13.L k).ks) : loopRT (tariffref07_form.G k) (tariffref07_form.H k) (pick [true, true, true, true, false, true, false, false, true, false, false, true, true, false, false] (bodyOf Tryz.f36)) 32038 (tariffref07_form.l13.L k) n v = (fun (v : Int × Int × Val) => tariffref07_form.l13 (tariffref07_form k) k v.1 v.2.2 n v.2.1) v :=
  loopRT_eq (tariffref07_form.G k) (tariffref07_form.H k) _ _ (tariffref07_form.l13.L k) (fun n (v : Int × Int × Val) => tariffref07_form.l13 (tariffref07_form k) k v.1 v.2.2 n v.2.1) (fun _ => rfl) (fun n v => by kernel_rfl) n v
theorem tariffref07_form.l8.ok (k n : Nat) (v : Vars U (tariffref07_form.l8.L k).ks) : loopRT (tariffref07_form.G k) (tariffref07_form.H k) (pick [true, true, true, true, false, true, false, false] (bodyOf Tryz.f36)) 250 (tariffref07_form.l8.L k) n v = (fun (v : Int × Val) => tariffref07_form.l8 (tariffref07_form k) k n v.1 v.2) v :=
  loopRT_eq (tariffref07_form.G k) (tariffref07_form.H k) _ _ (tariffref07_form.l8.L k) (fun n (v : Int × Val) => tariffref07_form.l8 (tariffref07_form k) k n v.1 v.2) (fun _ => rfl) (fun n v => by kernel_rfl) n v
theorem tariffref07_form.l18.ok (k n : Nat) (v : Vars U (tariffref07_form.l18.L k).ks) : loopRT (tariffref07_form.G k) (tariffref07_form.H k) (pick [true, true, true, true, true, false, true, false, false] (bodyOf Tryz.f36)) 506 (tariffref07_form.l18.L k) n v = (fun (v : Int × Val) => tariffref07_form.l18 (tariffref07_form k) k v.2 n v.1) v :=
  loopRT_eq (tariffref07_form.G k) (tariffref07_form.H k) _ _ (tariffref07_form.l18.L k) (fun n (v : Int × Val) => tariffref07_form.l18 (tariffref07_form k) k v.2 n v.1) (fun _ => rfl) (fun n v => by kernel_rfl) n v
theorem tariffref07_form.ev (k : Nat) (v : Val) : evFn (tariffref07_form.G k) (tariffref07_form.H k) tariffref07_form.S Tryz.f36 (encA tariffref07_form.P v) = tariffref07_form.u (k + 1) v := by kernel_rfl
theorem tariffref07_form.fns : Fns Tryz.prog 36 Tryz.f36 tariffref07_form.P := ⟨Tryz.func36, by kernel_rfl⟩
theorem tariffref07_form.loops (k : Nat) : LoopsOk (tariffref07_form.G k) (tariffref07_form.H k) (bodyOf Tryz.f36) 1 := loops_of (ps := [(250, pick [true, true, true, true, false, true, false, false] (bodyOf Tryz.f36)), (32038, pick [true, true, true, true, false, true, false, false, true, false, false, true, true, false, false] (bodyOf Tryz.f36)), (506, pick [true, true, true, true, true, false, true, false, false] (bodyOf Tryz.f36))]) (by kernel_rfl) ⟨loopR_ok rfl rfl fun v x hx => ⟨k, (tariffref07_form.l8.ok k k v).trans hx⟩, ⟨loopR_ok rfl rfl fun v x hx => ⟨k, (tariffref07_form.l13.ok k k v).trans hx⟩, ⟨loopR_ok rfl rfl fun v x hx => ⟨k, (tariffref07_form.l18.ok k k v).trans hx⟩, trivial⟩⟩⟩
theorem tariffref07_form.call : ∀ (k : Nat), FnC Tryz.prog U Lay 36 tariffref07_form.P tariffref07_form.S (tariffref07_form.u k)
  | 0 => fun _ _ h => nomatch (show none = some _ from h)
  | k + 1 => fnC hLay ulaw gok (fun f xs => (.ite (.entry (tariffref07_bare.call)) (.ite (.entry (tariffref02_Form.call k)) (.ite (.entry (tariffref04_Valid.call k)) (.ite (.entry (tariffref03_Is.call)) (.ite (.entry (tariffref04_Name.call k)) (.ite (.entry (tariffref07_form.call k)) (CallC.none)))))) : CallC Tryz.prog U Lay _ f xs)) (fun f xs => (CallC2.none : CallC2 Tryz.prog U Lay _ f xs)) tariffref07_form.fns (tariffref07_form.loops k) (tariffref07_form.ev k)
def tariffref07_Check (k : Nat) (a0 : Val) : Option (Int) :=
 (tariffref07_Count k a0 (1000 : Int)).bind fun r1 =>
 if (decide (r1 > (1000 : Int))) = true then
 some (6 : Int)
 else
 (tariffref07_depth k a0).bind fun r2 =>
 if (decide (r2 > (16 : Int))) = true then
 some (7 : Int)
 else
 (tariffref07_form k a0).bind fun r3 =>
 if (!r3) = true then
 some (2 : Int)
 else
 some (0 : Int)
def tariffref07_Check.u (k : Nat) (v : Val) : Option (Int) := tariffref07_Check k v
def tariffref07_Check.G (k : Nat) : Ctx U := ⟨tyOf, bytesOf, fun f xs => if f == 30 then entry tariffref07_Count.P tariffref07_Count.S (tariffref07_Count.u k) xs else if f == 35 then entry tariffref07_depth.P tariffref07_depth.S (tariffref07_depth.u k) xs else if f == 36 then entry tariffref07_form.P tariffref07_form.S (tariffref07_form.u k) xs else none, fun f xs => none⟩
def tariffref07_Check.H (k : Nat) : Hint U := ⟨[], fun i => none, fun i => none, fun i => none⟩
theorem tariffref07_Check.ev (k : Nat) (v : Val) : evFn (tariffref07_Check.G k) (tariffref07_Check.H k) tariffref07_Check.S Tryz.f20 (encA tariffref07_Check.P v) = tariffref07_Check.u k v := by kernel_rfl
theorem tariffref07_Check.fns : Fns Tryz.prog 20 Tryz.f20 tariffref07_Check.P := ⟨Tryz.func20, by kernel_rfl⟩
theorem tariffref07_Check.loops (k : Nat) : LoopsOk (tariffref07_Check.G k) (tariffref07_Check.H k) (bodyOf Tryz.f20) 1 := loops_of (ps := []) (by kernel_rfl) trivial
theorem tariffref07_Check.call (k : Nat) : FnC Tryz.prog U Lay 20 tariffref07_Check.P tariffref07_Check.S (tariffref07_Check.u k) := fnC hLay ulaw gok (fun f xs => (.ite (.entry (tariffref07_Count.call k)) (.ite (.entry (tariffref07_depth.call k)) (.ite (.entry (tariffref07_form.call k)) (CallC.none))) : CallC Tryz.prog U Lay _ f xs)) (fun f xs => (CallC2.none : CallC2 Tryz.prog U Lay _ f xs)) tariffref07_Check.fns (tariffref07_Check.loops k) (tariffref07_Check.ev k)
def tariffref10_Places (k : Nat) (a0 : List Node) : Option ((List (List Int))) :=
 (tariffref10_stack k a0 (IntKind.wrap .i64 ((a0.length : Int) - (1 : Int)))).bind fun r1 =>
 some r1.1
def tariffref10_Places.u (k : Nat) (v : (List Node)) : Option ((List (List Int))) := tariffref10_Places k v
def tariffref10_Places.G (k : Nat) : Ctx U := ⟨tyOf, bytesOf, fun f xs => if f == 37 then entry tariffref10_stack.P tariffref10_stack.S (tariffref10_stack.u k) xs else none, fun f xs => none⟩
def tariffref10_Places.H (k : Nat) : Hint U := ⟨[], fun i => none, fun i => none, fun i => none⟩
theorem tariffref10_Places.ev (k : Nat) (v : (List Node)) : evFn (tariffref10_Places.G k) (tariffref10_Places.H k) tariffref10_Places.S Tryz.f43 (encA tariffref10_Places.P v) = tariffref10_Places.u k v := by kernel_rfl
theorem tariffref10_Places.fns : Fns Tryz.prog 43 Tryz.f43 tariffref10_Places.P := ⟨Tryz.func43, by kernel_rfl⟩
theorem tariffref10_Places.loops (k : Nat) : LoopsOk (tariffref10_Places.G k) (tariffref10_Places.H k) (bodyOf Tryz.f43) 1 := loops_of (ps := []) (by kernel_rfl) trivial
theorem tariffref10_Places.call (k : Nat) : FnC Tryz.prog U Lay 43 tariffref10_Places.P tariffref10_Places.S (tariffref10_Places.u k) := fnC hLay ulaw gok (fun f xs => (.ite (.entry (tariffref10_stack.call k)) (CallC.none) : CallC Tryz.prog U Lay _ f xs)) (fun f xs => (CallC2.none : CallC2 Tryz.prog U Lay _ f xs)) tariffref10_Places.fns (tariffref10_Places.loops k) (tariffref10_Places.ev k)
def tariffref12_isTest (a0 : Int) : Option (Bool) :=
 ((if (decide (a0 ≥ (30 : Int))) = true then
 some (decide (a0 ≤ (35 : Int)))
 else some false) : Option Bool).bind fun b1 =>
 some b1
def tariffref12_isTest.u (v : Int) : Option (Bool) := tariffref12_isTest v
def tariffref12_isTest.G : Ctx U := ⟨tyOf, bytesOf, fun f xs => none, fun f xs => none⟩
def tariffref12_isTest.H : Hint U := ⟨[], fun i => none, fun i => none, fun i => none⟩
theorem tariffref12_isTest.ev (v : Int) : evFn (tariffref12_isTest.G) (tariffref12_isTest.H) tariffref12_isTest.S Tryz.f52 (encA tariffref12_isTest.P v) = tariffref12_isTest.u v := by kernel_rfl
theorem tariffref12_isTest.fns : Fns Tryz.prog 52 Tryz.f52 tariffref12_isTest.P := ⟨Tryz.func52, by kernel_rfl⟩
theorem tariffref12_isTest.loops : LoopsOk (tariffref12_isTest.G) (tariffref12_isTest.H) (bodyOf Tryz.f52) 1 := loops_of (ps := []) (by kernel_rfl) trivial
theorem tariffref12_isTest.call : FnC Tryz.prog U Lay 52 tariffref12_isTest.P tariffref12_isTest.S (tariffref12_isTest.u) := fnC hLay ulaw gok (fun f xs => (CallC.none : CallC Tryz.prog U Lay _ f xs)) (fun f xs => (CallC2.none : CallC2 Tryz.prog U Lay _ f xs)) tariffref12_isTest.fns (tariffref12_isTest.loops) (tariffref12_isTest.ev)
def tariffref07_Truth (a0 : Bool) : Option (Val) :=
 some (⟨(1 : Int), a0, (⟨false, (⟨(0 : Int), (0 : Int)⟩ : Wide), (0 : Int)⟩ : Dec), ByteArray.empty, (0 : Int), ([] : List Val), ([] : List ByteArray)⟩ : Val)
def tariffref07_Truth.u (v : Bool) : Option (Val) := tariffref07_Truth v
def tariffref07_Truth.G : Ctx U := ⟨tyOf, bytesOf, fun f xs => none, fun f xs => none⟩
def tariffref07_Truth.H : Hint U := ⟨[], fun i => none, fun i => none, fun i => none⟩
theorem tariffref07_Truth.ev (v : Bool) : evFn (tariffref07_Truth.G) (tariffref07_Truth.H) tariffref07_Truth.S Tryz.f65 (encA tariffref07_Truth.P v) = tariffref07_Truth.u v := by kernel_rfl
theorem tariffref07_Truth.fns : Fns Tryz.prog 65 Tryz.f65 tariffref07_Truth.P := ⟨Tryz.func65, by kernel_rfl⟩
theorem tariffref07_Truth.loops : LoopsOk (tariffref07_Truth.G) (tariffref07_Truth.H) (bodyOf Tryz.f65) 1 := loops_of (ps := []) (by kernel_rfl) trivial
theorem tariffref07_Truth.call : FnC Tryz.prog U Lay 65 tariffref07_Truth.P tariffref07_Truth.S (tariffref07_Truth.u) := fnC hLay ulaw gok (fun f xs => (CallC.none : CallC Tryz.prog U Lay _ f xs)) (fun f xs => (CallC2.none : CallC2 Tryz.prog U Lay _ f xs)) tariffref07_Truth.fns (tariffref07_Truth.loops) (tariffref07_Truth.ev)
def tariffref02_Flip (a0 : Dec) : Option (Dec) :=
 ((if (!a0.neg) = true then
 some (!((a0.coef.hi == (0 : Int)) && ((a0.coef.lo == (0 : Int)) && true)))
 else some false) : Option Bool).bind fun b1 =>
 some (⟨b1, a0.coef, a0.scale⟩ : Dec)
def tariffref02_Flip.u (v : Dec) : Option (Dec) := tariffref02_Flip v
def tariffref02_Flip.G : Ctx U := ⟨tyOf, bytesOf, fun f xs => none, fun f xs => none⟩
def tariffref02_Flip.H : Hint U := ⟨[], fun i => none, fun i => none, fun i => none⟩
theorem tariffref02_Flip.ev (v : Dec) : evFn (tariffref02_Flip.G) (tariffref02_Flip.H) tariffref02_Flip.S Tryz.f82 (encA tariffref02_Flip.P v) = tariffref02_Flip.u v := by kernel_rfl
theorem tariffref02_Flip.fns : Fns Tryz.prog 82 Tryz.f82 tariffref02_Flip.P := ⟨Tryz.func82, by kernel_rfl⟩
theorem tariffref02_Flip.loops : LoopsOk (tariffref02_Flip.G) (tariffref02_Flip.H) (bodyOf Tryz.f82) 1 := loops_of (ps := []) (by kernel_rfl) trivial
theorem tariffref02_Flip.call : FnC Tryz.prog U Lay 82 tariffref02_Flip.P tariffref02_Flip.S (tariffref02_Flip.u) := fnC hLay ulaw gok (fun f xs => (CallC.none : CallC Tryz.prog U Lay _ f xs)) (fun f xs => (CallC2.none : CallC2 Tryz.prog U Lay _ f xs)) tariffref02_Flip.fns (tariffref02_Flip.loops) (tariffref02_Flip.ev)
def tariffref12_literal (a0 : List Node) (a1 : List (List Int)) (a2 : Int) : Option (Val × Bool) :=
 (idx a0 a2).bind fun e1 =>
 ((if (e1.op == (2 : Int)) = true then
 some (a0, a1, a2, e1.op, true, (⟨(0 : Int), false, (⟨false, (⟨(0 : Int), (0 : Int)⟩ : Wide), (0 : Int)⟩ : Dec), ByteArray.empty, (0 : Int), ([] : List Val), ([] : List ByteArray)⟩ : Val), e1)
 else
 some (a0, a1, a2, e1.op, (e1.op == (3 : Int)), (⟨(0 : Int), false, (⟨false, (⟨(0 : Int), (0 : Int)⟩ : Wide), (0 : Int)⟩ : Dec), ByteArray.empty, (0 : Int), ([] : List Val), ([] : List ByteArray)⟩ : Val), e1)) : Option ((List Node) × (List (List Int)) × Int × Int × Bool × Val × Node)).bind fun j2 =>
 if j2.2.2.2.2.1 = true then
 (tariffref07_Truth (j2.2.2.2.2.2.2.op == (2 : Int))).bind fun r3 =>
 some (r3, true)
 else
 if (j2.2.2.2.1 == (4 : Int)) = true then
 some ((⟨(2 : Int), false, j2.2.2.2.2.2.2.num, ByteArray.empty, (0 : Int), ([] : List Val), ([] : List ByteArray)⟩ : Val), true)
 else
 if (j2.2.2.2.1 == (5 : Int)) = true then
 some ((⟨(3 : Int), false, (⟨false, (⟨(0 : Int), (0 : Int)⟩ : Wide), (0 : Int)⟩ : Dec), j2.2.2.2.2.2.2.text, (0 : Int), ([] : List Val), ([] : List ByteArray)⟩ : Val), true)
 else
 if (j2.2.2.2.1 == (6 : Int)) = true then
 some ((⟨(4 : Int), false, (⟨false, (⟨(0 : Int), (0 : Int)⟩ : Wide), (0 : Int)⟩ : Dec), ByteArray.empty, j2.2.2.2.2.2.2.day, ([] : List Val), ([] : List ByteArray)⟩ : Val), true)
 else
 if (j2.2.2.2.1 == (8 : Int)) = true then
 (idx j2.2.1 j2.2.2.1).bind fun e4 =>
 (idx e4 (0 : Int)).bind fun e5 =>
 (idx j2.1 e5).bind fun e6 =>
 if (e6.op == (4 : Int)) = true then
 (idx j2.1 e5).bind fun e7 =>
 (tariffref02_Flip e7.num).bind fun r8 =>
 some ((⟨(2 : Int), false, r8, ByteArray.empty, (0 : Int), ([] : List Val), ([] : List ByteArray)⟩ : Val), true)
 else
 some ((⟨(0 : Int), false, (⟨false, (⟨(0 : Int), (0 : Int)⟩ : Wide), (0 : Int)⟩ : Dec), ByteArray.empty, (0 : Int), ([] : List Val), ([] : List ByteArray)⟩ : Val), false)
 else
 some ((⟨(0 : Int), false, (⟨false, (⟨(0 : Int), (0 : Int)⟩ : Wide), (0 : Int)⟩ : Dec), ByteArray.empty, (0 : Int), ([] : List Val), ([] : List ByteArray)⟩ : Val), false)
def tariffref12_literal.u (v : (List Node) × (List (List Int)) × Int) : Option (Val × Bool) := tariffref12_literal v.1 v.2.1 v.2.2
def tariffref12_literal.G : Ctx U := ⟨tyOf, bytesOf, fun f xs => if f == 65 then entry tariffref07_Truth.P tariffref07_Truth.S (tariffref07_Truth.u) xs else if f == 82 then entry tariffref02_Flip.P tariffref02_Flip.S (tariffref02_Flip.u) xs else none, fun f xs => none⟩
def tariffref12_literal.H : Hint U := ⟨[], fun i => none, fun i => none, fun i => if i == 233 then some ⟨[.slot 0 (.sl (.st 0)), .slot 1 (.sl (.sl (.int .i64))), .slot 2 (.int .i64), .ptr 6 6 [] (.st 3), .ptr 8 8 [] (.st 0), .slot 15 (.int .i64), .slot 16 .bool, .box 6 (.st 3) [[5], [6]], .box 8 (.st 0) []], none⟩ else none⟩
theorem tariffref12_literal.ev (v : (List Node) × (List (List Int)) × Int) : evFn (tariffref12_literal.G) (tariffref12_literal.H) tariffref12_literal.S Tryz.f53 (encA tariffref12_literal.P v) = tariffref12_literal.u v := by kernel_rfl
theorem tariffref12_literal.fns : Fns Tryz.prog 53 Tryz.f53 tariffref12_literal.P := ⟨Tryz.func53, by kernel_rfl⟩
theorem tariffref12_literal.loops : LoopsOk (tariffref12_literal.G) (tariffref12_literal.H) (bodyOf Tryz.f53) 1 := loops_of (ps := []) (by kernel_rfl) trivial
theorem tariffref12_literal.call : FnC Tryz.prog U Lay 53 tariffref12_literal.P tariffref12_literal.S (tariffref12_literal.u) := fnC hLay ulaw gok (fun f xs => (.ite (.entry (tariffref07_Truth.call)) (.ite (.entry (tariffref02_Flip.call)) (CallC.none)) : CallC Tryz.prog U Lay _ f xs)) (fun f xs => (CallC2.none : CallC2 Tryz.prog U Lay _ f xs)) tariffref12_literal.fns (tariffref12_literal.loops) (tariffref12_literal.ev)
def tariffref12_ends.l7 (k : Nat) (v0 : List Node) (v4 : List (List Int)) (v6 : Int) : Nat → (List Val) → Int → Option (Fl ((List Node) × (List (List Int)) × (List Val) × Int) ((List Val) × Bool))
 | 0, _, _ => none
 | n + 1, w5, v7 =>
 (idx v0 v6).bind fun e2 =>
 (tariffref12_isTest e2.op).bind fun r3 =>
 ((if r3 = true then
 (idx v4 v6).bind fun e4 =>
 some (decide (v7 < (e4.length : Int)))
 else some false) : Option Bool).bind fun b5 =>
 if b5 = true then
 (idx v4 v6).bind fun e6 =>
 (idx e6 v7).bind fun e7 =>
 (tariffref12_literal v0 v4 e7).bind fun r8 =>
 if (!r8.2) = true then
 some (Fl.ret (([] : List Val), false))
 else
 if room ((w5.length + ([r8.1] : List Val).length) * 120) then
 tariffref12_ends.l7 k v0 v4 v6 n (w5 ++ ([r8.1] : List Val)) (IntKind.wrap .i64 (v7 + (1 : Int)))
 else none
 else
 some (Fl.go (v0, v4, w5, v6))
def tariffref12_ends.l4 (k : Nat) : Nat → (List Node) → (List (List Int)) → (List Val) → Int → Option (Fl ((List Val)) ((List Val) × Bool))
 | 0, _, _, _, _ => none
 | n + 1, v0, v4, w5, v6 =>
 if (decide (v6 < (v0.length : Int))) = true then
 (tariffref12_ends.l7 k v0 v4 v6 k w5 (0 : Int)).bind fun o => (match o with
 | .go x9 =>
 tariffref12_ends.l4 k n x9.1 x9.2.1 x9.2.2.1 (IntKind.wrap .i64 (x9.2.2.2 + (1 : Int)))
 | .ret x10 =>
 some (Fl.ret (x10.1, x10.2)))
 else
 some (Fl.go w5)
def tariffref12_ends (k : Nat) (a0 : List Node) : Option ((List Val) × Bool) :=
 (tariffref10_Places k a0).bind fun r1 =>
 (tariffref12_ends.l4 k k a0 r1 ([] : List Val) (0 : Int)).bind fun o => (match o with
 | .go x11 =>
 some (x11, true)
 | .ret x12 =>
 some (x12.1, x12.2))
def tariffref12_ends.u (k : Nat) (v : (List Node)) : Option ((List Val) × Bool) := tariffref12_ends k v
def tariffref12_ends.G (k : Nat) : Ctx U := ⟨tyOf, bytesOf, fun f xs => if f == 43 then entry tariffref10_Places.P tariffref10_Places.S (tariffref10_Places.u k) xs else if f == 52 then entry tariffref12_isTest.P tariffref12_isTest.S (tariffref12_isTest.u) xs else if f == 53 then entry tariffref12_literal.P tariffref12_literal.S (tariffref12_literal.u) xs else none, fun f xs => none⟩
def tariffref12_ends.l7.L (k : Nat) : ELoopR U := ⟨[.slot 0 (.sl (.st 0)), .slot 4 (.sl (.sl (.int .i64))), .row 5 (.st 3), .slot 6 (.int .i64), .slot 7 (.int .i64)], 2, [.slot 0 (.sl (.st 0)), .slot 4 (.sl (.sl (.int .i64))), .row 5 (.st 3), .slot 6 (.int .i64)], [.slot 2 (.sl (.st 3)), .slot 3 .bool], fun (v : (List Node) × (List (List Int)) × (List Val) × Int × Int) => tariffref12_ends.l7 k v.1 v.2.1 v.2.2.2.1 k v.2.2.1 v.2.2.2.2⟩
def tariffref12_ends.l4.L (k : Nat) : ELoopR U := ⟨[.slot 0 (.sl (.st 0)), .slot 4 (.sl (.sl (.int .i64))), .row 5 (.st 3), .slot 6 (.int .i64)], 0, [.row 5 (.st 3)], [.slot 2 (.sl (.st 3)), .slot 3 .bool], fun (v : (List Node) × (List (List Int)) × (List Val) × Int) => tariffref12_ends.l4 k k v.1 v.2.1 v.2.2.1 v.2.2.2⟩
def tariffref12_ends.H (k : Nat) : Hint U := ⟨[], fun i => none, fun i => if i == 122 then some (tariffref12_ends.l4.L k) else if i == 7826 then some (tariffref12_ends.l7.L k) else none, fun i => none⟩
theorem tariffref12_ends.l7.ok (k n : Nat) (v : Vars U (tariffref12_ends.l7.L k).ks) : loopRT (tariffref12_ends.G k) (tariffref12_ends.H k) (pick [true, true, true, false, true, false, false, true, false, false, true, false, false] (bodyOf Tryz.f32)) 7826 (tariffref12_ends.l7.L k) n v = (fun (v : (List Node) × (List (List Int)) × (List Val) × Int × Int) => tariffref12_ends.l7 k v.1 v.2.1 v.2.2.2.1 n v.2.2.1 v.2.2.2.2) v :=
  loopRT_eq (tariffref12_ends.G k) (tariffref12_ends.H k) _ _ (tariffref12_ends.l7.L k) (fun n (v : (List Node) × (List (List Int)) × (List Val) × Int × Int) => tariffref12_ends.l7 k v.1 v.2.1 v.2.2.2.1 n v.2.2.1 v.2.2.2.2) (fun _ => rfl) (fun n v => by kernel_rfl) n v
theorem tariffref12_ends.l4.ok (k n : Nat) (v : Vars U (tariffref12_ends.l4.L k).ks) : loopRT (tariffref12_ends.G k) (tariffref12_ends.H k) (pick [true, true, true, false, true, false, false] (bodyOf Tryz.f32)) 122 (tariffref12_ends.l4.L k) n v = (fun (v : (List Node) × (List (List Int)) × (List Val) × Int) => tariffref12_ends.l4 k n v.1 v.2.1 v.2.2.1 v.2.2.2) v :=
  loopRT_eq (tariffref12_ends.G k) (tariffref12_ends.H k) _ _ (tariffref12_ends.l4.L k) (fun n (v : (List Node) × (List (List Int)) × (List Val) × Int) => tariffref12_ends.l4 k n v.1 v.2.1 v.2.2.1 v.2.2.2) (fun _ => rfl) (fun n v => by kernel_rfl) n v
theorem tariffref12_ends.ev (k : Nat) (v : (List Node)) : evFn (tariffref12_ends.G k) (tariffref12_ends.H k) tariffref12_ends.S Tryz.f32 (encA tariffref12_ends.P v) = tariffref12_ends.u k v := by kernel_rfl
theorem tariffref12_ends.fns : Fns Tryz.prog 32 Tryz.f32 tariffref12_ends.P := ⟨Tryz.func32, by kernel_rfl⟩
theorem tariffref12_ends.loops (k : Nat) : LoopsOk (tariffref12_ends.G k) (tariffref12_ends.H k) (bodyOf Tryz.f32) 1 := loops_of (ps := [(122, pick [true, true, true, false, true, false, false] (bodyOf Tryz.f32)), (7826, pick [true, true, true, false, true, false, false, true, false, false, true, false, false] (bodyOf Tryz.f32))]) (by kernel_rfl) ⟨loopR_ok rfl rfl fun v x hx => ⟨k, (tariffref12_ends.l4.ok k k v).trans hx⟩, ⟨loopR_ok rfl rfl fun v x hx => ⟨k, (tariffref12_ends.l7.ok k k v).trans hx⟩, trivial⟩⟩
theorem tariffref12_ends.call (k : Nat) : FnC Tryz.prog U Lay 32 tariffref12_ends.P tariffref12_ends.S (tariffref12_ends.u k) := fnC hLay ulaw gok (fun f xs => (.ite (.entry (tariffref10_Places.call k)) (.ite (.entry (tariffref12_isTest.call)) (.ite (.entry (tariffref12_literal.call)) (CallC.none))) : CallC Tryz.prog U Lay _ f xs)) (fun f xs => (CallC2.none : CallC2 Tryz.prog U Lay _ f xs)) tariffref12_ends.fns (tariffref12_ends.loops k) (tariffref12_ends.ev k)
def tariffref12_Plain (k : Nat) (a0 : List Node) : Option (Bool) :=
 (tariffref12_ends k a0).bind fun r1 =>
 some r1.2
def tariffref12_Plain.u (k : Nat) (v : (List Node)) : Option (Bool) := tariffref12_Plain k v
def tariffref12_Plain.G (k : Nat) : Ctx U := ⟨tyOf, bytesOf, fun f xs => if f == 32 then entry tariffref12_ends.P tariffref12_ends.S (tariffref12_ends.u k) xs else none, fun f xs => none⟩
def tariffref12_Plain.H (k : Nat) : Hint U := ⟨[], fun i => none, fun i => none, fun i => none⟩
theorem tariffref12_Plain.ev (k : Nat) (v : (List Node)) : evFn (tariffref12_Plain.G k) (tariffref12_Plain.H k) tariffref12_Plain.S Tryz.f25 (encA tariffref12_Plain.P v) = tariffref12_Plain.u k v := by kernel_rfl
theorem tariffref12_Plain.fns : Fns Tryz.prog 25 Tryz.f25 tariffref12_Plain.P := ⟨Tryz.func25, by kernel_rfl⟩
theorem tariffref12_Plain.loops (k : Nat) : LoopsOk (tariffref12_Plain.G k) (tariffref12_Plain.H k) (bodyOf Tryz.f25) 1 := loops_of (ps := []) (by kernel_rfl) trivial
theorem tariffref12_Plain.call (k : Nat) : FnC Tryz.prog U Lay 25 tariffref12_Plain.P tariffref12_Plain.S (tariffref12_Plain.u k) := fnC hLay ulaw gok (fun f xs => (.ite (.entry (tariffref12_ends.call k)) (CallC.none) : CallC Tryz.prog U Lay _ f xs)) (fun f xs => (CallC2.none : CallC2 Tryz.prog U Lay _ f xs)) tariffref12_Plain.fns (tariffref12_Plain.loops k) (tariffref12_Plain.ev k)
def tariffref07_Not (a0 : Val) : Option (Val) :=
 if (a0.kind != (1 : Int)) = true then
 some (⟨(0 : Int), false, (⟨false, (⟨(0 : Int), (0 : Int)⟩ : Wide), (0 : Int)⟩ : Dec), ByteArray.empty, (0 : Int), ([] : List Val), ([] : List ByteArray)⟩ : Val)
 else
 (tariffref07_Truth (!a0.yes)).bind fun r1 =>
 some r1
def tariffref07_Not.u (v : Val) : Option (Val) := tariffref07_Not v
def tariffref07_Not.G : Ctx U := ⟨tyOf, bytesOf, fun f xs => if f == 65 then entry tariffref07_Truth.P tariffref07_Truth.S (tariffref07_Truth.u) xs else none, fun f xs => none⟩
def tariffref07_Not.H : Hint U := ⟨[], fun i => none, fun i => none, fun i => none⟩
theorem tariffref07_Not.ev (v : Val) : evFn (tariffref07_Not.G) (tariffref07_Not.H) tariffref07_Not.S Tryz.f66 (encA tariffref07_Not.P v) = tariffref07_Not.u v := by kernel_rfl
theorem tariffref07_Not.fns : Fns Tryz.prog 66 Tryz.f66 tariffref07_Not.P := ⟨Tryz.func66, by kernel_rfl⟩
theorem tariffref07_Not.loops : LoopsOk (tariffref07_Not.G) (tariffref07_Not.H) (bodyOf Tryz.f66) 1 := loops_of (ps := []) (by kernel_rfl) trivial
theorem tariffref07_Not.call : FnC Tryz.prog U Lay 66 tariffref07_Not.P tariffref07_Not.S (tariffref07_Not.u) := fnC hLay ulaw gok (fun f xs => (.ite (.entry (tariffref07_Truth.call)) (CallC.none) : CallC Tryz.prog U Lay _ f xs)) (fun f xs => (CallC2.none : CallC2 Tryz.prog U Lay _ f xs)) tariffref07_Not.fns (tariffref07_Not.loops) (tariffref07_Not.ev)
def tariffref07_all.l3 (k : Nat) (v0 : List Val) (b2 : Val) : Nat → Int → Val → Option (Fl (Val × Val) (Val))
 | 0, _, _ => none
 | n + 1, v4, b3 =>
 if (decide (v4 < (v0.length : Int))) = true then
 (idx v0 v4).bind fun e2 =>
 (tariffref07_Is e2 false).bind fun r3 =>
 if r3 = true then
 (tariffref07_Truth false).bind fun r4 =>
 some (Fl.ret r4)
 else
 (idx v0 v4).bind fun e5 =>
 (tariffref07_Is e5 true).bind fun r6 =>
 if (!r6) = true then
 tariffref07_all.l3 k v0 b2 n (IntKind.wrap .i64 (v4 + (1 : Int))) (⟨(0 : Int), false, (⟨false, (⟨(0 : Int), (0 : Int)⟩ : Wide), (0 : Int)⟩ : Dec), ByteArray.empty, (0 : Int), ([] : List Val), ([] : List ByteArray)⟩ : Val)
 else
 tariffref07_all.l3 k v0 b2 n (IntKind.wrap .i64 (v4 + (1 : Int))) b3
 else
 some (Fl.go (b2, b3))
def tariffref07_all (k : Nat) (a0 : List Val) : Option (Val) :=
 (tariffref07_Truth true).bind fun r1 =>
 (tariffref07_all.l3 k a0 (⟨(0 : Int), false, (⟨false, (⟨(0 : Int), (0 : Int)⟩ : Wide), (0 : Int)⟩ : Dec), ByteArray.empty, (0 : Int), ([] : List Val), ([] : List ByteArray)⟩ : Val) k (0 : Int) r1).bind fun o => (match o with
 | .go x7 =>
 some x7.2
 | .ret x8 =>
 some x8)
def tariffref07_all.u (k : Nat) (v : (List Val)) : Option (Val) := tariffref07_all k v
def tariffref07_all.G (k : Nat) : Ctx U := ⟨tyOf, bytesOf, fun f xs => if f == 65 then entry tariffref07_Truth.P tariffref07_Truth.S (tariffref07_Truth.u) xs else if f == 22 then entry tariffref07_Is.P tariffref07_Is.S (tariffref07_Is.u) xs else none, fun f xs => none⟩
def tariffref07_all.l3.L (k : Nat) : ELoopR U := ⟨[.slot 0 (.sl (.st 3)), .ptr 2 2 [] (.st 3), .ptr 3 3 [] (.st 3), .slot 4 (.int .i64), .box 2 (.st 3) [[5], [6]], .box 3 (.st 3) []], 0, [.ptr 2 2 [] (.st 3), .ptr 3 3 [] (.st 3), .box 2 (.st 3) [[5], [6]], .box 3 (.st 3) []], [.ptr 2 2 [] (.st 3), .box 2 (.st 3) []], fun (v : (List Val) × Int × Val × Val) => tariffref07_all.l3 k v.1 v.2.2.1 k v.2.1 v.2.2.2⟩
def tariffref07_all.H (k : Nat) : Hint U := ⟨[], fun i => none, fun i => if i == 58 then some (tariffref07_all.l3.L k) else none, fun i => none⟩
theorem tariffref07_all.l3.ok (k n : Nat) (v : Vars U (tariffref07_all.l3.L k).ks) : loopRT (tariffref07_all.G k) (tariffref07_all.H k) (pick [true, true, false, true, false, false] (bodyOf Tryz.f134)) 58 (tariffref07_all.l3.L k) n v = (fun (v : (List Val) × Int × Val × Val) => tariffref07_all.l3 k v.1 v.2.2.1 n v.2.1 v.2.2.2) v :=
  loopRT_eq (tariffref07_all.G k) (tariffref07_all.H k) _ _ (tariffref07_all.l3.L k) (fun n (v : (List Val) × Int × Val × Val) => tariffref07_all.l3 k v.1 v.2.2.1 n v.2.1 v.2.2.2) (fun _ => rfl) (fun n v => by kernel_rfl) n v
theorem tariffref07_all.ev (k : Nat) (v : (List Val)) : evFn (tariffref07_all.G k) (tariffref07_all.H k) tariffref07_all.S Tryz.f134 (encA tariffref07_all.P v) = tariffref07_all.u k v := by kernel_rfl
theorem tariffref07_all.fns : Fns Tryz.prog 134 Tryz.f134 tariffref07_all.P := ⟨Tryz.func134, by kernel_rfl⟩
theorem tariffref07_all.loops (k : Nat) : LoopsOk (tariffref07_all.G k) (tariffref07_all.H k) (bodyOf Tryz.f134) 1 := loops_of (ps := [(58, pick [true, true, false, true, false, false] (bodyOf Tryz.f134))]) (by kernel_rfl) ⟨loopR_ok rfl rfl fun v x hx => ⟨k, (tariffref07_all.l3.ok k k v).trans hx⟩, trivial⟩
theorem tariffref07_all.call (k : Nat) : FnC Tryz.prog U Lay 134 tariffref07_all.P tariffref07_all.S (tariffref07_all.u k) := fnC hLay ulaw gok (fun f xs => (.ite (.entry (tariffref07_Truth.call)) (.ite (.entry (tariffref07_Is.call)) (CallC.none)) : CallC Tryz.prog U Lay _ f xs)) (fun f xs => (CallC2.none : CallC2 Tryz.prog U Lay _ f xs)) tariffref07_all.fns (tariffref07_all.loops k) (tariffref07_all.ev k)
def tariffref07_And (k : Nat) (a0 : Val) (a1 : Val) : Option (Val) :=
 (tariffref07_all k ([a0, a1] : List Val)).bind fun r1 =>
 some r1
def tariffref07_And.u (k : Nat) (v : Val × Val) : Option (Val) := tariffref07_And k v.1 v.2
def tariffref07_And.G (k : Nat) : Ctx U := ⟨tyOf, bytesOf, fun f xs => if f == 134 then entry tariffref07_all.P tariffref07_all.S (tariffref07_all.u k) xs else none, fun f xs => none⟩
def tariffref07_And.H (k : Nat) : Hint U := ⟨[], fun i => none, fun i => none, fun i => none⟩
theorem tariffref07_And.ev (k : Nat) (v : Val × Val) : evFn (tariffref07_And.G k) (tariffref07_And.H k) tariffref07_And.S Tryz.f98 (encA tariffref07_And.P v) = tariffref07_And.u k v := by kernel_rfl
theorem tariffref07_And.fns : Fns Tryz.prog 98 Tryz.f98 tariffref07_And.P := ⟨Tryz.func98, by kernel_rfl⟩
theorem tariffref07_And.loops (k : Nat) : LoopsOk (tariffref07_And.G k) (tariffref07_And.H k) (bodyOf Tryz.f98) 1 := loops_of (ps := []) (by kernel_rfl) trivial
theorem tariffref07_And.call (k : Nat) : FnC Tryz.prog U Lay 98 tariffref07_And.P tariffref07_And.S (tariffref07_And.u k) := fnC hLay ulaw gok (fun f xs => (.ite (.entry (tariffref07_all.call k)) (CallC.none) : CallC Tryz.prog U Lay _ f xs)) (fun f xs => (CallC2.none : CallC2 Tryz.prog U Lay _ f xs)) tariffref07_And.fns (tariffref07_And.loops k) (tariffref07_And.ev k)
def tariffref07_Or (k : Nat) (a0 : Val) (a1 : Val) : Option (Val) :=
 (tariffref07_Not a0).bind fun r1 =>
 (tariffref07_Not a1).bind fun r2 =>
 (tariffref07_And k r1 r2).bind fun r3 =>
 (tariffref07_Not r3).bind fun r4 =>
 some r4
def tariffref07_Or.u (k : Nat) (v : Val × Val) : Option (Val) := tariffref07_Or k v.1 v.2
def tariffref07_Or.G (k : Nat) : Ctx U := ⟨tyOf, bytesOf, fun f xs => if f == 66 then entry tariffref07_Not.P tariffref07_Not.S (tariffref07_Not.u) xs else if f == 98 then entry tariffref07_And.P tariffref07_And.S (tariffref07_And.u k) xs else none, fun f xs => none⟩
def tariffref07_Or.H (k : Nat) : Hint U := ⟨[], fun i => none, fun i => none, fun i => none⟩
theorem tariffref07_Or.ev (k : Nat) (v : Val × Val) : evFn (tariffref07_Or.G k) (tariffref07_Or.H k) tariffref07_Or.S Tryz.f67 (encA tariffref07_Or.P v) = tariffref07_Or.u k v := by kernel_rfl
theorem tariffref07_Or.fns : Fns Tryz.prog 67 Tryz.f67 tariffref07_Or.P := ⟨Tryz.func67, by kernel_rfl⟩
theorem tariffref07_Or.loops (k : Nat) : LoopsOk (tariffref07_Or.G k) (tariffref07_Or.H k) (bodyOf Tryz.f67) 1 := loops_of (ps := []) (by kernel_rfl) trivial
theorem tariffref07_Or.call (k : Nat) : FnC Tryz.prog U Lay 67 tariffref07_Or.P tariffref07_Or.S (tariffref07_Or.u k) := fnC hLay ulaw gok (fun f xs => (.ite (.entry (tariffref07_Not.call)) (.ite (.entry (tariffref07_And.call k)) (CallC.none)) : CallC Tryz.prog U Lay _ f xs)) (fun f xs => (CallC2.none : CallC2 Tryz.prog U Lay _ f xs)) tariffref07_Or.fns (tariffref07_Or.loops k) (tariffref07_Or.ev k)
def tariffref07_Find.l2 (k : Nat) (v1 : ByteArray) (b2 : Val) : Nat → Int → Option (Fl (Unit) (Int))
 | 0, _ => none
 | n + 1, v5 =>
 if (decide (v5 < (b2.names.length : Int))) = true then
 (idx b2.names v5).bind fun e1 =>
 if (e1.data.toList == v1.data.toList) = true then
 some (Fl.ret v5)
 else
 tariffref07_Find.l2 k v1 b2 n (IntKind.wrap .i64 (v5 + (1 : Int)))
 else
 some (Fl.go ())
def tariffref07_Find (k : Nat) (a0 : Val) (a1 : ByteArray) : Option (Int) :=
 (tariffref07_Find.l2 k a1 a0 k (0 : Int)).bind fun o => (match o with
 | .go x2 =>
 some (-1 : Int)
 | .ret x3 =>
 some x3)
def tariffref07_Find.u (k : Nat) (v : Val × ByteArray) : Option (Int) := tariffref07_Find k v.1 v.2
def tariffref07_Find.G (k : Nat) : Ctx U := ⟨tyOf, bytesOf, fun f xs => none, fun f xs => none⟩
def tariffref07_Find.l2.L (k : Nat) : ELoopR U := ⟨[.slot 1 .str, .ptr 2 2 [] (.st 3), .slot 5 (.int .i64), .box 2 (.st 3) []], 0, [], [.slot 4 (.int .i64)], fun (v : ByteArray × Int × Val) => tariffref07_Find.l2 k v.1 v.2.2 k v.2.1⟩
def tariffref07_Find.H (k : Nat) : Hint U := ⟨[], fun i => none, fun i => if i == 26 then some (tariffref07_Find.l2.L k) else none, fun i => none⟩
theorem tariffref07_Find.l2.ok (k n : Nat) (v : Vars U (tariffref07_Find.l2.L k).ks) : loopRT (tariffref07_Find.G k) (tariffref07_Find.H k) (pick [true, false, true, false, false] (bodyOf Tryz.f135)) 26 (tariffref07_Find.l2.L k) n v = (fun (v : ByteArray × Int × Val) => tariffref07_Find.l2 k v.1 v.2.2 n v.2.1) v :=
  loopRT_eq (tariffref07_Find.G k) (tariffref07_Find.H k) _ _ (tariffref07_Find.l2.L k) (fun n (v : ByteArray × Int × Val) => tariffref07_Find.l2 k v.1 v.2.2 n v.2.1) (fun _ => rfl) (fun n v => by kernel_rfl) n v
theorem tariffref07_Find.ev (k : Nat) (v : Val × ByteArray) : evFn (tariffref07_Find.G k) (tariffref07_Find.H k) tariffref07_Find.S Tryz.f135 (encA tariffref07_Find.P v) = tariffref07_Find.u k v := by kernel_rfl
theorem tariffref07_Find.fns : Fns Tryz.prog 135 Tryz.f135 tariffref07_Find.P := ⟨Tryz.func135, by kernel_rfl⟩
theorem tariffref07_Find.loops (k : Nat) : LoopsOk (tariffref07_Find.G k) (tariffref07_Find.H k) (bodyOf Tryz.f135) 1 := loops_of (ps := [(26, pick [true, false, true, false, false] (bodyOf Tryz.f135))]) (by kernel_rfl) ⟨loopR_ok rfl rfl fun v x hx => ⟨k, (tariffref07_Find.l2.ok k k v).trans hx⟩, trivial⟩
theorem tariffref07_Find.call (k : Nat) : FnC Tryz.prog U Lay 135 tariffref07_Find.P tariffref07_Find.S (tariffref07_Find.u k) := fnC hLay ulaw gok (fun f xs => (CallC.none : CallC Tryz.prog U Lay _ f xs)) (fun f xs => (CallC2.none : CallC2 Tryz.prog U Lay _ f xs)) tariffref07_Find.fns (tariffref07_Find.loops k) (tariffref07_Find.ev k)
def tariffref07_Equal.l11 (rec_tariffref07_Equal : Val → Val → Option (Val)) (k : Nat) : Nat → (List Val) → Int → Val → Val → Val → Option (Fl ((List Val) × Val) (Val))
 | 0, _, _, _, _, _ => none
 | n + 1, w5, v6, b2, b3, b4 =>
 if (decide (v6 < (b2.list.length : Int))) = true then
 ((if (b2.kind == (6 : Int)) = true then
 (idx b2.names v6).bind fun e6 =>
 (tariffref07_Find k b3 e6).bind fun r7 =>
 if (decide (r7 < (0 : Int))) = true then
 (tariffref07_Truth false).bind fun r8 =>
 some (Fl.ret r8)
 else
 some (Fl.go (w5, v6, r7, b2, b3, b4))
 else
 some (Fl.go (w5, v6, v6, b2, b3, b4))) : Option (Fl ((List Val) × Int × Int × Val × Val × Val) (Val))).bind fun o => (match o with
 | .go j9 =>
 (idx j9.2.2.2.1.list j9.2.1).bind fun e11 =>
 (idx j9.2.2.2.2.1.list j9.2.2.1).bind fun e12 =>
 (rec_tariffref07_Equal e11 e12).bind fun r13 =>
 if room ((j9.1.length + ([r13] : List Val).length) * 120) then
 tariffref07_Equal.l11 rec_tariffref07_Equal k n (j9.1 ++ ([r13] : List Val)) (IntKind.wrap .i64 (j9.2.1 + (1 : Int))) j9.2.2.2.1 j9.2.2.2.2.1 j9.2.2.2.2.2
 else none
 | .ret j10 =>
 some (Fl.ret j10))
 else
 some (Fl.go (w5, b4))
def tariffref07_Equal : Nat → Val → Val → Option (Val)
 | 0, _, _ => none
 | k + 1, a0, a1 =>
 ((if (a0.kind == (0 : Int)) = false then
 some (a1.kind == (0 : Int))
 else some true) : Option Bool).bind fun b1 =>
 if b1 = true then
 (tariffref07_Truth (a0.kind == a1.kind)).bind fun r2 =>
 some r2
 else
 if (a0.kind != a1.kind) = true then
 some (⟨(0 : Int), false, (⟨false, (⟨(0 : Int), (0 : Int)⟩ : Wide), (0 : Int)⟩ : Dec), ByteArray.empty, (0 : Int), ([] : List Val), ([] : List ByteArray)⟩ : Val)
 else
 if (decide (a0.kind < (5 : Int))) = true then
 (tariffref07_Same k a0 a1).bind fun r3 =>
 (tariffref07_Truth r3).bind fun r4 =>
 some r4
 else
 if ((a0.list.length : Int) != (a1.list.length : Int)) = true then
 (tariffref07_Truth false).bind fun r5 =>
 some r5
 else
 (tariffref07_Equal.l11 (tariffref07_Equal k) k k ([] : List Val) (0 : Int) a0 a1 (⟨(0 : Int), false, (⟨false, (⟨(0 : Int), (0 : Int)⟩ : Wide), (0 : Int)⟩ : Dec), ByteArray.empty, (0 : Int), ([] : List Val), ([] : List ByteArray)⟩ : Val)).bind fun o => (match o with
 | .go x14 =>
 (tariffref07_all k x14.1).bind fun r16 =>
 some r16
 | .ret x15 =>
 some x15)
def tariffref07_Equal.u (k : Nat) (v : Val × Val) : Option (Val) := tariffref07_Equal k v.1 v.2
def tariffref07_Equal.G (k : Nat) : Ctx U := ⟨tyOf, bytesOf, fun f xs => if f == 65 then entry tariffref07_Truth.P tariffref07_Truth.S (tariffref07_Truth.u) xs else if f == 21 then entry tariffref07_Same.P tariffref07_Same.S (tariffref07_Same.u k) xs else if f == 135 then entry tariffref07_Find.P tariffref07_Find.S (tariffref07_Find.u k) xs else if f == 99 then entry tariffref07_Equal.P tariffref07_Equal.S (tariffref07_Equal.u k) xs else if f == 134 then entry tariffref07_all.P tariffref07_all.S (tariffref07_all.u k) xs else none, fun f xs => none⟩
def tariffref07_Equal.l11.L (k : Nat) : ELoopR U := ⟨[.ptr 2 2 [] (.st 3), .ptr 3 3 [] (.st 3), .ptr 4 4 [] (.st 3), .row 5 (.st 3), .slot 6 (.int .i64), .box 2 (.st 3) [], .box 3 (.st 3) [], .box 4 (.st 3) [[5], [6]]], 0, [.ptr 4 4 [] (.st 3), .row 5 (.st 3), .box 4 (.st 3) [[5], [6]]], [.ptr 4 4 [] (.st 3), .box 4 (.st 3) []], fun (v : (List Val) × Int × Val × Val × Val) => tariffref07_Equal.l11 (tariffref07_Equal k) k k v.1 v.2.1 v.2.2.1 v.2.2.2.1 v.2.2.2.2⟩
def tariffref07_Equal.H (k : Nat) : Hint U := ⟨[], fun i => none, fun i => if i == 1018 then some (tariffref07_Equal.l11.L k) else none, fun i => if i == 130341 then some ⟨[.ptr 2 2 [] (.st 3), .ptr 3 3 [] (.st 3), .ptr 4 4 [] (.st 3), .row 5 (.st 3), .slot 6 (.int .i64), .slot 7 (.int .i64), .box 2 (.st 3) [], .box 3 (.st 3) [], .box 4 (.st 3) [[5], [6]]], some [.ptr 4 4 [] (.st 3), .box 4 (.st 3) []]⟩ else none⟩
theorem tariffref07_Equal.l11.ok (k n : Nat) (v : Vars U (tariffref07_Equal.l11.L k).ks) : loopRT (tariffref07_Equal.G k) (tariffref07_Equal.H k) (pick [true, true, true, true, true, true, false, true, false, false] (bodyOf Tryz.f99)) 1018 (tariffref07_Equal.l11.L k) n v = (fun (v : (List Val) × Int × Val × Val × Val) => tariffref07_Equal.l11 (tariffref07_Equal k) k n v.1 v.2.1 v.2.2.1 v.2.2.2.1 v.2.2.2.2) v :=
  loopRT_eq (tariffref07_Equal.G k) (tariffref07_Equal.H k) _ _ (tariffref07_Equal.l11.L k) (fun n (v : (List Val) × Int × Val × Val × Val) => tariffref07_Equal.l11 (tariffref07_Equal k) k n v.1 v.2.1 v.2.2.1 v.2.2.2.1 v.2.2.2.2) (fun _ => rfl) (fun n v => by kernel_rfl) n v
theorem tariffref07_Equal.ev (k : Nat) (v : Val × Val) : evFn (tariffref07_Equal.G k) (tariffref07_Equal.H k) tariffref07_Equal.S Tryz.f99 (encA tariffref07_Equal.P v) = tariffref07_Equal.u (k + 1) v := by kernel_rfl
theorem tariffref07_Equal.fns : Fns Tryz.prog 99 Tryz.f99 tariffref07_Equal.P := ⟨Tryz.func99, by kernel_rfl⟩
theorem tariffref07_Equal.loops (k : Nat) : LoopsOk (tariffref07_Equal.G k) (tariffref07_Equal.H k) (bodyOf Tryz.f99) 1 := loops_of (ps := [(1018, pick [true, true, true, true, true, true, false, true, false, false] (bodyOf Tryz.f99))]) (by kernel_rfl) ⟨loopR_ok rfl rfl fun v x hx => ⟨k, (tariffref07_Equal.l11.ok k k v).trans hx⟩, trivial⟩
theorem tariffref07_Equal.call : ∀ (k : Nat), FnC Tryz.prog U Lay 99 tariffref07_Equal.P tariffref07_Equal.S (tariffref07_Equal.u k)
  | 0 => fun _ _ h => nomatch (show none = some _ from h)
  | k + 1 => fnC hLay ulaw gok (fun f xs => (.ite (.entry (tariffref07_Truth.call)) (.ite (.entry (tariffref07_Same.call k)) (.ite (.entry (tariffref07_Find.call k)) (.ite (.entry (tariffref07_Equal.call k)) (.ite (.entry (tariffref07_all.call k)) (CallC.none))))) : CallC Tryz.prog U Lay _ f xs)) (fun f xs => (CallC2.none : CallC2 Tryz.prog U Lay _ f xs)) tariffref07_Equal.fns (tariffref07_Equal.loops k) (tariffref07_Equal.ev k)
def tariffref01_Shift (a0 : List Int) (a1 : Int) : Option ((List Int)) :=
 if ((a0.length : Int) == (0 : Int)) = true then
 some ([] : List Int)
 else
 if 0 ≤ a1 ∧ a1 ≤ a1 ∧ room ((a1).toNat * 8) then
 if room (((List.replicate (a1).toNat (0 : Int)).length + a0.length) * 8) then
 some ((List.replicate (a1).toNat (0 : Int)) ++ a0)
 else none
 else none
def tariffref01_Shift.u (v : (List Int) × Int) : Option ((List Int)) := tariffref01_Shift v.1 v.2
def tariffref01_Shift.G : Ctx U := ⟨tyOf, bytesOf, fun f xs => none, fun f xs => none⟩
def tariffref01_Shift.H : Hint U := ⟨[], fun i => none, fun i => none, fun i => none⟩
theorem tariffref01_Shift.ev (v : (List Int) × Int) : evFn (tariffref01_Shift.G) (tariffref01_Shift.H) tariffref01_Shift.S Tryz.f178 (encA tariffref01_Shift.P v) = tariffref01_Shift.u v := by kernel_rfl
theorem tariffref01_Shift.fns : Fns Tryz.prog 178 Tryz.f178 tariffref01_Shift.P := ⟨Tryz.func178, by kernel_rfl⟩
theorem tariffref01_Shift.loops : LoopsOk (tariffref01_Shift.G) (tariffref01_Shift.H) (bodyOf Tryz.f178) 1 := loops_of (ps := []) (by kernel_rfl) trivial
theorem tariffref01_Shift.call : FnC Tryz.prog U Lay 178 tariffref01_Shift.P tariffref01_Shift.S (tariffref01_Shift.u) := fnC hLay ulaw gok (fun f xs => (CallC.none : CallC Tryz.prog U Lay _ f xs)) (fun f xs => (CallC2.none : CallC2 Tryz.prog U Lay _ f xs)) tariffref01_Shift.fns (tariffref01_Shift.loops) (tariffref01_Shift.ev)
def tariffref02_Units (k : Nat) (a0 : Dec) : Option (Bool × (List Int)) :=
 (tariffref01_Of k a0.coef).bind fun r1 =>
 (tariffref01_Shift r1 (IntKind.wrap .i64 ((18 : Int) - a0.scale))).bind fun r2 =>
 some (a0.neg, r2)
def tariffref02_Units.u (k : Nat) (v : Dec) : Option (Bool × (List Int)) := tariffref02_Units k v
def tariffref02_Units.G (k : Nat) : Ctx U := ⟨tyOf, bytesOf, fun f xs => if f == 93 then entry tariffref01_Of.P tariffref01_Of.S (tariffref01_Of.u k) xs else if f == 178 then entry tariffref01_Shift.P tariffref01_Shift.S (tariffref01_Shift.u) xs else none, fun f xs => none⟩
def tariffref02_Units.H (k : Nat) : Hint U := ⟨[], fun i => none, fun i => none, fun i => none⟩
theorem tariffref02_Units.ev (k : Nat) (v : Dec) : evFn (tariffref02_Units.G k) (tariffref02_Units.H k) tariffref02_Units.S Tryz.f159 (encA tariffref02_Units.P v) = tariffref02_Units.u k v := by kernel_rfl
theorem tariffref02_Units.fns : Fns Tryz.prog 159 Tryz.f159 tariffref02_Units.P := ⟨Tryz.func159, by kernel_rfl⟩
theorem tariffref02_Units.loops (k : Nat) : LoopsOk (tariffref02_Units.G k) (tariffref02_Units.H k) (bodyOf Tryz.f159) 1 := loops_of (ps := []) (by kernel_rfl) trivial
theorem tariffref02_Units.call (k : Nat) : FnC Tryz.prog U Lay 159 tariffref02_Units.P tariffref02_Units.S (tariffref02_Units.u k) := fnC hLay ulaw gok (fun f xs => (.ite (.entry (tariffref01_Of.call k)) (.ite (.entry (tariffref01_Shift.call)) (CallC.none)) : CallC Tryz.prog U Lay _ f xs)) (fun f xs => (CallC2.none : CallC2 Tryz.prog U Lay _ f xs)) tariffref02_Units.fns (tariffref02_Units.loops k) (tariffref02_Units.ev k)
def tariffref01_Cut.l2 (k : Nat) (v0 : List Int) : Nat → Int → Option ((List Int) × Int)
 | 0, _ => none
 | n + 1, v3 =>
 ((if (decide (v3 > (0 : Int))) = true then
 (idx v0 (IntKind.wrap .i64 (v3 - (1 : Int)))).bind fun e1 =>
 some (e1 == (0 : Int))
 else some false) : Option Bool).bind fun b2 =>
 if b2 = true then
 tariffref01_Cut.l2 k v0 n (IntKind.wrap .i64 (v3 - (1 : Int)))
 else
 some (v0, v3)
def tariffref01_Cut (k : Nat) (a0 : List Int) : Option ((List Int)) :=
 (tariffref01_Cut.l2 k a0 k (a0.length : Int)).bind fun x3 =>
 if 0 ≤ (0 : Int) ∧ (0 : Int) ≤ x3.2 ∧ x3.2 ≤ (x3.1.length : Int) then
 some (x3.1.take (x3.2).toNat)
 else none
def tariffref01_Cut.u (k : Nat) (v : (List Int)) : Option ((List Int)) := tariffref01_Cut k v
def tariffref01_Cut.G (k : Nat) : Ctx U := ⟨tyOf, bytesOf, fun f xs => none, fun f xs => none⟩
def tariffref01_Cut.l2.L (k : Nat) : ELoop U := ⟨[.slot 0 (.sl (.int .i64)), .slot 3 (.int .i64)], 0, [.slot 0 (.sl (.int .i64)), .slot 3 (.int .i64)], fun (v : (List Int) × Int) => tariffref01_Cut.l2 k v.1 k v.2⟩
def tariffref01_Cut.H (k : Nat) : Hint U := ⟨[], fun i => if i == 28 then some (tariffref01_Cut.l2.L k) else none, fun i => none, fun i => none⟩
theorem tariffref01_Cut.l2.ok (k n : Nat) (v : Vars U (tariffref01_Cut.l2.L k).ks) : loopT (tariffref01_Cut.G k) (tariffref01_Cut.H k) (pick [true, true, false, false, false] (bodyOf Tryz.f203)) 28 (tariffref01_Cut.l2.L k) n v = (fun (v : (List Int) × Int) => tariffref01_Cut.l2 k v.1 n v.2) v :=
  loopT_eq (tariffref01_Cut.G k) (tariffref01_Cut.H k) _ _ (tariffref01_Cut.l2.L k) (fun n (v : (List Int) × Int) => tariffref01_Cut.l2 k v.1 n v.2) (fun _ => rfl) (fun n v => by kernel_rfl) n v
theorem tariffref01_Cut.ev (k : Nat) (v : (List Int)) : evFn (tariffref01_Cut.G k) (tariffref01_Cut.H k) tariffref01_Cut.S Tryz.f203 (encA tariffref01_Cut.P v) = tariffref01_Cut.u k v := by kernel_rfl
theorem tariffref01_Cut.fns : Fns Tryz.prog 203 Tryz.f203 tariffref01_Cut.P := ⟨Tryz.func203, by kernel_rfl⟩
theorem tariffref01_Cut.loops (k : Nat) : LoopsOk (tariffref01_Cut.G k) (tariffref01_Cut.H k) (bodyOf Tryz.f203) 1 := loops_of (ps := [(28, pick [true, true, false, false, false] (bodyOf Tryz.f203))]) (by kernel_rfl) ⟨loopT_ok rfl fun v x hx => ⟨k, (tariffref01_Cut.l2.ok k k v).trans hx⟩, trivial⟩
theorem tariffref01_Cut.call (k : Nat) : FnC Tryz.prog U Lay 203 tariffref01_Cut.P tariffref01_Cut.S (tariffref01_Cut.u k) := fnC hLay ulaw gok (fun f xs => (CallC.none : CallC Tryz.prog U Lay _ f xs)) (fun f xs => (CallC2.none : CallC2 Tryz.prog U Lay _ f xs)) tariffref01_Cut.fns (tariffref01_Cut.loops k) (tariffref01_Cut.ev k)
def tariffref01_Plus.l4 (k : Nat) : Nat → (List Int) → (List Int) → (List Int) → Int → Int → Option ((List Int))
 | 0, _, _, _, _, _ => none
 | n + 1, v0, v1, w5, v6, v7 =>
 ((if (decide (v7 < (v0.length : Int))) = false then
 some (decide (v7 < (v1.length : Int)))
 else some true) : Option Bool).bind fun b1 =>
 ((if b1 = false then
 some (decide (v6 > (0 : Int)))
 else some true) : Option Bool).bind fun b2 =>
 if b2 = true then
 ((if (decide (v7 < (v0.length : Int))) = true then
 (idx v0 v7).bind fun e3 =>
 some (v0, v1, w5, v7, (IntKind.wrap .i64 (v6 + e3)))
 else
 some (v0, v1, w5, v7, v6)) : Option ((List Int) × (List Int) × (List Int) × Int × Int)).bind fun j4 =>
 ((if (decide (j4.2.2.2.1 < (j4.2.1.length : Int))) = true then
 (idx j4.2.1 j4.2.2.2.1).bind fun e5 =>
 some (j4.1, j4.2.1, j4.2.2.1, j4.2.2.2.1, (IntKind.wrap .i64 (j4.2.2.2.2 + e5)))
 else
 some (j4.1, j4.2.1, j4.2.2.1, j4.2.2.2.1, j4.2.2.2.2)) : Option ((List Int) × (List Int) × (List Int) × Int × Int)).bind fun j6 =>
 if ¬ (10 : Int) = 0 then
 if room ((j6.2.2.1.length + ([(Int.tmod j6.2.2.2.2 (10 : Int))] : List Int).length) * 8) then
 if ¬ (10 : Int) = 0 then
 tariffref01_Plus.l4 k n j6.1 j6.2.1 (j6.2.2.1 ++ ([(Int.tmod j6.2.2.2.2 (10 : Int))] : List Int)) (IntKind.wrap .i64 (Int.tdiv j6.2.2.2.2 (10 : Int))) (IntKind.wrap .i64 (j6.2.2.2.1 + (1 : Int)))
 else none
 else none
 else none
 else
 some w5
def tariffref01_Plus (k : Nat) (a0 : List Int) (a1 : List Int) : Option ((List Int)) :=
 (tariffref01_Plus.l4 k k a0 a1 ([] : List Int) (0 : Int) (0 : Int)).bind fun x7 =>
 (tariffref01_Cut k x7).bind fun r8 =>
 some r8
def tariffref01_Plus.u (k : Nat) (v : (List Int) × (List Int)) : Option ((List Int)) := tariffref01_Plus k v.1 v.2
def tariffref01_Plus.G (k : Nat) : Ctx U := ⟨tyOf, bytesOf, fun f xs => if f == 203 then entry tariffref01_Cut.P tariffref01_Cut.S (tariffref01_Cut.u k) xs else none, fun f xs => none⟩
def tariffref01_Plus.l4.L (k : Nat) : ELoop U := ⟨[.slot 0 (.sl (.int .i64)), .slot 1 (.sl (.int .i64)), .row 5 (.int .i64), .slot 6 (.int .i64), .slot 7 (.int .i64)], 0, [.row 5 (.int .i64)], fun (v : (List Int) × (List Int) × (List Int) × Int × Int) => tariffref01_Plus.l4 k k v.1 v.2.1 v.2.2.1 v.2.2.2.1 v.2.2.2.2⟩
def tariffref01_Plus.H (k : Nat) : Hint U := ⟨[], fun i => if i == 122 then some (tariffref01_Plus.l4.L k) else none, fun i => none, fun i => if i == 31309 then some ⟨[.slot 0 (.sl (.int .i64)), .slot 1 (.sl (.int .i64)), .row 5 (.int .i64), .slot 7 (.int .i64), .slot 8 (.int .i64)], none⟩ else if i == 15653 then some ⟨[.slot 0 (.sl (.int .i64)), .slot 1 (.sl (.int .i64)), .row 5 (.int .i64), .slot 7 (.int .i64), .slot 8 (.int .i64)], none⟩ else none⟩
theorem tariffref01_Plus.l4.ok (k n : Nat) (v : Vars U (tariffref01_Plus.l4.L k).ks) : loopT (tariffref01_Plus.G k) (tariffref01_Plus.H k) (pick [true, true, true, false, true, false, false] (bodyOf Tryz.f179)) 122 (tariffref01_Plus.l4.L k) n v = (fun (v : (List Int) × (List Int) × (List Int) × Int × Int) => tariffref01_Plus.l4 k n v.1 v.2.1 v.2.2.1 v.2.2.2.1 v.2.2.2.2) v :=
  loopT_eq (tariffref01_Plus.G k) (tariffref01_Plus.H k) _ _ (tariffref01_Plus.l4.L k) (fun n (v : (List Int) × (List Int) × (List Int) × Int × Int) => tariffref01_Plus.l4 k n v.1 v.2.1 v.2.2.1 v.2.2.2.1 v.2.2.2.2) (fun _ => rfl) (fun n v => by kernel_rfl) n v
theorem tariffref01_Plus.ev (k : Nat) (v : (List Int) × (List Int)) : evFn (tariffref01_Plus.G k) (tariffref01_Plus.H k) tariffref01_Plus.S Tryz.f179 (encA tariffref01_Plus.P v) = tariffref01_Plus.u k v := by kernel_rfl
theorem tariffref01_Plus.fns : Fns Tryz.prog 179 Tryz.f179 tariffref01_Plus.P := ⟨Tryz.func179, by kernel_rfl⟩
theorem tariffref01_Plus.loops (k : Nat) : LoopsOk (tariffref01_Plus.G k) (tariffref01_Plus.H k) (bodyOf Tryz.f179) 1 := loops_of (ps := [(122, pick [true, true, true, false, true, false, false] (bodyOf Tryz.f179))]) (by kernel_rfl) ⟨loopT_ok rfl fun v x hx => ⟨k, (tariffref01_Plus.l4.ok k k v).trans hx⟩, trivial⟩
theorem tariffref01_Plus.call (k : Nat) : FnC Tryz.prog U Lay 179 tariffref01_Plus.P tariffref01_Plus.S (tariffref01_Plus.u k) := fnC hLay ulaw gok (fun f xs => (.ite (.entry (tariffref01_Cut.call k)) (CallC.none) : CallC Tryz.prog U Lay _ f xs)) (fun f xs => (CallC2.none : CallC2 Tryz.prog U Lay _ f xs)) tariffref01_Plus.fns (tariffref01_Plus.loops k) (tariffref01_Plus.ev k)
def tariffref01_Cmp.l6 (k : Nat) (v0 : List Int) (v1 : List Int) : Nat → Int → Option (Fl (Unit) (Int))
 | 0, _ => none
 | n + 1, v5 =>
 if (decide (v5 ≥ (0 : Int))) = true then
 (idx v0 v5).bind fun e1 =>
 (idx v1 v5).bind fun e2 =>
 if (decide (e1 < e2)) = true then
 some (Fl.ret (-1 : Int))
 else
 (idx v0 v5).bind fun e3 =>
 (idx v1 v5).bind fun e4 =>
 if (decide (e3 > e4)) = true then
 some (Fl.ret (1 : Int))
 else
 tariffref01_Cmp.l6 k v0 v1 n (IntKind.wrap .i64 (v5 - (1 : Int)))
 else
 some (Fl.go ())
def tariffref01_Cmp (k : Nat) (a0 : List Int) (a1 : List Int) : Option (Int) :=
 if ((a0.length : Int) != (a1.length : Int)) = true then
 if (decide ((a0.length : Int) < (a1.length : Int))) = true then
 some (-1 : Int)
 else
 some (1 : Int)
 else
 (tariffref01_Cmp.l6 k a0 a1 k (IntKind.wrap .i64 ((a0.length : Int) - (1 : Int)))).bind fun o => (match o with
 | .go x5 =>
 some (0 : Int)
 | .ret x6 =>
 some x6)
def tariffref01_Cmp.u (k : Nat) (v : (List Int) × (List Int)) : Option (Int) := tariffref01_Cmp k v.1 v.2
def tariffref01_Cmp.G (k : Nat) : Ctx U := ⟨tyOf, bytesOf, fun f xs => none, fun f xs => none⟩
def tariffref01_Cmp.l6.L (k : Nat) : ELoopR U := ⟨[.slot 0 (.sl (.int .i64)), .slot 1 (.sl (.int .i64)), .slot 5 (.int .i64)], 0, [], [.slot 4 (.int .i64)], fun (v : (List Int) × (List Int) × Int) => tariffref01_Cmp.l6 k v.1 v.2.1 k v.2.2⟩
def tariffref01_Cmp.H (k : Nat) : Hint U := ⟨[], fun i => none, fun i => if i == 58 then some (tariffref01_Cmp.l6.L k) else none, fun i => none⟩
theorem tariffref01_Cmp.l6.ok (k n : Nat) (v : Vars U (tariffref01_Cmp.l6.L k).ks) : loopRT (tariffref01_Cmp.G k) (tariffref01_Cmp.H k) (pick [true, true, false, true, false, false] (bodyOf Tryz.f180)) 58 (tariffref01_Cmp.l6.L k) n v = (fun (v : (List Int) × (List Int) × Int) => tariffref01_Cmp.l6 k v.1 v.2.1 n v.2.2) v :=
  loopRT_eq (tariffref01_Cmp.G k) (tariffref01_Cmp.H k) _ _ (tariffref01_Cmp.l6.L k) (fun n (v : (List Int) × (List Int) × Int) => tariffref01_Cmp.l6 k v.1 v.2.1 n v.2.2) (fun _ => rfl) (fun n v => by kernel_rfl) n v
theorem tariffref01_Cmp.ev (k : Nat) (v : (List Int) × (List Int)) : evFn (tariffref01_Cmp.G k) (tariffref01_Cmp.H k) tariffref01_Cmp.S Tryz.f180 (encA tariffref01_Cmp.P v) = tariffref01_Cmp.u k v := by kernel_rfl
theorem tariffref01_Cmp.fns : Fns Tryz.prog 180 Tryz.f180 tariffref01_Cmp.P := ⟨Tryz.func180, by kernel_rfl⟩
theorem tariffref01_Cmp.loops (k : Nat) : LoopsOk (tariffref01_Cmp.G k) (tariffref01_Cmp.H k) (bodyOf Tryz.f180) 1 := loops_of (ps := [(58, pick [true, true, false, true, false, false] (bodyOf Tryz.f180))]) (by kernel_rfl) ⟨loopR_ok rfl rfl fun v x hx => ⟨k, (tariffref01_Cmp.l6.ok k k v).trans hx⟩, trivial⟩
theorem tariffref01_Cmp.call (k : Nat) : FnC Tryz.prog U Lay 180 tariffref01_Cmp.P tariffref01_Cmp.S (tariffref01_Cmp.u k) := fnC hLay ulaw gok (fun f xs => (CallC.none : CallC Tryz.prog U Lay _ f xs)) (fun f xs => (CallC2.none : CallC2 Tryz.prog U Lay _ f xs)) tariffref01_Cmp.fns (tariffref01_Cmp.loops k) (tariffref01_Cmp.ev k)
def tariffref01_Less.l3 (k : Nat) (v1 : List Int) : Nat → (List Int) → Int → Option ((List Int))
 | 0, _, _ => none
 | n + 1, w5, v6 =>
 if (decide (v6 < (v1.length : Int))) = true then
 if 0 ≤ v6 ∧ v6 < (w5.length : Int) then
 (idx w5 v6).bind fun e1 =>
 (idx v1 v6).bind fun e2 =>
 if 0 ≤ v6 ∧ v6 < (w5.length : Int) then
 (idx w5 v6).bind fun e3 =>
 tariffref01_Less.l3 k v1 n (w5.set (v6).toNat (IntKind.wrap .i64 (e1 - e2))) (IntKind.wrap .i64 (v6 + (1 : Int)))
 else none
 else none
 else
 some w5
def tariffref01_Less.l7 (k : Nat) : Nat → (List Int) → Int → Option ((List Int))
 | 0, _, _ => none
 | n + 1, w5, v7 =>
 if (decide ((IntKind.wrap .i64 (v7 + (1 : Int))) < (w5.length : Int))) = true then
 if 0 ≤ v7 ∧ v7 < (w5.length : Int) then
 (idx w5 v7).bind fun e5 =>
 if (decide (e5 < (0 : Int))) = true then
 if 0 ≤ v7 ∧ v7 < (w5.length : Int) then
 (idx w5 v7).bind fun e6 =>
 if 0 ≤ v7 ∧ v7 < (w5.length : Int) then
 (idx w5 v7).bind fun e7 =>
 if 0 ≤ (IntKind.wrap .i64 (v7 + (1 : Int))) ∧ (IntKind.wrap .i64 (v7 + (1 : Int))) < ((w5.set (v7).toNat (IntKind.wrap .i64 (e6 + (10 : Int)))).length : Int) then
 (idx (w5.set (v7).toNat (IntKind.wrap .i64 (e6 + (10 : Int)))) (IntKind.wrap .i64 (v7 + (1 : Int)))).bind fun e8 =>
 if 0 ≤ (IntKind.wrap .i64 (v7 + (1 : Int))) ∧ (IntKind.wrap .i64 (v7 + (1 : Int))) < ((w5.set (v7).toNat (IntKind.wrap .i64 (e6 + (10 : Int)))).length : Int) then
 (idx (w5.set (v7).toNat (IntKind.wrap .i64 (e6 + (10 : Int)))) (IntKind.wrap .i64 (v7 + (1 : Int)))).bind fun e9 =>
 tariffref01_Less.l7 k n ((w5.set (v7).toNat (IntKind.wrap .i64 (e6 + (10 : Int)))).set ((IntKind.wrap .i64 (v7 + (1 : Int)))).toNat (IntKind.wrap .i64 (e8 - (1 : Int)))) (IntKind.wrap .i64 (v7 + (1 : Int)))
 else none
 else none
 else none
 else none
 else
 tariffref01_Less.l7 k n w5 (IntKind.wrap .i64 (v7 + (1 : Int)))
 else none
 else
 some w5
def tariffref01_Less (k : Nat) (a0 : List Int) (a1 : List Int) : Option ((List Int)) :=
 if room ((([] : List Int).length + a0.length) * 8) then
 (tariffref01_Less.l3 k a1 k (([] : List Int) ++ a0) (0 : Int)).bind fun x4 =>
 (tariffref01_Less.l7 k k x4 (0 : Int)).bind fun x10 =>
 (tariffref01_Cut k x10).bind fun r11 =>
 some r11
 else none
def tariffref01_Less.u (k : Nat) (v : (List Int) × (List Int)) : Option ((List Int)) := tariffref01_Less k v.1 v.2
def tariffref01_Less.G (k : Nat) : Ctx U := ⟨tyOf, bytesOf, fun f xs => if f == 203 then entry tariffref01_Cut.P tariffref01_Cut.S (tariffref01_Cut.u k) xs else none, fun f xs => none⟩
def tariffref01_Less.l3.L (k : Nat) : ELoop U := ⟨[.slot 1 (.sl (.int .i64)), .row 5 (.int .i64), .slot 6 (.int .i64)], 0, [.row 5 (.int .i64)], fun (v : (List Int) × (List Int) × Int) => tariffref01_Less.l3 k v.1 k v.2.1 v.2.2⟩
def tariffref01_Less.l7.L (k : Nat) : ELoop U := ⟨[.row 5 (.int .i64), .slot 7 (.int .i64)], 2, [.row 5 (.int .i64)], fun (v : (List Int) × Int) => tariffref01_Less.l7 k k v.1 v.2⟩
def tariffref01_Less.H (k : Nat) : Hint U := ⟨[], fun i => if i == 122 then some (tariffref01_Less.l7.L k) else if i == 58 then some (tariffref01_Less.l3.L k) else none, fun i => none, fun i => none⟩
theorem tariffref01_Less.l3.ok (k n : Nat) (v : Vars U (tariffref01_Less.l3.L k).ks) : loopT (tariffref01_Less.G k) (tariffref01_Less.H k) (pick [true, true, false, true, false, false] (bodyOf Tryz.f181)) 58 (tariffref01_Less.l3.L k) n v = (fun (v : (List Int) × (List Int) × Int) => tariffref01_Less.l3 k v.1 n v.2.1 v.2.2) v :=
  loopT_eq (tariffref01_Less.G k) (tariffref01_Less.H k) _ _ (tariffref01_Less.l3.L k) (fun n (v : (List Int) × (List Int) × Int) => tariffref01_Less.l3 k v.1 n v.2.1 v.2.2) (fun _ => rfl) (fun n v => by kernel_rfl) n v
theorem tariffref01_Less.l7.ok (k n : Nat) (v : Vars U (tariffref01_Less.l7.L k).ks) : loopT (tariffref01_Less.G k) (tariffref01_Less.H k) (pick [true, true, true, false, true, false, false] (bodyOf Tryz.f181)) 122 (tariffref01_Less.l7.L k) n v = (fun (v : (List Int) × Int) => tariffref01_Less.l7 k n v.1 v.2) v :=
  loopT_eq (tariffref01_Less.G k) (tariffref01_Less.H k) _ _ (tariffref01_Less.l7.L k) (fun n (v : (List Int) × Int) => tariffref01_Less.l7 k n v.1 v.2) (fun _ => rfl) (fun n v => by kernel_rfl) n v
theorem tariffref01_Less.ev (k : Nat) (v : (List Int) × (List Int)) : evFn (tariffref01_Less.G k) (tariffref01_Less.H k) tariffref01_Less.S Tryz.f181 (encA tariffref01_Less.P v) = tariffref01_Less.u k v := by kernel_rfl
theorem tariffref01_Less.fns : Fns Tryz.prog 181 Tryz.f181 tariffref01_Less.P := ⟨Tryz.func181, by kernel_rfl⟩
theorem tariffref01_Less.loops (k : Nat) : LoopsOk (tariffref01_Less.G k) (tariffref01_Less.H k) (bodyOf Tryz.f181) 1 := loops_of (ps := [(58, pick [true, true, false, true, false, false] (bodyOf Tryz.f181)), (122, pick [true, true, true, false, true, false, false] (bodyOf Tryz.f181))]) (by kernel_rfl) ⟨loopT_ok rfl fun v x hx => ⟨k, (tariffref01_Less.l3.ok k k v).trans hx⟩, ⟨loopT_ok rfl fun v x hx => ⟨k, (tariffref01_Less.l7.ok k k v).trans hx⟩, trivial⟩⟩
theorem tariffref01_Less.call (k : Nat) : FnC Tryz.prog U Lay 181 tariffref01_Less.P tariffref01_Less.S (tariffref01_Less.u k) := fnC hLay ulaw gok (fun f xs => (.ite (.entry (tariffref01_Cut.call k)) (CallC.none) : CallC Tryz.prog U Lay _ f xs)) (fun f xs => (CallC2.none : CallC2 Tryz.prog U Lay _ f xs)) tariffref01_Less.fns (tariffref01_Less.loops k) (tariffref01_Less.ev k)
def tariffref02_sum (k : Nat) (a0 : Bool) (a1 : List Int) (a2 : Bool) (a3 : List Int) : Option (Bool × (List Int)) :=
 if (a0 == a2) = true then
 (tariffref01_Plus k a1 a3).bind fun r1 =>
 some (a0, r1)
 else
 (tariffref01_Cmp k a1 a3).bind fun r2 =>
 if (decide (r2 ≥ (0 : Int))) = true then
 (tariffref01_Less k a1 a3).bind fun r3 =>
 some (a0, r3)
 else
 (tariffref01_Less k a3 a1).bind fun r4 =>
 some (a2, r4)
def tariffref02_sum.u (k : Nat) (v : Bool × (List Int) × Bool × (List Int)) : Option (Bool × (List Int)) := tariffref02_sum k v.1 v.2.1 v.2.2.1 v.2.2.2
def tariffref02_sum.G (k : Nat) : Ctx U := ⟨tyOf, bytesOf, fun f xs => if f == 179 then entry tariffref01_Plus.P tariffref01_Plus.S (tariffref01_Plus.u k) xs else if f == 180 then entry tariffref01_Cmp.P tariffref01_Cmp.S (tariffref01_Cmp.u k) xs else if f == 181 then entry tariffref01_Less.P tariffref01_Less.S (tariffref01_Less.u k) xs else none, fun f xs => none⟩
def tariffref02_sum.H (k : Nat) : Hint U := ⟨[], fun i => none, fun i => none, fun i => none⟩
theorem tariffref02_sum.ev (k : Nat) (v : Bool × (List Int) × Bool × (List Int)) : evFn (tariffref02_sum.G k) (tariffref02_sum.H k) tariffref02_sum.S Tryz.f160 (encA tariffref02_sum.P v) = tariffref02_sum.u k v := by kernel_rfl
theorem tariffref02_sum.fns : Fns Tryz.prog 160 Tryz.f160 tariffref02_sum.P := ⟨Tryz.func160, by kernel_rfl⟩
theorem tariffref02_sum.loops (k : Nat) : LoopsOk (tariffref02_sum.G k) (tariffref02_sum.H k) (bodyOf Tryz.f160) 1 := loops_of (ps := []) (by kernel_rfl) trivial
theorem tariffref02_sum.call (k : Nat) : FnC Tryz.prog U Lay 160 tariffref02_sum.P tariffref02_sum.S (tariffref02_sum.u k) := fnC hLay ulaw gok (fun f xs => (.ite (.entry (tariffref01_Plus.call k)) (.ite (.entry (tariffref01_Cmp.call k)) (.ite (.entry (tariffref01_Less.call k)) (CallC.none))) : CallC Tryz.prog U Lay _ f xs)) (fun f xs => (CallC2.none : CallC2 Tryz.prog U Lay _ f xs)) tariffref02_sum.fns (tariffref02_sum.loops k) (tariffref02_sum.ev k)
def tariffref02_Order (k : Nat) (a0 : Dec) (a1 : Dec) : Option (Int) :=
 (tariffref02_Units k a0).bind fun r1 =>
 (tariffref02_Units k a1).bind fun r2 =>
 (tariffref02_sum k r1.1 r1.2 (!r2.1) r2.2).bind fun r3 =>
 if ((r3.2.length : Int) == (0 : Int)) = true then
 some (0 : Int)
 else
 if r3.1 = true then
 some (-1 : Int)
 else
 some (1 : Int)
def tariffref02_Order.u (k : Nat) (v : Dec × Dec) : Option (Int) := tariffref02_Order k v.1 v.2
def tariffref02_Order.G (k : Nat) : Ctx U := ⟨tyOf, bytesOf, fun f xs => if f == 159 then entry tariffref02_Units.P tariffref02_Units.S (tariffref02_Units.u k) xs else if f == 160 then entry tariffref02_sum.P tariffref02_sum.S (tariffref02_sum.u k) xs else none, fun f xs => none⟩
def tariffref02_Order.H (k : Nat) : Hint U := ⟨[], fun i => none, fun i => none, fun i => none⟩
theorem tariffref02_Order.ev (k : Nat) (v : Dec × Dec) : evFn (tariffref02_Order.G k) (tariffref02_Order.H k) tariffref02_Order.S Tryz.f136 (encA tariffref02_Order.P v) = tariffref02_Order.u k v := by kernel_rfl
theorem tariffref02_Order.fns : Fns Tryz.prog 136 Tryz.f136 tariffref02_Order.P := ⟨Tryz.func136, by kernel_rfl⟩
theorem tariffref02_Order.loops (k : Nat) : LoopsOk (tariffref02_Order.G k) (tariffref02_Order.H k) (bodyOf Tryz.f136) 1 := loops_of (ps := []) (by kernel_rfl) trivial
theorem tariffref02_Order.call (k : Nat) : FnC Tryz.prog U Lay 136 tariffref02_Order.P tariffref02_Order.S (tariffref02_Order.u k) := fnC hLay ulaw gok (fun f xs => (.ite (.entry (tariffref02_Units.call k)) (.ite (.entry (tariffref02_sum.call k)) (CallC.none)) : CallC Tryz.prog U Lay _ f xs)) (fun f xs => (CallC2.none : CallC2 Tryz.prog U Lay _ f xs)) tariffref02_Order.fns (tariffref02_Order.loops k) (tariffref02_Order.ev k)
def tariffref07_Less (k : Nat) (a0 : Val) (a1 : Val) : Option (Val) :=
 if (a0.kind != a1.kind) = true then
 some (⟨(0 : Int), false, (⟨false, (⟨(0 : Int), (0 : Int)⟩ : Wide), (0 : Int)⟩ : Dec), ByteArray.empty, (0 : Int), ([] : List Val), ([] : List ByteArray)⟩ : Val)
 else
 if (a0.kind == (2 : Int)) = true then
 (tariffref02_Order k a0.num a1.num).bind fun r1 =>
 (tariffref07_Truth (decide (r1 < (0 : Int)))).bind fun r2 =>
 some r2
 else
 if (a0.kind == (3 : Int)) = true then
 (tariffref07_Truth (lessB a0.text.data.toList a1.text.data.toList)).bind fun r3 =>
 some r3
 else
 if (a0.kind == (4 : Int)) = true then
 (tariffref07_Truth (decide (a0.day < a1.day))).bind fun r4 =>
 some r4
 else
 some (⟨(0 : Int), false, (⟨false, (⟨(0 : Int), (0 : Int)⟩ : Wide), (0 : Int)⟩ : Dec), ByteArray.empty, (0 : Int), ([] : List Val), ([] : List ByteArray)⟩ : Val)
def tariffref07_Less.u (k : Nat) (v : Val × Val) : Option (Val) := tariffref07_Less k v.1 v.2
def tariffref07_Less.G (k : Nat) : Ctx U := ⟨tyOf, bytesOf, fun f xs => if f == 136 then entry tariffref02_Order.P tariffref02_Order.S (tariffref02_Order.u k) xs else if f == 65 then entry tariffref07_Truth.P tariffref07_Truth.S (tariffref07_Truth.u) xs else none, fun f xs => none⟩
def tariffref07_Less.H (k : Nat) : Hint U := ⟨[], fun i => none, fun i => none, fun i => none⟩
theorem tariffref07_Less.ev (k : Nat) (v : Val × Val) : evFn (tariffref07_Less.G k) (tariffref07_Less.H k) tariffref07_Less.S Tryz.f100 (encA tariffref07_Less.P v) = tariffref07_Less.u k v := by kernel_rfl
theorem tariffref07_Less.fns : Fns Tryz.prog 100 Tryz.f100 tariffref07_Less.P := ⟨Tryz.func100, by kernel_rfl⟩
theorem tariffref07_Less.loops (k : Nat) : LoopsOk (tariffref07_Less.G k) (tariffref07_Less.H k) (bodyOf Tryz.f100) 1 := loops_of (ps := []) (by kernel_rfl) trivial
theorem tariffref07_Less.call (k : Nat) : FnC Tryz.prog U Lay 100 tariffref07_Less.P tariffref07_Less.S (tariffref07_Less.u k) := fnC hLay ulaw gok (fun f xs => (.ite (.entry (tariffref02_Order.call k)) (.ite (.entry (tariffref07_Truth.call)) (CallC.none)) : CallC Tryz.prog U Lay _ f xs)) (fun f xs => (CallC2.none : CallC2 Tryz.prog U Lay _ f xs)) tariffref07_Less.fns (tariffref07_Less.loops k) (tariffref07_Less.ev k)
def tariffref12_One (k : Nat) (a0 : Node) (a1 : Val) (a2 : List Val) : Option (Val) :=
 if (a0.op == (30 : Int)) = true then
 (idx a2 (0 : Int)).bind fun e1 =>
 (tariffref07_Equal k a1 e1).bind fun r2 =>
 some r2
 else
 if (a0.op == (31 : Int)) = true then
 (idx a2 (0 : Int)).bind fun e3 =>
 (tariffref07_Less k a1 e3).bind fun r4 =>
 some r4
 else
 if (a0.op == (32 : Int)) = true then
 (idx a2 (0 : Int)).bind fun e5 =>
 (tariffref07_Less k e5 a1).bind fun r6 =>
 (tariffref07_Not r6).bind fun r7 =>
 some r7
 else
 if (a0.op == (33 : Int)) = true then
 (idx a2 (0 : Int)).bind fun e8 =>
 (tariffref07_Less k e8 a1).bind fun r9 =>
 some r9
 else
 if (a0.op == (34 : Int)) = true then
 (idx a2 (0 : Int)).bind fun e10 =>
 (tariffref07_Less k a1 e10).bind fun r11 =>
 (tariffref07_Not r11).bind fun r12 =>
 some r12
 else
 (idx a2 (0 : Int)).bind fun e13 =>
 (tariffref07_Less k e13 a1).bind fun r14 =>
 (idx a2 (1 : Int)).bind fun e15 =>
 (tariffref07_Less k a1 e15).bind fun r16 =>
 (idx a0.text.data.toList (0 : Int)).bind fun e17 =>
 ((if ((e17.toNat : Int) == (91 : Int)) = true then
 (idx a2 (0 : Int)).bind fun e18 =>
 (tariffref07_Less k a1 e18).bind fun r19 =>
 (tariffref07_Not r19).bind fun r20 =>
 some (a2, a0, a1, (⟨(0 : Int), false, (⟨false, (⟨(0 : Int), (0 : Int)⟩ : Wide), (0 : Int)⟩ : Dec), ByteArray.empty, (0 : Int), ([] : List Val), ([] : List ByteArray)⟩ : Val), r20, r16)
 else
 some (a2, a0, a1, (⟨(0 : Int), false, (⟨false, (⟨(0 : Int), (0 : Int)⟩ : Wide), (0 : Int)⟩ : Dec), ByteArray.empty, (0 : Int), ([] : List Val), ([] : List ByteArray)⟩ : Val), r14, r16)) : Option ((List Val) × Node × Val × Val × Val × Val)).bind fun j21 =>
 (idx j21.2.1.text.data.toList (1 : Int)).bind fun e22 =>
 if ((e22.toNat : Int) == (93 : Int)) = true then
 (idx j21.1 (1 : Int)).bind fun e23 =>
 (tariffref07_Less k e23 j21.2.2.1).bind fun r24 =>
 (tariffref07_Not r24).bind fun r25 =>
 (tariffref07_And k j21.2.2.2.2.1 r25).bind fun r26 =>
 some r26
 else
 (tariffref07_And k j21.2.2.2.2.1 j21.2.2.2.2.2).bind fun r27 =>
 some r27
def tariffref12_One.u (k : Nat) (v : Node × Val × (List Val)) : Option (Val) := tariffref12_One k v.1 v.2.1 v.2.2
def tariffref12_One.G (k : Nat) : Ctx U := ⟨tyOf, bytesOf, fun f xs => if f == 99 then entry tariffref07_Equal.P tariffref07_Equal.S (tariffref07_Equal.u k) xs else if f == 100 then entry tariffref07_Less.P tariffref07_Less.S (tariffref07_Less.u k) xs else if f == 66 then entry tariffref07_Not.P tariffref07_Not.S (tariffref07_Not.u) xs else if f == 98 then entry tariffref07_And.P tariffref07_And.S (tariffref07_And.u k) xs else none, fun f xs => none⟩
def tariffref12_One.H (k : Nat) : Hint U := ⟨[], fun i => none, fun i => none, fun i => if i == 61 then some ⟨[.slot 2 (.sl (.st 3)), .ptr 3 3 [] (.st 0), .ptr 4 4 [] (.st 3), .ptr 6 6 [] (.st 3), .ptr 7 7 [] (.st 3), .ptr 8 8 [] (.st 3), .box 3 (.st 0) [], .box 4 (.st 3) [], .box 6 (.st 3) [[5], [6]], .box 7 (.st 3) [], .box 8 (.st 3) []], none⟩ else none⟩
theorem tariffref12_One.ev (k : Nat) (v : Node × Val × (List Val)) : evFn (tariffref12_One.G k) (tariffref12_One.H k) tariffref12_One.S Tryz.f68 (encA tariffref12_One.P v) = tariffref12_One.u k v := by kernel_rfl
theorem tariffref12_One.fns : Fns Tryz.prog 68 Tryz.f68 tariffref12_One.P := ⟨Tryz.func68, by kernel_rfl⟩
theorem tariffref12_One.loops (k : Nat) : LoopsOk (tariffref12_One.G k) (tariffref12_One.H k) (bodyOf Tryz.f68) 1 := loops_of (ps := []) (by kernel_rfl) trivial
theorem tariffref12_One.call (k : Nat) : FnC Tryz.prog U Lay 68 tariffref12_One.P tariffref12_One.S (tariffref12_One.u k) := fnC hLay ulaw gok (fun f xs => (.ite (.entry (tariffref07_Equal.call k)) (.ite (.entry (tariffref07_Less.call k)) (.ite (.entry (tariffref07_Not.call)) (.ite (.entry (tariffref07_And.call k)) (CallC.none)))) : CallC Tryz.prog U Lay _ f xs)) (fun f xs => (CallC2.none : CallC2 Tryz.prog U Lay _ f xs)) tariffref12_One.fns (tariffref12_One.loops k) (tariffref12_One.ev k)
def tariffref12_says.l10 (rec_tariffref12_says : (List Node) → (List (List Int)) → Int → Val → Option (Val)) (k : Nat) (v0 : List Node) (v1 : List (List Int)) (v2 : Int) (b7 : Val) (b8 : Val) : Nat → Int → Val → Option (Val × Val)
 | 0, _, _ => none
 | n + 1, v11, b10 =>
 (idx v1 v2).bind fun e8 =>
 if (decide (v11 < (e8.length : Int))) = true then
 (idx v1 v2).bind fun e9 =>
 (idx e9 v11).bind fun e10 =>
 (rec_tariffref12_says v0 v1 e10 b7).bind fun r11 =>
 (tariffref07_Or k b10 r11).bind fun r12 =>
 tariffref12_says.l10 rec_tariffref12_says k v0 v1 v2 b7 b8 n (IntKind.wrap .i64 (v11 + (1 : Int))) r12
 else
 some (b8, b10)
def tariffref12_says.l16 (rec_tariffref12_says : (List Node) → (List (List Int)) → Int → Val → Option (Val)) (k : Nat) (v0 : List Node) (v1 : List (List Int)) (v2 : Int) (b7 : Val) (b8 : Val) (b9 : Node) : Nat → (List Val) → Int → Option ((List Val) × Val × Val × Node)
 | 0, _, _ => none
 | n + 1, w12, v13 =>
 (idx v1 v2).bind fun e14 =>
 if (decide (v13 < (e14.length : Int))) = true then
 (idx v1 v2).bind fun e15 =>
 (idx e15 v13).bind fun e16 =>
 (tariffref12_literal v0 v1 e16).bind fun r17 =>
 if room ((w12.length + ([r17.1] : List Val).length) * 120) then
 tariffref12_says.l16 rec_tariffref12_says k v0 v1 v2 b7 b8 b9 n (w12 ++ ([r17.1] : List Val)) (IntKind.wrap .i64 (v13 + (1 : Int)))
 else none
 else
 some (w12, b7, b8, b9)
def tariffref12_says : Nat → (List Node) → (List (List Int)) → Int → Val → Option (Val)
 | 0, _, _, _, _ => none
 | k + 1, a0, a1, a2, a3 =>
 (idx a0 a2).bind fun e1 =>
 if (e1.op == (29 : Int)) = true then
 (tariffref07_Truth true).bind fun r2 =>
 some r2
 else
 if (e1.op == (37 : Int)) = true then
 (idx a1 a2).bind fun e3 =>
 (idx e3 (0 : Int)).bind fun e4 =>
 ((tariffref12_says k) a0 a1 e4 a3).bind fun r5 =>
 (tariffref07_Not r5).bind fun r6 =>
 some r6
 else
 if (e1.op == (36 : Int)) = true then
 (tariffref07_Truth false).bind fun r7 =>
 (tariffref12_says.l10 (tariffref12_says k) k a0 a1 a2 a3 (⟨(0 : Int), false, (⟨false, (⟨(0 : Int), (0 : Int)⟩ : Wide), (0 : Int)⟩ : Dec), ByteArray.empty, (0 : Int), ([] : List Val), ([] : List ByteArray)⟩ : Val) k (0 : Int) r7).bind fun x13 =>
 some x13.2
 else
 (tariffref12_says.l16 (tariffref12_says k) k a0 a1 a2 a3 (⟨(0 : Int), false, (⟨false, (⟨(0 : Int), (0 : Int)⟩ : Wide), (0 : Int)⟩ : Dec), ByteArray.empty, (0 : Int), ([] : List Val), ([] : List ByteArray)⟩ : Val) e1 k ([] : List Val) (0 : Int)).bind fun x18 =>
 (tariffref12_One k x18.2.2.2 x18.2.1 x18.1).bind fun r19 =>
 some r19
def tariffref12_says.u (k : Nat) (v : (List Node) × (List (List Int)) × Int × Val) : Option (Val) := tariffref12_says k v.1 v.2.1 v.2.2.1 v.2.2.2
def tariffref12_says.G (k : Nat) : Ctx U := ⟨tyOf, bytesOf, fun f xs => if f == 65 then entry tariffref07_Truth.P tariffref07_Truth.S (tariffref07_Truth.u) xs else if f == 42 then entry tariffref12_says.P tariffref12_says.S (tariffref12_says.u k) xs else if f == 66 then entry tariffref07_Not.P tariffref07_Not.S (tariffref07_Not.u) xs else if f == 67 then entry tariffref07_Or.P tariffref07_Or.S (tariffref07_Or.u k) xs else if f == 53 then entry tariffref12_literal.P tariffref12_literal.S (tariffref12_literal.u) xs else if f == 68 then entry tariffref12_One.P tariffref12_One.S (tariffref12_One.u k) xs else none, fun f xs => none⟩
def tariffref12_says.l10.L (k : Nat) : ELoop U := ⟨[.slot 0 (.sl (.st 0)), .slot 1 (.sl (.sl (.int .i64))), .slot 2 (.int .i64), .ptr 7 7 [] (.st 3), .ptr 8 8 [] (.st 3), .ptr 10 10 [] (.st 3), .slot 11 (.int .i64), .box 7 (.st 3) [], .box 8 (.st 3) [[5], [6]], .box 10 (.st 3) []], 1, [.ptr 8 8 [] (.st 3), .ptr 10 10 [] (.st 3), .box 8 (.st 3) [[5], [6]], .box 10 (.st 3) []], fun (v : (List Node) × (List (List Int)) × Int × Int × Val × Val × Val) => tariffref12_says.l10 (tariffref12_says k) k v.1 v.2.1 v.2.2.1 v.2.2.2.2.1 v.2.2.2.2.2.1 k v.2.2.2.1 v.2.2.2.2.2.2⟩
def tariffref12_says.l16.L (k : Nat) : ELoop U := ⟨[.slot 0 (.sl (.st 0)), .slot 1 (.sl (.sl (.int .i64))), .slot 2 (.int .i64), .ptr 7 7 [] (.st 3), .ptr 8 8 [] (.st 3), .ptr 9 9 [] (.st 0), .row 12 (.st 3), .slot 13 (.int .i64), .box 7 (.st 3) [], .box 8 (.st 3) [[5], [6]], .box 9 (.st 0) []], 3, [.ptr 7 7 [] (.st 3), .ptr 8 8 [] (.st 3), .ptr 9 9 [] (.st 0), .row 12 (.st 3), .box 7 (.st 3) [], .box 8 (.st 3) [[5], [6]], .box 9 (.st 0) []], fun (v : (List Node) × (List (List Int)) × Int × (List Val) × Int × Val × Val × Node) => tariffref12_says.l16 (tariffref12_says k) k v.1 v.2.1 v.2.2.1 v.2.2.2.2.2.1 v.2.2.2.2.2.2.1 v.2.2.2.2.2.2.2 k v.2.2.2.1 v.2.2.2.2.1⟩
def tariffref12_says.H (k : Nat) : Hint U := ⟨[], fun i => if i == 250 then some (tariffref12_says.l16.L k) else if i == 60394 then some (tariffref12_says.l10.L k) else none, fun i => none, fun i => none⟩
theorem tariffref12_says.l10.ok (k n : Nat) (v : Vars U (tariffref12_says.l10.L k).ks) : loopT (tariffref12_says.G k) (tariffref12_says.H k) (pick [true, true, false, true, false, true, true, true, true, true, false, true, false, true, false, false] (bodyOf Tryz.f42)) 60394 (tariffref12_says.l10.L k) n v = (fun (v : (List Node) × (List (List Int)) × Int × Int × Val × Val × Val) => tariffref12_says.l10 (tariffref12_says k) k v.1 v.2.1 v.2.2.1 v.2.2.2.2.1 v.2.2.2.2.2.1 n v.2.2.2.1 v.2.2.2.2.2.2) v :=
  loopT_eq (tariffref12_says.G k) (tariffref12_says.H k) _ _ (tariffref12_says.l10.L k) (fun n (v : (List Node) × (List (List Int)) × Int × Int × Val × Val × Val) => tariffref12_says.l10 (tariffref12_says k) k v.1 v.2.1 v.2.2.1 v.2.2.2.2.1 v.2.2.2.2.2.1 n v.2.2.2.1 v.2.2.2.2.2.2) (fun _ => rfl) (fun n v => by kernel_rfl) n v
theorem tariffref12_says.l16.ok (k n : Nat) (v : Vars U (tariffref12_says.l16.L k).ks) : loopT (tariffref12_says.G k) (tariffref12_says.H k) (pick [true, true, true, true, false, true, false, false] (bodyOf Tryz.f42)) 250 (tariffref12_says.l16.L k) n v = (fun (v : (List Node) × (List (List Int)) × Int × (List Val) × Int × Val × Val × Node) => tariffref12_says.l16 (tariffref12_says k) k v.1 v.2.1 v.2.2.1 v.2.2.2.2.2.1 v.2.2.2.2.2.2.1 v.2.2.2.2.2.2.2 n v.2.2.2.1 v.2.2.2.2.1) v :=
  loopT_eq (tariffref12_says.G k) (tariffref12_says.H k) _ _ (tariffref12_says.l16.L k) (fun n (v : (List Node) × (List (List Int)) × Int × (List Val) × Int × Val × Val × Node) => tariffref12_says.l16 (tariffref12_says k) k v.1 v.2.1 v.2.2.1 v.2.2.2.2.2.1 v.2.2.2.2.2.2.1 v.2.2.2.2.2.2.2 n v.2.2.2.1 v.2.2.2.2.1) (fun _ => rfl) (fun n v => by kernel_rfl) n v
theorem tariffref12_says.ev (k : Nat) (v : (List Node) × (List (List Int)) × Int × Val) : evFn (tariffref12_says.G k) (tariffref12_says.H k) tariffref12_says.S Tryz.f42 (encA tariffref12_says.P v) = tariffref12_says.u (k + 1) v := by kernel_rfl
theorem tariffref12_says.fns : Fns Tryz.prog 42 Tryz.f42 tariffref12_says.P := ⟨Tryz.func42, by kernel_rfl⟩
theorem tariffref12_says.loops (k : Nat) : LoopsOk (tariffref12_says.G k) (tariffref12_says.H k) (bodyOf Tryz.f42) 1 := loops_of (ps := [(60394, pick [true, true, false, true, false, true, true, true, true, true, false, true, false, true, false, false] (bodyOf Tryz.f42)), (250, pick [true, true, true, true, false, true, false, false] (bodyOf Tryz.f42))]) (by kernel_rfl) ⟨loopT_ok rfl fun v x hx => ⟨k, (tariffref12_says.l10.ok k k v).trans hx⟩, ⟨loopT_ok rfl fun v x hx => ⟨k, (tariffref12_says.l16.ok k k v).trans hx⟩, trivial⟩⟩
theorem tariffref12_says.call : ∀ (k : Nat), FnC Tryz.prog U Lay 42 tariffref12_says.P tariffref12_says.S (tariffref12_says.u k)
  | 0 => fun _ _ h => nomatch (show none = some _ from h)
  | k + 1 => fnC hLay ulaw gok (fun f xs => (.ite (.entry (tariffref07_Truth.call)) (.ite (.entry (tariffref12_says.call k)) (.ite (.entry (tariffref07_Not.call)) (.ite (.entry (tariffref07_Or.call k)) (.ite (.entry (tariffref12_literal.call)) (.ite (.entry (tariffref12_One.call k)) (CallC.none)))))) : CallC Tryz.prog U Lay _ f xs)) (fun f xs => (CallC2.none : CallC2 Tryz.prog U Lay _ f xs)) tariffref12_says.fns (tariffref12_says.loops k) (tariffref12_says.ev k)
def tariffref12_Match (k : Nat) (a0 : List Node) (a1 : Val) : Option (Val) :=
 (tariffref10_Places k a0).bind fun r1 =>
 (tariffref12_says k a0 r1 (IntKind.wrap .i64 ((a0.length : Int) - (1 : Int))) a1).bind fun r2 =>
 some r2
def tariffref12_Match.u (k : Nat) (v : (List Node) × Val) : Option (Val) := tariffref12_Match k v.1 v.2
def tariffref12_Match.G (k : Nat) : Ctx U := ⟨tyOf, bytesOf, fun f xs => if f == 43 then entry tariffref10_Places.P tariffref10_Places.S (tariffref10_Places.u k) xs else if f == 42 then entry tariffref12_says.P tariffref12_says.S (tariffref12_says.u k) xs else none, fun f xs => none⟩
def tariffref12_Match.H (k : Nat) : Hint U := ⟨[], fun i => none, fun i => none, fun i => none⟩
theorem tariffref12_Match.ev (k : Nat) (v : (List Node) × Val) : evFn (tariffref12_Match.G k) (tariffref12_Match.H k) tariffref12_Match.S Tryz.f26 (encA tariffref12_Match.P v) = tariffref12_Match.u k v := by kernel_rfl
theorem tariffref12_Match.fns : Fns Tryz.prog 26 Tryz.f26 tariffref12_Match.P := ⟨Tryz.func26, by kernel_rfl⟩
theorem tariffref12_Match.loops (k : Nat) : LoopsOk (tariffref12_Match.G k) (tariffref12_Match.H k) (bodyOf Tryz.f26) 1 := loops_of (ps := []) (by kernel_rfl) trivial
theorem tariffref12_Match.call (k : Nat) : FnC Tryz.prog U Lay 26 tariffref12_Match.P tariffref12_Match.S (tariffref12_Match.u k) := fnC hLay ulaw gok (fun f xs => (.ite (.entry (tariffref10_Places.call k)) (.ite (.entry (tariffref12_says.call k)) (CallC.none)) : CallC Tryz.prog U Lay _ f xs)) (fun f xs => (CallC2.none : CallC2 Tryz.prog U Lay _ f xs)) tariffref12_Match.fns (tariffref12_Match.loops k) (tariffref12_Match.ev k)
def tariffref12_DocMatch (k : Nat) (a0 : List Node) (a1 : Val) : Option (Val × Int) :=
 (tariffref10_Check k a0 true).bind fun r1 =>
 if (r1 != (0 : Int)) = true then
 some ((⟨(0 : Int), false, (⟨false, (⟨(0 : Int), (0 : Int)⟩ : Wide), (0 : Int)⟩ : Dec), ByteArray.empty, (0 : Int), ([] : List Val), ([] : List ByteArray)⟩ : Val), r1)
 else
 (tariffref07_Check k a1).bind fun r2 =>
 if (r2 != (0 : Int)) = true then
 some ((⟨(0 : Int), false, (⟨false, (⟨(0 : Int), (0 : Int)⟩ : Wide), (0 : Int)⟩ : Dec), ByteArray.empty, (0 : Int), ([] : List Val), ([] : List ByteArray)⟩ : Val), r2)
 else
 (tariffref12_Plain k a0).bind fun r3 =>
 if (!r3) = true then
 some ((⟨(0 : Int), false, (⟨false, (⟨(0 : Int), (0 : Int)⟩ : Wide), (0 : Int)⟩ : Dec), ByteArray.empty, (0 : Int), ([] : List Val), ([] : List ByteArray)⟩ : Val), (18 : Int))
 else
 (tariffref12_Match k a0 a1).bind fun r4 =>
 some (r4, (0 : Int))
def tariffref12_DocMatch.u (k : Nat) (v : (List Node) × Val) : Option (Val × Int) := tariffref12_DocMatch k v.1 v.2
def tariffref12_DocMatch.G (k : Nat) : Ctx U := ⟨tyOf, bytesOf, fun f xs => if f == 24 then entry tariffref10_Check.P tariffref10_Check.S (tariffref10_Check.u k) xs else if f == 20 then entry tariffref07_Check.P tariffref07_Check.S (tariffref07_Check.u k) xs else if f == 25 then entry tariffref12_Plain.P tariffref12_Plain.S (tariffref12_Plain.u k) xs else if f == 26 then entry tariffref12_Match.P tariffref12_Match.S (tariffref12_Match.u k) xs else none, fun f xs => none⟩
def tariffref12_DocMatch.H (k : Nat) : Hint U := ⟨[], fun i => none, fun i => none, fun i => none⟩
theorem tariffref12_DocMatch.ev (k : Nat) (v : (List Node) × Val) : evFn (tariffref12_DocMatch.G k) (tariffref12_DocMatch.H k) tariffref12_DocMatch.S Tryz.f8 (encA tariffref12_DocMatch.P v) = tariffref12_DocMatch.u k v := by kernel_rfl
theorem tariffref12_DocMatch.fns : Fns Tryz.prog 8 Tryz.f8 tariffref12_DocMatch.P := ⟨Tryz.func8, by kernel_rfl⟩
theorem tariffref12_DocMatch.loops (k : Nat) : LoopsOk (tariffref12_DocMatch.G k) (tariffref12_DocMatch.H k) (bodyOf Tryz.f8) 1 := loops_of (ps := []) (by kernel_rfl) trivial
theorem tariffref12_DocMatch.call (k : Nat) : FnC Tryz.prog U Lay 8 tariffref12_DocMatch.P tariffref12_DocMatch.S (tariffref12_DocMatch.u k) := fnC hLay ulaw gok (fun f xs => (.ite (.entry (tariffref10_Check.call k)) (.ite (.entry (tariffref07_Check.call k)) (.ite (.entry (tariffref12_Plain.call k)) (.ite (.entry (tariffref12_Match.call k)) (CallC.none)))) : CallC Tryz.prog U Lay _ f xs)) (fun f xs => (CallC2.none : CallC2 Tryz.prog U Lay _ f xs)) tariffref12_DocMatch.fns (tariffref12_DocMatch.loops k) (tariffref12_DocMatch.ev k)
def tarifflaw12_UnaryMatches (k : Nat) (a0 : List Node) (a1 : Val) : Option (Bool) :=
 (tarifflaw12_known k).bind fun r1 =>
 if (!r1) = true then
 some false
 else
 (tariffref12_DocMatch k a0 a1).bind fun r2 =>
 (unary_Match k a0 a1).bind fun r3 =>
 (tariffref12_SameAll k ([r2.1] : List Val) ([r3.1] : List Val)).bind fun r4 =>
 ((if r4 = true then
 some (r2.2 == r3.2)
 else some false) : Option Bool).bind fun b5 =>
 some b5
def tarifflaw12_UnaryMatches.u (k : Nat) (v : (List Node) × Val) : Option (Bool) := tarifflaw12_UnaryMatches k v.1 v.2
def tarifflaw12_UnaryMatches.G (k : Nat) : Ctx U := ⟨tyOf, bytesOf, fun f xs => if f == 7 then entry tarifflaw12_known.P tarifflaw12_known.S (tarifflaw12_known.u k) xs else if f == 8 then entry tariffref12_DocMatch.P tariffref12_DocMatch.S (tariffref12_DocMatch.u k) xs else if f == 9 then entry unary_Match.P unary_Match.S (unary_Match.u k) xs else if f == 10 then entry tariffref12_SameAll.P tariffref12_SameAll.S (tariffref12_SameAll.u k) xs else none, fun f xs => none⟩
def tarifflaw12_UnaryMatches.H (k : Nat) : Hint U := ⟨[], fun i => none, fun i => none, fun i => none⟩
theorem tarifflaw12_UnaryMatches.ev (k : Nat) (v : (List Node) × Val) : evFn (tarifflaw12_UnaryMatches.G k) (tarifflaw12_UnaryMatches.H k) tarifflaw12_UnaryMatches.S Tryz.f3 (encA tarifflaw12_UnaryMatches.P v) = tarifflaw12_UnaryMatches.u k v := by kernel_rfl
theorem tarifflaw12_UnaryMatches.fns : Fns Tryz.prog 3 Tryz.f3 tarifflaw12_UnaryMatches.P := ⟨Tryz.func3, by kernel_rfl⟩
theorem tarifflaw12_UnaryMatches.loops (k : Nat) : LoopsOk (tarifflaw12_UnaryMatches.G k) (tarifflaw12_UnaryMatches.H k) (bodyOf Tryz.f3) 1 := loops_of (ps := []) (by kernel_rfl) trivial
theorem tarifflaw12_UnaryMatches.call (k : Nat) : FnC Tryz.prog U Lay 3 tarifflaw12_UnaryMatches.P tarifflaw12_UnaryMatches.S (tarifflaw12_UnaryMatches.u k) := fnC hLay ulaw gok (fun f xs => (.ite (.entry (tarifflaw12_known.call k)) (.ite (.entry (tariffref12_DocMatch.call k)) (.ite (.entry (unary_Match.call k)) (.ite (.entry (tariffref12_SameAll.call k)) (CallC.none)))) : CallC Tryz.prog U Lay _ f xs)) (fun f xs => (CallC2.none : CallC2 Tryz.prog U Lay _ f xs)) tarifflaw12_UnaryMatches.fns (tarifflaw12_UnaryMatches.loops k) (tarifflaw12_UnaryMatches.ev k)
end Go.EvT
end
section
set_option maxRecDepth 100000
namespace Go.EvT
open Go.Ev Go
theorem p32 : (2 : Int) ^ min ((32 : Int)).toNat (IntKind.bits .u64) = 4294967296 := by decide
theorem wrapId {n : Int} (h0 : 0 ≤ n) (h1 : n < 18446744073709551616) : IntKind.u64.wrap n = n := by
  rw [IntKind.wrap_u64]
  omega
theorem bvNat {n : Int} (h0 : 0 ≤ n) (h1 : n < 18446744073709551616) : (BitVec.ofInt (IntKind.bits .u64) n).toNat = n.toNat := by
  obtain ⟨m, rfl⟩ := Int.eq_ofNat_of_zero_le h0
  have hm : m < 18446744073709551616 := by omega
  show (BitVec.ofInt 64 (m : Int)).toNat = m
  rw [BitVec.ofInt_natCast, BitVec.toNat_ofNat]
  exact Nat.mod_eq_of_lt hm
theorem and32 {n : Int} (h0 : 0 ≤ n) (h1 : n < 18446744073709551616) : ((BitVec.ofInt (IntKind.bits .u64) n &&& BitVec.ofInt (IntKind.bits .u64) (4294967295 : Int)).toNat : Int) = n % 4294967296 := by
  rw [BitVec.toNat_and, bvNat h0 h1, bvNat (by decide) (by decide)]
  obtain ⟨m, rfl⟩ := Int.eq_ofNat_of_zero_le h0
  have : m &&& 4294967295 = m % 4294967296 := Nat.and_two_pow_sub_one_eq_mod m 32
  show ((m &&& 4294967295 : Nat) : Int) = _
  rw [this]
  omega
theorem or60 {a b : Int} (h0 : 0 ≤ a) (h1 : a < 16) (h2 : 0 ≤ b) (h3 : b < 1152921504606846976) : ((BitVec.ofInt (IntKind.bits .u64) (a * 1152921504606846976) ||| BitVec.ofInt (IntKind.bits .u64) b).toNat : Int) = a * 1152921504606846976 + b := by
  rw [BitVec.toNat_or, bvNat (by omega) (by omega), bvNat h2 (by omega)]
  obtain ⟨x, rfl⟩ := Int.eq_ofNat_of_zero_le h0
  obtain ⟨y, rfl⟩ := Int.eq_ofNat_of_zero_le h2
  have e1 : ((x : Int) * 1152921504606846976).toNat = 2 ^ 60 * x := by omega
  have e2 : ((y : Int)).toNat = y := rfl
  rw [e1, e2, ← Nat.two_pow_add_eq_or_of_lt (by omega : y < 2 ^ 60)]
  omega
theorem wrap0 (n : Int) : 0 ≤ IntKind.u64.wrap n := by rw [IntKind.wrap_u64]; omega
theorem l17_once (K : Nat) (v2 v8 v9 v11 v13 v14 q r : Int) (n : Nat) (h : q < 4294967296) : bits_Div64.l17 K v2 v8 v9 0 v11 v13 v14 (n + 1) q r = some (v2, v8, v9, 0, v11, v13, v14, q) := by
  unfold bits_Div64.l17
  have e1 : decide (q ≥ (4294967296 : Int)) = false := by simpa using h
  have e2 : decide (IntKind.u64.wrap (q * 0) > IntKind.u64.wrap (IntKind.u64.wrap (4294967296 * r) + v13)) = false := by
    have := wrap0 (IntKind.u64.wrap (4294967296 * r) + v13)
    rw [Int.mul_zero, show IntKind.u64.wrap 0 = 0 by decide]
    simpa using this
  rw [e1, e2]
  rfl
theorem l24_once (K : Nat) (v2 v8 v9 v14 v15 v17 q r : Int) (n : Nat) (h : q < 4294967296) : bits_Div64.l24 K v2 v8 v9 0 v14 v15 v17 (n + 1) r q = some (v2, v8, v14, v15, v17, q) := by
  unfold bits_Div64.l24
  have e1 : decide (q ≥ (4294967296 : Int)) = false := by simpa using h
  have e2 : decide (IntKind.u64.wrap (q * 0) > IntKind.u64.wrap (IntKind.u64.wrap (4294967296 * r) + v14)) = false := by
    have := wrap0 (IntKind.u64.wrap (4294967296 * r) + v14)
    rw [Int.mul_zero, show IntKind.u64.wrap 0 = 0 by decide]
    simpa using this
  rw [e1, e2]
  rfl
theorem div64_10 (k : Nat) (hi lo : Int) (h0 : 0 ≤ hi) (h1 : hi < 10) (l0 : 0 ≤ lo) (l1 : lo < 18446744073709551616) :
    bits_Div64 (k + 1) hi lo 10 = some ((hi * 18446744073709551616 + lo) / 10, (hi * 18446744073709551616 + lo) % 10) := by
  unfold bits_Div64
  rw [if_neg (by decide : ¬ ((10 : Int) == 0) = true)]
  simp only [Option.bind_some]
  rw [if_neg (by simpa using h1 : ¬ decide ((10 : Int) ≤ hi) = true)]
  simp only [Option.bind_some]
  by_cases hz : hi = 0
  · subst hz
    rw [if_pos (by decide), if_pos (by decide), if_pos (by decide), Int.tdiv_eq_ediv_of_nonneg l0, Int.tmod_eq_emod_of_nonneg l0, wrapId (by omega) (by omega)]
    simp
  · rw [if_neg (by simpa using hz)]
    have e60 : bits_LeadingZeros64 10 = some 60 := by kernel_rfl
    have w60 : IntKind.u64.wrap 60 = 60 := by decide
    have w4 : IntKind.u64.wrap (64 - 60) = 4 := by decide
    have q60 : (2 : Int) ^ min ((60 : Int)).toNat (IntKind.bits .u64) = 1152921504606846976 := by decide
    have q4 : (2 : Int) ^ min ((4 : Int)).toNat (IntKind.bits .u64) = 16 := by decide
    have y1 : IntKind.u64.wrap (10 * 1152921504606846976) = 11529215046068469760 := by decide
    have yf : Int.fdiv 11529215046068469760 4294967296 = 2684354560 := by decide
    have ym : IntKind.u64.wrap ((BitVec.ofInt (IntKind.bits .u64) 11529215046068469760 &&& BitVec.ofInt (IntKind.bits .u64) (4294967295 : Int)).toNat : Int) = 0 := by decide
    simp only [e60, Option.bind_some, w60, w4, q60, q4, p32, y1, yf, ym]
    have hw : IntKind.u64.wrap (hi * 1152921504606846976) = hi * 1152921504606846976 := wrapId (by omega) (by omega)
    have hf : Int.fdiv lo 16 = lo / 16 := Int.fdiv_eq_ediv_of_nonneg _ (by decide)
    have hor := or60 (a := hi) (b := lo / 16) h0 (by omega) (by omega) (by omega)
    obtain ⟨u, hu⟩ : ∃ u, u = hi * 1152921504606846976 + lo / 16 := ⟨_, rfl⟩
    rw [← hu] at hor
    have hu0 : 0 ≤ u := by omega
    have hu1 : u < 11529215046068469760 := by omega
    have huw : IntKind.u64.wrap u = u := wrapId hu0 (by omega)
    obtain ⟨t, ht⟩ : ∃ t, t = lo % 16 := ⟨_, rfl⟩
    have hl : IntKind.u64.wrap (lo * 1152921504606846976) = t * 1152921504606846976 := by rw [IntKind.wrap_u64]; omega
    have hlf : Int.fdiv (t * 1152921504606846976) 4294967296 = t * 268435456 := by rw [Int.fdiv_eq_ediv_of_nonneg _ (by decide)]; omega
    have hla : ((BitVec.ofInt (IntKind.bits .u64) (t * 1152921504606846976) &&& BitVec.ofInt (IntKind.bits .u64) (4294967295 : Int)).toNat : Int) = 0 := by rw [and32 (by omega) (by omega)]; omega
    have hla' : IntKind.u64.wrap 0 = 0 := by decide
    have td1 : Int.tdiv u 2684354560 = u / 2684354560 := Int.tdiv_eq_ediv_of_nonneg hu0
    obtain ⟨q, hq⟩ : ∃ q, q = u / 2684354560 := ⟨_, rfl⟩
    have hqw : IntKind.u64.wrap q = q := wrapId (by omega) (by omega)
    have hqm : IntKind.u64.wrap (q * 2684354560) = q * 2684354560 := wrapId (by omega) (by omega)
    have hr : IntKind.u64.wrap (u - q * 2684354560) = u - q * 2684354560 := wrapId (by omega) (by omega)
    simp only [hw, hf, hor, huw, hl, hlf, hla, hla', td1, ← hq, hqw, hqm, hr]
    rw [if_pos (by decide), if_pos (by decide), if_pos (by decide), if_pos (by decide), if_pos (by decide), if_pos (by decide), if_pos (by decide), l17_once _ _ _ _ _ _ _ _ _ _ (by omega)]
    simp only [Option.bind_some]
    obtain ⟨s, hs⟩ : ∃ s, s = (u - q * 2684354560) * 4294967296 + t * 268435456 := ⟨_, rfl⟩
    have hs0 : 0 ≤ s := by omega
    have hs1 : s < 11529215046068469760 := by omega
    have e1 : IntKind.u64.wrap (IntKind.u64.wrap (IntKind.u64.wrap (u * 4294967296) + t * 268435456) - IntKind.u64.wrap (q * 11529215046068469760)) = s := by
      simp only [IntKind.wrap_u64]
      omega
    have td2 : Int.tdiv s 2684354560 = s / 2684354560 := Int.tdiv_eq_ediv_of_nonneg hs0
    obtain ⟨p, hp⟩ : ∃ p, p = s / 2684354560 := ⟨_, rfl⟩
    have hpw : IntKind.u64.wrap p = p := wrapId (by omega) (by omega)
    simp only [e1, td2, ← hp, hpw]
    rw [if_pos (by decide), l24_once _ _ _ _ _ _ _ _ _ _ (by omega)]
    simp only [Option.bind_some]
    rw [if_pos (by decide), q60]
    have e2 : IntKind.u64.wrap (IntKind.u64.wrap (q * 4294967296) + p) = (hi * 18446744073709551616 + lo) / 10 := by
      simp only [IntKind.wrap_u64]
      omega
    have e3 : IntKind.u64.wrap (IntKind.u64.wrap (IntKind.u64.wrap (s * 4294967296) + 0) - IntKind.u64.wrap (p * 11529215046068469760)) = (s - p * 2684354560) * 4294967296 := by
      simp only [IntKind.wrap_u64]
      omega
    rw [e2, e3, Int.fdiv_eq_ediv_of_nonneg _ (by decide)]
    have e4 : (s - p * 2684354560) * 4294967296 / 1152921504606846976 = (hi * 18446744073709551616 + lo) % 10 := by omega
    rw [e4]
end Go.EvT
end
section
set_option maxRecDepth 100000
namespace Go.EvT
open Go.Ev Go
def u64 (n : Int) : Prop := 0 ≤ n ∧ n < 18446744073709551616
def Wide.val (w : Wide) : Int := w.hi * 18446744073709551616 + w.lo
def Wide.Ok (w : Wide) : Prop := u64 w.hi ∧ u64 w.lo
theorem i64_small {n : Int} (h0 : -9223372036854775808 ≤ n) (h1 : n < 9223372036854775808) : IntKind.i64.wrap n = n := by
  rw [IntKind.wrap_i64]
  omega
theorem tenth_step (K : Nat) (b2 : List Int) (n : Nat) (left i e : Int) (l : List Int) (hi0 : 0 ≤ i) (hi1 : i < 4) (hl : 0 ≤ left) (hl1 : left < 10) (he : u64 e) (hx : idx l i = some e) :
    wide_tenth.l3 (K + 1) b2 (n + 1) left i l = wide_tenth.l3 (K + 1) b2 n ((left * 18446744073709551616 + e) % 10) (i - 1) (l.set i.toNat ((left * 18446744073709551616 + e) / 10)) := by
  conv => lhs; unfold wide_tenth.l3
  have h1 : decide (i ≥ (0 : Int)) = true := by simpa using hi0
  rw [h1, if_pos rfl, if_pos ⟨hi0, hi1⟩, hx]
  simp only [Option.bind_some]
  rw [div64_10 K left e hl hl1 he.1 he.2]
  simp only [Option.bind_some]
  rw [if_pos ⟨hi0, hi1⟩, i64_small (by omega) (by omega)]
theorem tenth_end (K : Nat) (b2 : List Int) (n : Nat) (left i : Int) (l : List Int) (hi : i < 0) : wide_tenth.l3 K b2 (n + 1) left i l = some (left, l, b2) := by
  conv => lhs; unfold wide_tenth.l3
  have h1 : decide (i ≥ (0 : Int)) = false := by simpa using hi
  rw [h1]
  rfl
theorem tenth2 (K : Nat) (lo hi : Int) (h0 : u64 lo) (h1 : u64 hi) : wide_tenth (K + 5) [lo, hi, 0, 0] = some ([((hi % 10) * 18446744073709551616 + lo) / 10, hi / 10, 0, 0], (hi * 18446744073709551616 + lo) % 10) := by
  unfold wide_tenth
  rw [tenth_step (K + 4) _ (K + 4) 0 3 0 _ (by decide) (by decide) (by decide) (by decide) ⟨by decide, by decide⟩ rfl]
  rw [tenth_step (K + 4) _ (K + 3) _ _ 0 _ (by decide) (by decide) (by decide) (by decide) ⟨by decide, by decide⟩ rfl]
  rw [tenth_step (K + 4) _ (K + 2) _ _ hi _ (by decide) (by decide) (by decide) (by decide) h1 rfl]
  rw [tenth_step (K + 4) _ (K + 1) _ _ lo _ (by decide) (by decide) (by omega) (by omega) h0 rfl]
  rw [tenth_end _ _ _ _ _ _ (by decide)]
  simp only [Option.bind_some, Option.some.injEq, Prod.mk.injEq]
  refine ⟨?_, by omega⟩
  show [_, _, _, _] = [_, _, _, _]
  simp only [List.cons.injEq, and_true]
  refine ⟨by omega, by omega, by decide, by decide⟩
theorem trim_loop (K : Nat) (b2 : Wide) : ∀ (m n : Nat) (lo hi v : Int), m ≤ n → u64 lo → u64 hi → 0 < hi * 18446744073709551616 + lo → hi * 18446744073709551616 + lo < 10 ^ m → 0 ≤ v → v + m < 1000000 →
    ∃ (j : Nat) (w : Wide), wide_Trim.l6 (K + 5) b2 n v [lo, hi, 0, 0] = some (.ret (v + j, w)) ∧ w.Ok ∧ w.val * 10 ^ j = hi * 18446744073709551616 + lo ∧ w.val % 10 ≠ 0
  | 0, _, lo, hi, v, _, h0, h1, hp, hn, _, _ => by
    rw [show ((10 : Int) ^ 0) = 1 from rfl] at hn
    omega
  | m + 1, 0, _, _, _, hmn, _, _, _, _, _, _ => by omega
  | m + 1, n + 1, lo, hi, v, hmn, h0, h1, hp, hn, hv, hvn => by
    unfold wide_Trim.l6
    rw [tenth2 K lo hi h0 h1]
    simp only [Option.bind_some]
    by_cases hr : (hi * 18446744073709551616 + lo) % 10 = 0
    · have e1 : ((hi * 18446744073709551616 + lo) % 10 != 0) = false := by simp [hr]
      rw [e1]
      simp only [Bool.false_eq_true, if_false]
      have a0 := h0.1
      have a1 := h0.2
      have b0 := h1.1
      have b1 := h1.2
      rw [i64_small (by omega) (by omega)]
      have hval : hi / 10 * 18446744073709551616 + (hi % 10 * 18446744073709551616 + lo) / 10 = (hi * 18446744073709551616 + lo) / 10 := by omega
      have hpow : (10 : Int) ^ (m + 1) = 10 ^ m * 10 := Int.pow_succ 10 m
      obtain ⟨j, w, g1, g2, g3, g4⟩ := trim_loop K b2 m n ((hi % 10 * 18446744073709551616 + lo) / 10) (hi / 10) (v + 1) (by omega) ⟨by omega, by omega⟩ ⟨by omega, by omega⟩ (by omega) (by rw [hval]; omega) (by omega) (by omega)
      refine ⟨j + 1, w, ?_, g2, ?_, g4⟩
      · rw [g1]
        simp only [Option.some.injEq, Fl.ret.injEq, Prod.mk.injEq, and_true]
        omega
      · rw [Int.pow_succ, ← Int.mul_assoc, g3, hval]
        omega
    · have e1 : ((hi * 18446744073709551616 + lo) % 10 != 0) = true := by simp [hr]
      rw [e1, if_pos rfl, if_pos (by decide), show idx [lo, hi, 0, 0] (1 : Int) = some hi from rfl]
      simp only [Option.bind_some]
      rw [if_pos (by decide), show idx [lo, hi, 0, 0] (0 : Int) = some lo from rfl]
      exact ⟨0, ⟨hi, lo⟩, by simp, ⟨h1, h0⟩, by simp [Wide.val], hr⟩
theorem trim_eq (k : Nat) (a : Wide) (ha : a.Ok) (hk : 45 ≤ k) (hp : 0 < a.val) : ∃ (j : Nat) (w : Wide), wide_Trim k a = some (w, (j : Int)) ∧ w.Ok ∧ w.val * 10 ^ j = a.val ∧ w.val % 10 ≠ 0 := by
  obtain ⟨K, rfl⟩ : ∃ K, k = K + 5 := ⟨k - 5, by omega⟩
  obtain ⟨⟨h0, h1⟩, h2, h3⟩ := ha
  unfold wide_Trim
  have hz : ((a.hi == (0 : Int)) && ((a.lo == (0 : Int)) && true)) = false := by
    rw [Bool.eq_false_iff]
    intro e
    simp at e
    unfold Wide.val at hp
    omega
  rw [hz]
  simp only [Bool.false_eq_true, if_false]
  have hlt : a.val < 10 ^ 39 := by
    unfold Wide.val
    rw [show ((10 : Int) ^ 39) = 1000000000000000000000000000000000000000 by decide]
    omega
  obtain ⟨j, w, g1, g2, g3, g4⟩ := trim_loop K ⟨0, 0⟩ 39 (K + 5) a.lo a.hi 0 (by omega) ⟨h2, h3⟩ ⟨h0, h1⟩ hp hlt (by decide) (by decide)
  refine ⟨j, w, ?_, g2, g3, g4⟩
  rw [g1]
  simp
theorem bound_eq (k : Nat) : dec_bound (k + 40) = some ⟨542101086242752, 4003012203950112768⟩ := by kernel_rfl
def Dec.form (d : Dec) : Bool := decide (d.coef.val < 10000000000000000000000000000000000) && decide (0 ≤ d.scale) && decide (d.scale ≤ 18) && (if d.coef.val = 0 then !d.neg && d.scale == 0 else d.scale == 0 || d.coef.val % 10 != 0)
theorem cmp_ge (a b : Wide) (ha : a.Ok) (hb : b.Ok) : ∃ r, wide_Cmp a b = some r ∧ (decide (r ≥ 0) = decide (b.val ≤ a.val)) := by
  obtain ⟨⟨a0, a1⟩, a2, a3⟩ := ha
  obtain ⟨⟨b0, b1⟩, b2, b3⟩ := hb
  unfold wide_Cmp Wide.val
  by_cases e1 : a.hi = b.hi
  · by_cases e2 : a.lo = b.lo
    · simp [e1, e2]
    · by_cases e3 : a.lo < b.lo
      · simp [e1, e2, e3]
      · simp [e1, e2, e3]; omega
  · by_cases e3 : a.hi < b.hi
    · simp [e1, e3]; omega
    · simp [e1, e3]; omega
theorem form_eq (k : Nat) (hk : 45 ≤ k) (d : Dec) (hd : d.coef.Ok) : dec_Form k d = some d.form := by
  obtain ⟨K, rfl⟩ : ∃ K, k = K + 40 := ⟨k - 40, by omega⟩
  obtain ⟨r, hr, hc⟩ := cmp_ge d.coef ⟨542101086242752, 4003012203950112768⟩ hd ⟨⟨by decide, by decide⟩, by decide, by decide⟩
  have hv : Wide.val ⟨542101086242752, 4003012203950112768⟩ = 10000000000000000000000000000000000 := by decide
  rw [hv] at hc
  obtain ⟨⟨h0, h1⟩, h2, h3⟩ := hd
  have hval0 : 0 ≤ d.coef.val := by unfold Wide.val; omega
  unfold dec_Form
  rw [bound_eq]
  simp only [Option.bind_some, hr, hc]
  unfold Dec.form
  by_cases c1 : 10000000000000000000000000000000000 ≤ d.coef.val
  · have : ¬ d.coef.val < 10000000000000000000000000000000000 := by omega
    simp [c1, this]
  · have c1' : d.coef.val < 10000000000000000000000000000000000 := by omega
    by_cases c2 : d.scale < 0
    · have : ¬ 0 ≤ d.scale := by omega
      simp [c1, c1', c2, this]
    · have c2' : 0 ≤ d.scale := by omega
      by_cases c3 : d.scale > 18
      · have : ¬ d.scale ≤ 18 := by omega
        simp [c1, c1', c2, c2', c3, this]
      · have c3' : d.scale ≤ 18 := by omega
        have hz : dec_zero d = some (decide (d.coef.val = 0)) := by
          unfold dec_zero Wide.val
          simp only [Option.some.injEq]
          rw [Bool.eq_iff_iff]
          simp
          omega
        rw [hz]
        by_cases c4 : d.coef.val = 0
        · cases hn : d.neg <;> simp [c1, c1', c2, c2', c3, c3', c4, hn]
        · obtain ⟨j, w, t1, t2, t3, t4⟩ := trim_eq (K + 40) d.coef ⟨⟨h0, h1⟩, h2, h3⟩ hk (by omega)
          rw [t1]
          have hj : ((j : Int) == 0) = (d.coef.val % 10 != 0) := by
            cases j with
            | zero =>
              rw [Int.pow_zero, Int.mul_one] at t3
              rw [← t3]
              simp [t4]
            | succ j =>
              have : d.coef.val % 10 = 0 := by
                rw [← t3, Int.pow_succ, ← Int.mul_assoc]
                omega
              simp [this]
              omega
          simp only [Option.bind_some]
          rw [hj]
          by_cases c5 : d.scale = 0
          · simp [c1, c1', c2, c2', c3, c3', c4, c5]
          · simp [c1, c1', c2, c2', c3, c3', c4, c5]
end Go.EvT
end
section
set_option maxRecDepth 100000
namespace Go.EvT
open Go.Ev Go
def dval : List Int → Int
  | [] => 0
  | x :: r => x + 10 * dval r
def AllD (l : List Int) : Prop := ∀ x ∈ l, 0 ≤ x ∧ x ≤ 9
def Nz : List Int → Prop
  | [] => True
  | x :: r => 0 < dval (x :: r) ∧ Nz r
def tw : List Int → Int → List Int
  | [], b => if b > 0 then [b] else []
  | x :: r, b => (2 * x + b) % 10 :: tw r ((2 * x + b) / 10)
theorem AllD.head {x : Int} {r : List Int} (h : AllD (x :: r)) : 0 ≤ x ∧ x ≤ 9 := h x List.mem_cons_self
theorem AllD.tail {x : Int} {r : List Int} (h : AllD (x :: r)) : AllD r := fun y hy => h y (List.mem_cons_of_mem _ hy)
theorem dval_nn : ∀ {l : List Int}, AllD l → 0 ≤ dval l
  | [], _ => by simp [dval]
  | x :: r, h => by
    have := dval_nn h.tail
    have := h.head
    simp only [dval]
    omega
theorem tw_val : ∀ (l : List Int) (b : Int), AllD l → 0 ≤ b → b ≤ 1 → dval (tw l b) = 2 * dval l + b
  | [], b, _, h0, h1 => by
    unfold tw
    split
    · simp [dval]
    · simp [dval]; omega
  | x :: r, b, h, h0, h1 => by
    have hx := h.head
    have := tw_val r ((2 * x + b) / 10) h.tail (by omega) (by omega)
    simp only [tw, dval, this]
    omega
theorem tw_all : ∀ (l : List Int) (b : Int), AllD l → 0 ≤ b → b ≤ 1 → AllD (tw l b)
  | [], b, _, h0, h1 => by
    unfold tw
    split
    · intro x hx
      simp at hx
      omega
    · intro x hx
      cases hx
  | x :: r, b, h, h0, h1 => by
    have hx := h.head
    have := tw_all r ((2 * x + b) / 10) h.tail (by omega) (by omega)
    intro y hy
    simp only [tw, List.mem_cons] at hy
    rcases hy with rfl | hy
    · omega
    · exact this y hy
theorem tw_nz : ∀ (l : List Int) (b : Int), AllD l → Nz l → 0 ≤ b → b ≤ 1 → Nz (tw l b)
  | [], b, _, _, h0, h1 => by
    unfold tw
    split
    · simp [Nz, dval]; omega
    · trivial
  | x :: r, b, h, hn, h0, h1 => by
    have hx := h.head
    have hv := tw_val (x :: r) b h h0 h1
    refine ⟨?_, tw_nz r _ h.tail hn.2 (by omega) (by omega)⟩
    have := hn.1
    show 0 < dval (tw (x :: r) b)
    omega
theorem tw_len : ∀ (l : List Int) (b : Int), (tw l b).length ≤ l.length + 1
  | [], b => by unfold tw; split <;> simp
  | x :: r, b => by simp only [tw, List.length_cons]; have := tw_len r ((2 * x + b) / 10); omega
theorem dval_lt : ∀ {l : List Int}, AllD l → dval l < 10 ^ l.length
  | [], _ => by simp [dval]
  | x :: r, h => by
    have := dval_lt h.tail
    have := h.head
    simp only [dval, List.length_cons, Int.pow_succ]
    omega
theorem dval_ge : ∀ {l : List Int}, AllD l → Nz l → ∀ n, n < l.length → (10 : Int) ^ n ≤ dval l
  | [], _, _, n, hn => by simp at hn
  | x :: r, h, hz, 0, _ => by
    have := hz.1
    simp
    omega
  | x :: r, h, hz, n + 1, hn => by
    have := dval_ge h.tail hz.2 n (by simpa using hn)
    have := h.head
    simp only [dval, Int.pow_succ]
    omega
theorem twice_loop (K : Nat) (v0 : List Int) (h : AllD v0) (hl : v0.length ≤ 1000) : ∀ (m n : Nat) (i : Nat) (b : Int) (w : List Int), m = v0.length - i → m < n → 0 ≤ b → b ≤ 1 → w.length = i → i ≤ v0.length →
    ∃ c u, tariffref01_twice.l3 K v0 n b w (i : Int) = some (c, u) ∧ u.length ≤ 1000 ∧ (if c > 0 then u ++ [c] else u) = w ++ tw (v0.drop i) b
  | _, 0, _, _, _, _, hmn, _, _, _, _ => by omega
  | 0, n + 1, i, b, w, hm, _, h0, h1, hw, hi => by
    have : i = v0.length := by omega
    subst this
    unfold tariffref01_twice.l3
    refine ⟨b, w, by simp, by omega, ?_⟩
    simp only [List.drop_length, tw]
    split <;> simp
  | m + 1, n + 1, i, b, w, hm, hmn, h0, h1, hw, hi => by
    have hlt : i < v0.length := by omega
    obtain ⟨x, hx⟩ : ∃ x, v0[i]? = some x := ⟨v0[i], by simp [hlt]⟩
    have hxa := h x (List.mem_of_getElem? hx)
    have hd : v0.drop i = x :: v0.drop (i + 1) := by
      rw [List.getElem?_eq_getElem hlt] at hx
      rw [List.drop_eq_getElem_cons hlt]
      rw [Option.some.inj hx]
    unfold tariffref01_twice.l3
    have e1 : decide ((i : Int) < (v0.length : Int)) = true := by simpa using hlt
    have e2 : idx v0 (i : Int) = some x := by unfold idx; simp [hx]
    rw [e1, if_pos rfl, e2]
    simp only [Option.bind_some]
    have w1 : IntKind.i64.wrap (2 * x) = 2 * x := i64_small (by omega) (by omega)
    have w2 : IntKind.i64.wrap (2 * x + b) = 2 * x + b := i64_small (by omega) (by omega)
    have w3 : Int.tmod (2 * x + b) 10 = (2 * x + b) % 10 := Int.tmod_eq_emod_of_nonneg (by omega)
    have w4 : Int.tdiv (2 * x + b) 10 = (2 * x + b) / 10 := Int.tdiv_eq_ediv_of_nonneg (by omega)
    have w5 : IntKind.i64.wrap ((2 * x + b) / 10) = (2 * x + b) / 10 := i64_small (by omega) (by omega)
    have w6 : IntKind.i64.wrap ((i : Int) + 1) = ((i + 1 : Nat) : Int) := by rw [i64_small (by omega) (by omega)]; omega
    simp only [w1, w2, w3, w4, w5, w6]
    rw [if_pos (by decide), if_pos ((room_iff _).2 (by simp; omega)), if_pos (by decide)]
    obtain ⟨c, u, g1, g2, g3⟩ := twice_loop K v0 h hl m n (i + 1) ((2 * x + b) / 10) (w ++ [(2 * x + b) % 10]) (by omega) (by omega) (by omega) (by omega) (by simp [hw]) hlt
    refine ⟨c, u, g1, g2, ?_⟩
    rw [g3, hd]
    simp [tw]
theorem twice_eq (k : Nat) (l : List Int) (b : Int) (h : AllD l) (hl : l.length ≤ 900) (hk : l.length < k) (h0 : 0 ≤ b) (h1 : b ≤ 1) : tariffref01_twice k l b = some (tw l b) := by
  obtain ⟨c, u, g1, g2, g3⟩ := twice_loop k l h (by omega) l.length k 0 b [] rfl hk h0 h1 rfl (Nat.zero_le _)
  unfold tariffref01_twice
  rw [show (0 : Int) = ((0 : Nat) : Int) from rfl, g1]
  simp only [Option.bind_some]
  simp only [List.nil_append, List.drop_zero] at g3
  rw [← g3]
  by_cases hc : c > 0
  · rw [if_pos (by simpa using hc), if_pos ((room_iff _).2 (by simp; omega)), if_pos hc]
  · rw [if_neg (by simpa using hc), if_neg hc]
end Go.EvT
end
section
set_option maxRecDepth 100000
namespace Go.EvT
open Go.Ev Go
theorem and1 {n : Int} (h0 : 0 ≤ n) (h1 : n < 18446744073709551616) : ((BitVec.ofInt (IntKind.bits .u64) n &&& BitVec.ofInt (IntKind.bits .u64) (1 : Int)).toNat : Int) = n % 2 := by
  rw [BitVec.toNat_and, bvNat h0 h1, bvNat (by decide) (by decide)]
  obtain ⟨m, rfl⟩ := Int.eq_ofNat_of_zero_le h0
  have : m &&& 1 = m % 2 := Nat.and_two_pow_sub_one_eq_mod m 1
  show ((m &&& 1 : Nat) : Int) = _
  rw [this]
  omega
theorem bit_eq (e : Int) (he : u64 e) (j : Nat) (hj : j < 64) :
    IntKind.i64.wrap (IntKind.u64.wrap ((BitVec.ofInt (IntKind.bits .u64) (Int.fdiv e (2 ^ min ((j : Int)).toNat (IntKind.bits .u64))) &&& BitVec.ofInt (IntKind.bits .u64) (1 : Int)).toNat : Int)) = e / 2 ^ j % 2 := by
  have hm : min ((j : Int)).toNat (IntKind.bits .u64) = j := by show min j 64 = j; omega
  have hp : (0 : Int) < 2 ^ j := Int.pow_pos (by decide)
  have hq0 : 0 ≤ e / 2 ^ j := Int.ediv_nonneg he.1 (Int.le_of_lt hp)
  have hq1 : e / 2 ^ j ≤ e := Int.ediv_le_self _ he.1
  have := he.2
  rw [hm, Int.fdiv_eq_ediv_of_nonneg _ (Int.le_of_lt hp), and1 hq0 (by omega), wrapId (by omega) (by omega), i64_small (by omega) (by omega)]
theorem mod_pow_step (e : Int) (h : 0 ≤ e) (j : Nat) : e % 2 ^ (j + 1) = e / 2 ^ j % 2 * 2 ^ j + e % 2 ^ j := by
  obtain ⟨m, rfl⟩ := Int.eq_ofNat_of_zero_le h
  have := Nat.mod_pow_succ (x := m) (b := 2) (k := j)
  have e1 : ((m % 2 ^ (j + 1) : Nat) : Int) = (m : Int) % 2 ^ (j + 1) := by simp
  have e2 : ((m % 2 ^ j : Nat) : Int) = (m : Int) % 2 ^ j := by simp
  have e3 : ((2 ^ j * (m / 2 ^ j % 2) : Nat) : Int) = (m : Int) / 2 ^ j % 2 * 2 ^ j := by simp [Int.mul_comm]
  rw [← e1, ← e2, ← e3, this]
  omega
theorem words_bits (K : Nat) (hK : 1000 ≤ K) (v0 : List Int) (v4 e : Int) (hx : idx v0 v4 = some e) (he : u64 e) : ∀ (j n : Nat) (l : List Int), j < n → j ≤ 64 → AllD l → Nz l → l.length + j ≤ 800 →
    ∃ u, tariffref01_words.l6 K v0 v4 n l ((j : Int) - 1) = some (v0, u, v4) ∧ AllD u ∧ Nz u ∧ u.length ≤ l.length + j ∧ dval u = dval l * 2 ^ j + e % 2 ^ j
  | _, 0, _, hn, _, _, _, _ => by omega
  | 0, n + 1, l, _, _, ha, hz, hl => by
    unfold tariffref01_words.l6
    exact ⟨l, by simp, ha, hz, Nat.le_refl _, by simp⟩
  | j + 1, n + 1, l, hn, hj, ha, hz, hl => by
    unfold tariffref01_words.l6
    have e0 : ((j + 1 : Nat) : Int) - 1 = (j : Int) := by omega
    rw [e0]
    have e1 : decide ((j : Int) ≥ 0) = true := by simp
    rw [e1, if_pos rfl, hx]
    simp only [Option.bind_some]
    rw [if_pos (by omega), bit_eq e he j (by omega), twice_eq K l (e / 2 ^ j % 2) ha (by omega) (by omega) (by omega) (by omega)]
    simp only [Option.bind_some]
    rw [i64_small (by omega) (by omega)]
    have hb0 : 0 ≤ e / 2 ^ j % 2 := by omega
    have hb1 : e / 2 ^ j % 2 ≤ 1 := by omega
    have hlen := tw_len l (e / 2 ^ j % 2)
    obtain ⟨u, g1, g2, g3, g4, g5⟩ := words_bits K hK v0 v4 e hx he j n (tw l (e / 2 ^ j % 2)) (by omega) (by omega) (tw_all _ _ ha hb0 hb1) (tw_nz _ _ ha hz hb0 hb1) (by omega)
    refine ⟨u, g1, g2, g3, by omega, ?_⟩
    rw [g5, tw_val _ _ ha hb0 hb1, mod_pow_step e he.1 j, Int.pow_succ, Int.add_mul, Int.mul_comm 2 (dval l), Int.mul_assoc (dval l) 2, Int.mul_comm 2 (2 ^ j), Int.add_assoc]
theorem of_eq (k : Nat) (hk : 1000 ≤ k) (a : Wide) (ha : a.Ok) : ∃ l, tariffref01_Of k a = some l ∧ AllD l ∧ Nz l ∧ dval l = a.val := by
  obtain ⟨u, g1, g2, g3, g4, g5⟩ := words_bits k hk [a.lo, a.hi] 1 a.hi rfl ha.1 64 k [] (by omega) (by omega) (fun x h => by cases h) trivial (by simp)
  obtain ⟨w, h1, h2, h3, h4, h5⟩ := words_bits k hk [a.lo, a.hi] 0 a.lo rfl ha.2 64 k u (by omega) (by omega) g2 g3 (by simp at g4; omega)
  obtain ⟨K, rfl⟩ : ∃ K, k = K + 3 := ⟨k - 3, by omega⟩
  refine ⟨w, ?_, h2, h3, ?_⟩
  · unfold tariffref01_Of tariffref01_words
    have s1 : IntKind.i64.wrap ((([a.lo, a.hi] : List Int).length : Int) - 1) = 1 := rfl
    have s2 : IntKind.i64.wrap ((1 : Int) - 1) = 0 := by decide
    have s3 : IntKind.i64.wrap ((0 : Int) - 1) = -1 := by decide
    have s64 : ((64 : Nat) : Int) - 1 = 63 := by decide
    rw [s64] at g1 h1
    rw [s1]
    unfold tariffref01_words.l3
    rw [show decide ((1 : Int) ≥ 0) = true by decide, if_pos rfl, g1]
    simp only [Option.bind_some]
    rw [s2]
    unfold tariffref01_words.l3
    rw [show decide ((0 : Int) ≥ 0) = true by decide, if_pos rfl, h1]
    simp only [Option.bind_some]
    rw [s3]
    unfold tariffref01_words.l3
    rw [show decide ((-1 : Int) ≥ 0) = false by decide]
    simp
  · rw [h5, g5]
    obtain ⟨⟨a0, a1⟩, a2, a3⟩ := ha
    have p64 : (2 : Int) ^ 64 = 18446744073709551616 := by decide
    rw [p64]
    unfold Wide.val
    simp only [dval]
    omega
theorem pow10_mono (m : Nat) : ∀ n, m ≤ n → (10 : Int) ^ m ≤ 10 ^ n := by
  intro n h
  induction h with
  | refl => exact Int.le_refl _
  | step _ ih =>
    rw [Int.pow_succ]
    have : (0 : Int) < 10 ^ m := Int.pow_pos (by decide)
    omega
theorem rform_eq (k : Nat) (hk : 1000 ≤ k) (d : Dec) (hd : d.coef.Ok) : tariffref02_Form k d = some d.form := by
  obtain ⟨l, h1, h2, h3, h4⟩ := of_eq k hk d.coef hd
  unfold tariffref02_Form
  rw [h1]
  simp only [Option.bind_some]
  unfold Dec.form
  rw [← h4]
  have hlt := dval_lt h2
  have hlen : ((l.length : Int) > 34) ↔ ¬ dval l < 10000000000000000000000000000000000 := by
    constructor
    · intro h
      have := dval_ge h2 h3 34 (by omega)
      rw [show ((10 : Int) ^ 34) = 10000000000000000000000000000000000 by decide] at this
      omega
    · intro h
      rcases Nat.lt_or_ge 34 l.length with hh | hh
      · omega
      · exfalso
        apply h
        refine Int.lt_of_lt_of_le hlt ?_
        rw [show (10000000000000000000000000000000000 : Int) = 10 ^ 34 by decide]
        exact pow10_mono _ _ hh
  have hzero : (l.length : Int) = 0 ↔ dval l = 0 := by
    cases l with
    | nil => simp [dval]
    | cons x r =>
      have := h3.1
      simp
      omega
  generalize hL : (l.length : Int) = L at *
  by_cases c1 : L > 34
  · have := hlen.1 c1
    simp [c1, this]
  · have c1' : dval l < 10000000000000000000000000000000000 := by
      rcases Decidable.em (dval l < 10000000000000000000000000000000000) with h | h
      · exact h
      · exact absurd (hlen.2 h) c1
    by_cases c2 : d.scale < 0
    · have : ¬ 0 ≤ d.scale := by omega
      simp [c1, c1', c2, this]
    · have c2' : 0 ≤ d.scale := by omega
      by_cases c3 : d.scale > 18
      · have : ¬ d.scale ≤ 18 := by omega
        simp [c1, c1', c2, c2', c3, this]
      · have c3' : d.scale ≤ 18 := by omega
        by_cases c4 : L = 0
        · have c4' := hzero.1 c4
          cases hn : d.neg <;> simp [c1, c1', c2, c2', c3, c3', c4, c4', hn]
        · have c4' : ¬ dval l = 0 := fun h => c4 (hzero.2 h)
          obtain ⟨x, r, rfl⟩ : ∃ x r, l = x :: r := by
            cases l with
            | nil => exact absurd (by rw [← hL]; rfl) c4
            | cons x r => exact ⟨x, r, rfl⟩
          have hx := h2.head
          have e5 : idx (x :: r) (0 : Int) = some x := rfl
          have e6 : (x != 0) = (dval (x :: r) % 10 != 0) := by
            have : dval (x :: r) % 10 = x := by simp only [dval]; omega
            rw [this]
          rw [e5]
          simp only [Option.bind_some]
          rw [e6]
          by_cases c5 : d.scale = 0
          · simp [c1, c1', c2, c2', c3, c3', c4, c4', c5]
          · simp [c1, c1', c2, c2', c3, c3', c4, c4', c5]
end Go.EvT
end
section
set_option maxRecDepth 100000
namespace Go.EvT
open Go.Ev Go
def lett (c : Int) : Bool := (decide (97 ≤ c) && decide (c ≤ 122)) || (decide (65 ≤ c) && decide (c ≤ 90)) || c == 95
def digt (c : Int) : Bool := decide (48 ≤ c) && decide (c ≤ 57)
def ldAll (l : List UInt8) : Bool := l.all fun b => lett (b.toNat : Int) || digt (b.toNat : Int)
theorem letter_eq (c : Int) : tariffref04_Letter c = some (lett c) := by
  unfold tariffref04_Letter lett
  by_cases h1 : 97 ≤ c <;> by_cases h2 : c ≤ 122 <;> by_cases h3 : 65 ≤ c <;> by_cases h4 : c ≤ 90 <;> simp [h1, h2, h3, h4]
theorem digit_eq (c : Int) : tariffref04_Digit c = some (digt c) := by
  unfold tariffref04_Digit digt
  by_cases h1 : 48 ≤ c <;> by_cases h2 : c ≤ 57 <;> simp [h1, h2]
def wordB (s : ByteArray) : Bool := (chars_Word s).getD false
theorem word_eq (s : ByteArray) : chars_Word s = some (wordB s) := by
  have ite_some : ∀ (c : Bool) (X : Option Bool), (∃ b, X = some b) → ∃ b, (if c = true then some true else X) = some b := by
    intro c X h
    cases c
    · simpa using h
    · exact ⟨true, rfl⟩
  have : ∃ b, chars_Word s = some b := by
    unfold chars_Word
    iterate 11 refine ite_some _ _ ?_
    exact ⟨false, rfl⟩
  obtain ⟨b, hb⟩ := this
  unfold wordB
  rw [hb]
  rfl
theorem word_same (s : ByteArray) : tariffref04_Word s = chars_Word s := rfl
theorem drop_cons {α : Type} {l : List α} {i : Nat} {x : α} (h : l[i]? = some x) : l.drop i = x :: l.drop (i + 1) := by
  have hlt := getElem?_lt h
  rw [List.getElem?_eq_getElem hlt] at h
  rw [List.drop_eq_getElem_cons hlt, Option.some.inj h]
theorem size_list (s : ByteArray) : s.size = s.data.toList.length := by
  show s.data.size = _
  simp
theorem name_step (c : Int) (X : Option (Fl Unit Bool)) (i : Int) (hi : ¬ i = 0) :
    (((if (decide ((97 : Int) ≤ c)) = true then some (decide (c ≤ (122 : Int))) else some false) : Option Bool).bind fun b5 =>
    ((if b5 = false then ((if (decide ((65 : Int) ≤ c)) = true then some (decide (c ≤ (90 : Int))) else some false) : Option Bool).bind fun b6 => some b6 else some true) : Option Bool).bind fun b7 =>
    ((if b7 = false then some (c == (95 : Int)) else some true) : Option Bool).bind fun b8 =>
    ((if (!b8) = true then
      ((if (i == (0 : Int)) = false then some (decide (c < (48 : Int))) else some true) : Option Bool).bind fun b9 =>
      ((if b9 = false then some (decide (c > (57 : Int))) else some true) : Option Bool).bind fun b10 => some b10
      else some false) : Option Bool).bind fun b11 => if b11 = true then some (Fl.ret false) else X) = if lett c || digt c then X else some (Fl.ret false) := by
  unfold lett digt
  by_cases h1 : 97 ≤ c <;> by_cases h2 : c ≤ 122 <;> by_cases h3 : 65 ≤ c <;> by_cases h4 : c ≤ 90 <;> by_cases h5 : c = 95 <;> by_cases h6 : c < 48 <;> by_cases h7 : c > 57 <;> first | (exfalso; omega) | (simp [h1, h2, h3, h4, h5, h6, h7, hi]; done) | (simp [h1, h2, h3, h4, h5, h6, h7, hi]; intros; exfalso; omega) | simp [h1, h2, h3, h4, h5, h6, h7, hi, (show (48 : Int) ≤ c by omega), (show c ≤ 57 by omega)]
theorem name_loop (k : Nat) (s : ByteArray) (hs : s.size ≤ 1000) : ∀ (m n i : Nat), m = s.size - i → m < n → 1 ≤ i → i ≤ s.size →
    chars_Name.l4 k s (s.size : Int) n (i : Int) = if ldAll (s.data.toList.drop i) then some (.go ()) else some (.ret false)
  | _, 0, _, _, h, _, _ => by omega
  | 0, n + 1, i, hm, _, _, hi => by
    have : i = s.size := by omega
    subst this
    unfold chars_Name.l4
    have e0 : s.data.toList.drop s.size = [] := List.drop_eq_nil_of_le (by rw [size_list]; exact Nat.le_refl _)
    rw [e0]
    simp [ldAll]
  | m + 1, n + 1, i, hm, hmn, h1, hi => by
    have hlt : i < s.data.toList.length := by rw [← size_list]; omega
    obtain ⟨x, hx⟩ : ∃ x, s.data.toList[i]? = some x := ⟨_, List.getElem?_eq_getElem hlt⟩
    unfold chars_Name.l4
    have e1 : decide ((i : Int) < (s.size : Int)) = true := by simp; omega
    have e2 : idx s.data.toList (i : Int) = some x := by unfold idx; simp [hx]
    rw [e1, if_pos rfl, e2]
    simp only [Option.bind_some]
    rw [name_step _ _ _ (by omega), i64_small (by omega) (by omega), show (i : Int) + 1 = ((i + 1 : Nat) : Int) by omega, name_loop k s hs m n (i + 1) (by omega) (by omega) (by omega) (by omega), drop_cons hx]
    simp only [ldAll, List.all_cons]
    rcases Bool.eq_false_or_eq_true (lett (x.toNat : Int)) with q1 | q1 <;> rcases Bool.eq_false_or_eq_true (digt (x.toNat : Int)) with q2 | q2 <;> simp [q1, q2]
theorem rname_loop (k : Nat) (s : ByteArray) (hs : s.size ≤ 1000) : ∀ (m n i : Nat), m = s.size - i → m < n → i ≤ s.size →
    tariffref04_Name.l4 k s n (i : Int) = if ldAll (s.data.toList.drop i) then some (.go ()) else some (.ret false)
  | _, 0, _, _, h, _ => by omega
  | 0, n + 1, i, hm, _, hi => by
    have : i = s.size := by omega
    subst this
    unfold tariffref04_Name.l4
    have e0 : s.data.toList.drop s.size = [] := List.drop_eq_nil_of_le (by rw [size_list]; exact Nat.le_refl _)
    rw [e0]
    simp [ldAll]
  | m + 1, n + 1, i, hm, hmn, hi => by
    have hlt : i < s.data.toList.length := by rw [← size_list]; omega
    obtain ⟨x, hx⟩ : ∃ x, s.data.toList[i]? = some x := ⟨_, List.getElem?_eq_getElem hlt⟩
    unfold tariffref04_Name.l4
    have e1 : decide ((i : Int) < (s.size : Int)) = true := by simp; omega
    have e2 : idx s.data.toList (i : Int) = some x := by unfold idx; simp [hx]
    rw [e1, if_pos rfl, e2]
    simp only [Option.bind_some, letter_eq, digit_eq]
    rw [i64_small (by omega) (by omega), show (i : Int) + 1 = ((i + 1 : Nat) : Int) by omega, rname_loop k s hs m n (i + 1) (by omega) (by omega) (by omega), drop_cons hx]
    simp only [ldAll, List.all_cons]
    rcases Bool.eq_false_or_eq_true (lett (x.toNat : Int)) with q1 | q1 <;> rcases Bool.eq_false_or_eq_true (digt (x.toNat : Int)) with q2 | q2 <;> simp [q1, q2]
def nameB (s : ByteArray) : Bool := match s.data.toList with
  | [] => false
  | x :: r => decide (s.size ≤ 64) && lett (x.toNat : Int) && !wordB s && ldAll r
theorem rname_eq (k : Nat) (hk : 100 ≤ k) (s : ByteArray) : tariffref04_Name k s = some (nameB s) := by
  unfold tariffref04_Name nameB
  cases hl : s.data.toList with
  | nil => simp
  | cons x r =>
    have e0 : ((x :: r) == (ByteArray.mk #[]).data.toList) = false := rfl
    rw [e0]
    by_cases h64 : s.size ≤ 64
    · have e1 : decide ((s.size : Int) > 64) = false := by simp; omega
      have hlp := rname_loop k s (by omega) (s.size - 1) k 1 rfl (by omega) (by rw [size_list, hl]; simp)
      rw [show ((1 : Nat) : Int) = (1 : Int) from rfl, hl] at hlp
      have e2 : idx (x :: r) (0 : Int) = some x := rfl
      simp only [if_true, e1, Option.bind_some, e2, letter_eq, word_same, word_eq, hlp, List.drop_succ_cons, List.drop_zero, h64, decide_true, Bool.true_and]
      rcases Bool.eq_false_or_eq_true (lett (x.toNat : Int)) with q1 | q1 <;> rcases Bool.eq_false_or_eq_true (wordB s) with q2 | q2 <;> rcases Bool.eq_false_or_eq_true (ldAll r) with q3 | q3 <;> simp [q1, q2, q3]
    · have e1 : decide ((s.size : Int) > 64) = true := by simp; omega
      simp [e1, h64]
theorem name_eq (k : Nat) (hk : 100 ≤ k) (s : ByteArray) : chars_Name k s = some (nameB s) := by
  unfold chars_Name nameB
  cases hl : s.data.toList with
  | nil => simp
  | cons x r =>
    have e0 : ((x :: r) == (ByteArray.mk #[]).data.toList) = false := rfl
    rw [e0]
    by_cases h64 : s.size ≤ 64
    · have e1 : decide ((s.size : Int) > 64) = false := by simp; omega
      obtain ⟨K, rfl⟩ : ∃ K, k = K + 1 := ⟨k - 1, by omega⟩
      have hlp := name_loop (K + 1) s (by omega) (s.size - 1) K 1 rfl (by omega) (Nat.le_refl _) (by rw [size_list, hl]; simp)
      rw [show ((1 : Nat) : Int) = (1 : Int) from rfl, hl] at hlp
      have hfirst : chars_Name.l4 (K + 1) s (s.size : Int) (K + 1) (0 : Int) = if lett (x.toNat : Int) then chars_Name.l4 (K + 1) s (s.size : Int) K (1 : Int) else some (.ret false) := by
        conv => lhs; unfold chars_Name.l4
        have e2 : decide ((0 : Int) < (s.size : Int)) = true := by
          have : 0 < s.size := by rw [size_list, hl]; simp
          simp; omega
        rw [e2, if_pos rfl, hl, show idx (x :: r) (0 : Int) = some x from rfl]
        simp only [Option.bind_some]
        rw [show IntKind.i64.wrap ((0 : Int) + 1) = 1 by decide]
        unfold lett
        generalize (x.toNat : Int) = c
        by_cases h1 : 97 ≤ c <;> by_cases h2 : c ≤ 122 <;> by_cases h3 : 65 ≤ c <;> by_cases h4 : c ≤ 90 <;> by_cases h5 : c = 95 <;> simp [h1, h2, h3, h4, h5]
      simp only [if_true, e1, Option.bind_some, word_eq, hfirst, hlp, List.drop_succ_cons, List.drop_zero, h64, decide_true, Bool.true_and]
      rcases Bool.eq_false_or_eq_true (lett (x.toNat : Int)) with q1 | q1 <;> rcases Bool.eq_false_or_eq_true (wordB s) with q2 | q2 <;> rcases Bool.eq_false_or_eq_true (ldAll r) with q3 | q3 <;> simp [q1, q2, q3]
    · have e1 : decide ((s.size : Int) > 64) = true := by simp; omega
      simp [e1, h64]
end Go.EvT
end
section
set_option maxRecDepth 100000
namespace Go.EvT
open Go.Ev Go Go.Lib
def byt (s : ByteArray) (i : Nat) : Nat := (s.get! i).toNat
theorem byt_lt (s : ByteArray) (i : Nat) : byt s i < 256 := (s.get! i).toNat_lt
theorem idx_get (s : ByteArray) (i : Nat) (h : i < s.size) : idx s.data.toList (i : Int) = some (s.get! i) := by
  unfold idx
  rw [if_pos (by omega), show ((i : Int)).toNat = i from rfl, ← getD_get!', List.getD_eq_getElem?_getD]
  have : i < s.data.toList.length := by rw [← size_list]; exact h
  rw [List.getElem?_eq_getElem this]
  rfl
theorem decodeL_drop (s : ByteArray) (i : Nat) : decodeL (s.data.toList.drop i) = decodeN (s.size - i) (byt s i) (byt s (i + 1)) (byt s (i + 2)) (byt s (i + 3)) := by
  have g : ∀ j, (s.data.toList.drop i).getD j 0 = s.get! (i + j) := by
    intro j
    rw [← getD_get!', List.getD_eq_getElem?_getD, List.getD_eq_getElem?_getD, List.getElem?_drop]
  rw [decodeL_N, g, g, g, g, List.length_drop, ← size_list]
  rfl
theorem decode_N (s : ByteArray) (i : Nat) : Utf8.decode s i = decodeN (s.size - i) (byt s i) (byt s (i + 1)) (byt s (i + 2)) (byt s (i + 3)) := decode_at s i
def vAll (s : ByteArray) : Nat → Nat → Bool
  | 0, _ => true
  | b + 1, i => if i < s.size then (if (Utf8.decode s i).1 = 65533 ∧ (Utf8.decode s i).2 = 1 then false else charB ((Utf8.decode s i).1 : Int) && vAll s b (i + (Utf8.decode s i).2)) else true
theorem vAll_eq (s : ByteArray) : ∀ (b i : Nat), s.size ≤ i + b → (validD (s.data.toList.drop i) && runesAll charB s b i) = vAll s b i
  | 0, i, h => by
    have : s.data.toList.drop i = [] := List.drop_eq_nil_of_le (by rw [← size_list]; omega)
    rw [this]
    rfl
  | b + 1, i, h => by
    simp only [vAll, runesAll]
    by_cases hi : i < s.size
    · simp only [hi, if_true]
      have hne : s.data.toList.drop i ≠ [] := by
        intro e
        have := congrArg List.length e
        rw [List.length_drop, ← size_list] at this
        simp at this
        omega
      have e1 : decodeL (s.data.toList.drop i) = Utf8.decode s i := by rw [decodeL_drop, decode_N]
      rw [validD_step _ hne, e1]
      by_cases hb : (Utf8.decode s i).1 = 65533 ∧ (Utf8.decode s i).2 = 1
      · simp [hb]
      · rw [if_neg hb, if_neg hb, List.drop_drop]
        have hw := width_pos s i hi
        have := vAll_eq s b (i + (Utf8.decode s i).2) (by omega)
        rw [← this]
        cases charB ((Utf8.decode s i).1 : Int) <;> simp
    · have : s.data.toList.drop i = [] := List.drop_eq_nil_of_le (by rw [← size_list]; omega)
      rw [this]
      simp [hi, validD_nil]
theorem valid_vAll (s : ByteArray) : validText s = vAll s s.size 0 := by
  have := vAll_eq s s.size 0 (by omega)
  rw [← this, List.drop_zero]
  rfl
theorem c0_eq : ∀ b : Fin 256, ((IntKind.wrap .u8 ((BitVec.ofInt (IntKind.bits .u8) (b.val : Int) &&& BitVec.ofInt (IntKind.bits .u8) (192 : Int)).toNat : Int)) != (128 : Int)) = !(decide (b.val / 64 = 2)) := by decide +kernel
theorem m63_eq : ∀ b : Fin 256, (IntKind.wrap .i64 (IntKind.wrap .u8 ((BitVec.ofInt (IntKind.bits .u8) (b.val : Int) &&& BitVec.ofInt (IntKind.bits .u8) (63 : Int)).toNat : Int))) = ((b.val % 64 : Nat) : Int) := by decide +kernel
theorem m31_eq : ∀ b : Fin 256, (IntKind.wrap .i64 ((BitVec.ofInt (IntKind.bits .i64) (b.val : Int) &&& BitVec.ofInt (IntKind.bits .i64) (31 : Int)).toNat : Int)) = ((b.val % 32 : Nat) : Int) := by decide +kernel
theorem m15_eq : ∀ b : Fin 256, (IntKind.wrap .i64 ((BitVec.ofInt (IntKind.bits .i64) (b.val : Int) &&& BitVec.ofInt (IntKind.bits .i64) (15 : Int)).toNat : Int)) = ((b.val % 16 : Nat) : Int) := by decide +kernel
theorem m7_eq : ∀ b : Fin 256, (IntKind.wrap .i64 ((BitVec.ofInt (IntKind.bits .i64) (b.val : Int) &&& BitVec.ofInt (IntKind.bits .i64) (7 : Int)).toNat : Int)) = ((b.val % 8 : Nat) : Int) := by decide +kernel
def contB (s : ByteArray) (j : Nat) : Bool := decide (j < s.size) && decide (byt s j / 64 = 2)
theorem tail_eq (s : ByteArray) (j : Nat) : tariffref04_tail s (j : Int) = if contB s j then some (((byt s j % 64 : Nat) : Int), true) else some (0, false) := by
  unfold tariffref04_tail contB
  by_cases h : j < s.size
  · have e1 : decide ((j : Int) ≥ (s.size : Int)) = false := by simp; omega
    rw [e1, idx_get s j h]
    have e2 := c0_eq ⟨byt s j, byt_lt s j⟩
    have e3 := m63_eq ⟨byt s j, byt_lt s j⟩
    simp only [byt] at e2 e3 ⊢
    simp only [if_true, Option.bind_some, e2, e3, h, decide_true, Bool.true_and]
    by_cases hb : (s.get! j).toNat / 64 = 2 <;> simp [hb]
  · have e1 : decide ((j : Int) ≥ (s.size : Int)) = true := by simp; omega
    simp [e1, h]
end Go.EvT
end
section
set_option maxRecDepth 100000
namespace Go.EvT
open Go.Ev Go Go.Lib
theorem l13_step (K : Nat) (s : ByteArray) (i j : Nat) (v8 v9 c : Int) (n : Nat) (hj : (j : Int) < v8) (hi : i + j < 100000000) (hc0 : 0 ≤ c) (hc1 : c < 100000000) :
    tariffref04_one.l13 K s (i : Int) v8 v9 (n + 1) c (j : Int) = if contB s (i + j) then tariffref04_one.l13 K s (i : Int) v8 v9 n (c * 64 + ((byt s (i + j) % 64 : Nat) : Int)) ((j + 1 : Nat) : Int) else some (.ret (0, 0, false)) := by
  conv => lhs; unfold tariffref04_one.l13
  have e1 : decide ((j : Int) < v8) = true := by simpa using hj
  have e2 : IntKind.i64.wrap ((i : Int) + (j : Int)) = ((i + j : Nat) : Int) := by rw [i64_small (by omega) (by omega)]; omega
  rw [e1, if_pos rfl, e2, tail_eq]
  have hb : byt s (i + j) % 64 < 64 := Nat.mod_lt _ (by decide)
  have e3 : IntKind.i64.wrap (IntKind.i64.wrap (c * 64) + ((byt s (i + j) % 64 : Nat) : Int)) = c * 64 + ((byt s (i + j) % 64 : Nat) : Int) := by
    rw [i64_small (n := c * 64) (by omega) (by omega), i64_small (by omega) (by omega)]
  have e4 : IntKind.i64.wrap ((j : Int) + 1) = ((j + 1 : Nat) : Int) := by rw [i64_small (by omega) (by omega)]; omega
  by_cases hcb : contB s (i + j) = true
  · rw [if_pos hcb, if_pos hcb]
    simp only [Option.bind_some, e3, e4]
    rfl
  · rw [if_neg hcb, if_neg hcb]
    rfl
theorem l13_end (K : Nat) (s : ByteArray) (i j : Nat) (v8 v9 c : Int) (n : Nat) (hj : ¬ (j : Int) < v8) : tariffref04_one.l13 K s (i : Int) v8 v9 (n + 1) c (j : Int) = some (.go (c, v8, v9)) := by
  conv => lhs; unfold tariffref04_one.l13
  have e1 : decide ((j : Int) < v8) = false := by simpa using hj
  rw [e1]
  rfl
def one' (s : ByteArray) (i : Nat) : Int × Int × Bool :=
  if byt s i < 128 then ((byt s i : Int), 1, true)
  else if byt s i / 32 = 6 then (if contB s (i + 1) then
    ((((byt s i % 32 : Nat) : Int) * 64 + ((byt s (i + 1) % 64 : Nat) : Int)), 2, decide ((((byt s i % 32 : Nat) : Int) * 64 + ((byt s (i + 1) % 64 : Nat) : Int)) ≥ 128)) else (0, 0, false))
  else if byt s i / 16 = 14 then (if contB s (i + 1) then (if contB s (i + 2) then
    ((((byt s i % 16 : Nat) : Int) * 64 + ((byt s (i + 1) % 64 : Nat) : Int)) * 64 + ((byt s (i + 2) % 64 : Nat) : Int), 3, decide ((((byt s i % 16 : Nat) : Int) * 64 + ((byt s (i + 1) % 64 : Nat) : Int)) * 64 + ((byt s (i + 2) % 64 : Nat) : Int) ≥ 2048)) else (0, 0, false)) else (0, 0, false))
  else if byt s i / 8 = 30 then (if contB s (i + 1) then (if contB s (i + 2) then (if contB s (i + 3) then
    (((((byt s i % 8 : Nat) : Int) * 64 + ((byt s (i + 1) % 64 : Nat) : Int)) * 64 + ((byt s (i + 2) % 64 : Nat) : Int)) * 64 + ((byt s (i + 3) % 64 : Nat) : Int), 4, decide (((((byt s i % 8 : Nat) : Int) * 64 + ((byt s (i + 1) % 64 : Nat) : Int)) * 64 + ((byt s (i + 2) % 64 : Nat) : Int)) * 64 + ((byt s (i + 3) % 64 : Nat) : Int) ≥ 65536)) else (0, 0, false)) else (0, 0, false)) else (0, 0, false))
  else (0, 0, false)
theorem one_eq (K : Nat) (s : ByteArray) (i : Nat) (hi : i < s.size) (hs : s.size ≤ 2000000) : tariffref04_one (K + 5) s (i : Int) = some (one' s i) := by
  have hb := byt_lt s i
  unfold tariffref04_one
  rw [idx_get s i hi]
  simp only [Option.bind_some]
  have ew : IntKind.i64.wrap ((s.get! i).toNat : Int) = (byt s i : Int) := i64_small (by omega) (by unfold byt at hb; omega)
  have m31 := m31_eq ⟨byt s i, hb⟩
  have m15 := m15_eq ⟨byt s i, hb⟩
  have m7 := m7_eq ⟨byt s i, hb⟩
  simp only [] at m31 m15 m7
  simp only [ew, m31, m15, m7]
  have h1 : (1 : Int) = ((1 : Nat) : Int) := rfl
  unfold one'
  by_cases c1 : byt s i < 128
  · have : decide ((byt s i : Int) < 128) = true := by simp; omega
    rw [this, if_pos c1]
    rfl
  · have d1 : decide ((byt s i : Int) < 128) = false := by simp; omega
    rw [d1, if_neg c1]
    simp only [Bool.false_eq_true, if_false]
    by_cases c2 : byt s i / 32 = 6
    · have d2 : decide ((byt s i : Int) ≥ 192) = true := by simp; omega
      have d3 : decide ((byt s i : Int) < 224) = true := by simp; omega
      rw [d2, d3, if_pos c2]
      simp only [if_true, Option.bind_some]
      rw [h1, l13_step _ _ _ 1 _ _ _ _ (by decide) (by omega) (by omega) (by omega)]
      by_cases k1 : contB s (i + 1) = true
      · rw [if_pos k1, if_pos k1, l13_end _ _ _ 2 _ _ _ _ (by decide)]
        rfl
      · rw [if_neg k1, if_neg k1]
        rfl
    · by_cases c3 : byt s i / 16 = 14
      · have d2 : decide ((byt s i : Int) ≥ 192) = true := by simp; omega
        have d3 : decide ((byt s i : Int) < 224) = false := by simp; omega
        have d4 : decide ((byt s i : Int) ≥ 224) = true := by simp; omega
        have d5 : decide ((byt s i : Int) < 240) = true := by simp; omega
        rw [d2, d3, d4, d5, if_neg c2, if_pos c3]
        simp only [if_true, Option.bind_some, Bool.false_eq_true, if_false]
        have hm : byt s i % 16 < 16 := Nat.mod_lt _ (by decide)
        have hm1 : byt s (i + 1) % 64 < 64 := Nat.mod_lt _ (by decide)
        rw [h1, l13_step _ _ _ 1 _ _ _ _ (by decide) (by omega) (by omega) (by omega)]
        by_cases k1 : contB s (i + 1) = true
        · rw [if_pos k1, if_pos k1, l13_step _ _ _ 2 _ _ _ _ (by decide) (by omega) (by omega) (by omega)]
          by_cases k2 : contB s (i + 2) = true
          · rw [if_pos k2, if_pos k2, l13_end _ _ _ 3 _ _ _ _ (by decide)]
            rfl
          · rw [if_neg k2, if_neg k2]
            rfl
        · rw [if_neg k1, if_neg k1]
          rfl
      · by_cases c4 : byt s i / 8 = 30
        · have d2 : decide ((byt s i : Int) ≥ 192) = true := by simp; omega
          have d3 : decide ((byt s i : Int) < 224) = false := by simp; omega
          have d4 : decide ((byt s i : Int) ≥ 224) = true := by simp; omega
          have d5 : decide ((byt s i : Int) < 240) = false := by simp; omega
          have d6 : decide ((byt s i : Int) ≥ 240) = true := by simp; omega
          have d7 : decide ((byt s i : Int) < 248) = true := by simp; omega
          rw [d2, d3, d4, d5, d6, d7, if_neg c2, if_neg c3, if_pos c4]
          simp only [if_true, Option.bind_some, Bool.false_eq_true, if_false]
          have hm : byt s i % 8 < 8 := Nat.mod_lt _ (by decide)
          have hm1 : byt s (i + 1) % 64 < 64 := Nat.mod_lt _ (by decide)
          have hm2 : byt s (i + 2) % 64 < 64 := Nat.mod_lt _ (by decide)
          rw [h1, l13_step _ _ _ 1 _ _ _ _ (by decide) (by omega) (by omega) (by omega)]
          by_cases k1 : contB s (i + 1) = true
          · rw [if_pos k1, if_pos k1, l13_step _ _ _ 2 _ _ _ _ (by decide) (by omega) (by omega) (by omega)]
            by_cases k2 : contB s (i + 2) = true
            · rw [if_pos k2, if_pos k2, l13_step _ _ _ 3 _ _ _ _ (by decide) (by omega) (by omega) (by omega)]
              by_cases k3 : contB s (i + 3) = true
              · rw [if_pos k3, if_pos k3, l13_end _ _ _ 4 _ _ _ _ (by decide)]
                rfl
              · rw [if_neg k3, if_neg k3]
                rfl
            · rw [if_neg k2, if_neg k2]
              rfl
          · rw [if_neg k1, if_neg k1]
            rfl
        · rw [if_neg c2, if_neg c3, if_neg c4]
          have hlow : byt s i < 192 ∨ 248 ≤ byt s i := by omega
          rcases hlow with h | h
          · have d2 : decide ((byt s i : Int) ≥ 192) = false := by simp; omega
            have d4 : decide ((byt s i : Int) ≥ 224) = false := by simp; omega
            have d6 : decide ((byt s i : Int) ≥ 240) = false := by simp; omega
            rw [d2, d4, d6]
            rfl
          · have d2 : decide ((byt s i : Int) < 224) = false := by simp; omega
            have d4 : decide ((byt s i : Int) < 240) = false := by simp; omega
            have d6 : decide ((byt s i : Int) < 248) = false := by simp; omega
            have d3 : decide ((byt s i : Int) ≥ 192) = true := by simp; omega
            have d5 : decide ((byt s i : Int) ≥ 224) = true := by simp; omega
            have d7 : decide ((byt s i : Int) ≥ 240) = true := by simp; omega
            rw [d2, d4, d6, d3, d5, d7]
            rfl
end Go.EvT
end
section
set_option maxRecDepth 100000
namespace Go.EvT
open Go.Ev Go Go.Lib
theorem rchar_eq (c : Int) : tariffref04_Char c = some (charB c) := by
  unfold tariffref04_Char charB
  by_cases h1 : c = 9
  · subst h1; rfl
  by_cases h2 : c = 10
  · subst h2; rfl
  by_cases h3 : c = 13
  · subst h3; rfl
  have e1 : (c == 9) = false := by simpa using h1
  have e2 : (c == 10) = false := by simpa using h2
  have e3 : (c == 13) = false := by simpa using h3
  rw [e1, e2, e3]
  by_cases h4 : c < 32
  · have a1 : decide (c ≥ 32) = false := by simp; omega
    have a2 : decide (c ≥ 57344) = false := by simp; omega
    have a3 : decide (c ≥ 65536) = false := by simp; omega
    rw [a1, a2, a3]
    simp [h4]
  · have a1 : decide (c ≥ 32) = true := by simp; omega
    have a4 : decide (c < 32) = false := by simp; omega
    rw [a1, a4]
    by_cases h5 : c < 55296
    · have b1 : decide (c ≤ 55295) = true := by simp; omega
      have b2 : decide (c ≥ 55296) = false := by simp; omega
      have b3 : (c == 65534) = false := by simp; omega
      have b4 : (c == 65535) = false := by simp; omega
      have b5 : decide (c ≤ 1114111) = true := by simp; omega
      rw [b1, b2, b3, b4, b5]
      simp
    · have b1 : decide (c ≤ 55295) = false := by simp; omega
      have b2 : decide (c ≥ 55296) = true := by simp; omega
      rw [b1, b2]
      by_cases h6 : c < 57344
      · have g1 : decide (c ≥ 57344) = false := by simp; omega
        have g2 : decide (c < 57344) = true := by simp; omega
        have g3 : decide (c ≥ 65536) = false := by simp; omega
        rw [g1, g2, g3]
        simp
      · have g1 : decide (c ≥ 57344) = true := by simp; omega
        have g2 : decide (c < 57344) = false := by simp; omega
        rw [g1, g2]
        by_cases h7 : c ≤ 65533
        · have q1 : decide (c ≤ 65533) = true := by simp; omega
          have q2 : (c == 65534) = false := by simp; omega
          have q3 : (c == 65535) = false := by simp; omega
          have q4 : decide (c ≤ 1114111) = true := by simp; omega
          rw [q1, q2, q3, q4]
          simp
        · have q1 : decide (c ≤ 65533) = false := by simp; omega
          rw [q1]
          by_cases h8 : c ≥ 65536
          · have q2 : (c == 65534) = false := by simp; omega
            have q3 : (c == 65535) = false := by simp; omega
            have q5 : decide (c ≥ 65536) = true := by simp; omega
            rw [q2, q3, q5]
            simp
          · have q5 : decide (c ≥ 65536) = false := by simp; omega
            have : c = 65534 ∨ c = 65535 := by omega
            rw [q5]
            rcases this with h | h <;> simp [h]
theorem charB_surr {c : Int} (h1 : 55296 ≤ c) (h2 : c < 57344 ∨ 1114111 < c) : charB c = false := by
  unfold charB
  have e1 : (c == 9) = false := by simp; omega
  have e2 : (c == 10) = false := by simp; omega
  have e3 : (c == 13) = false := by simp; omega
  rw [e1, e2, e3]
  rcases h2 with h | h
  · have b1 : decide (c ≥ 55296) = true := by simp; omega
    have b2 : decide (c < 57344) = true := by simp; omega
    rw [b1, b2]
    simp
  · have b1 : decide (c ≤ 1114111) = false := by simp; omega
    rw [b1]
    simp
theorem decodeN_1 {N b0 b1 b2 b3 : Nat} (h : b0 < 128) : decodeN N b0 b1 b2 b3 = (b0, 1) := by unfold decodeN; rw [if_pos h]
theorem decodeN_2 {N b0 b1 b2 b3 C : Nat} (h : b0 / 32 = 6) (hC : C = b0 % 32 * 64 + b1 % 64) : decodeN N b0 b1 b2 b3 = if 1 < N ∧ b1 / 64 = 2 then (if C ≥ 128 then (C, 2) else (65533, 1)) else (65533, 1) := by
  unfold decodeN
  rw [if_neg (by omega), ← hC]
  by_cases k : 1 < N ∧ b1 / 64 = 2
  · rw [if_pos ⟨h, k⟩, if_pos k]
  · rw [if_neg (fun q => k q.2), if_neg k, if_neg (fun q => by omega), if_neg (fun q => by omega)]
theorem decodeN_3 {N b0 b1 b2 b3 C : Nat} (h : b0 / 16 = 14) (hC : C = b0 % 16 * 4096 + b1 % 64 * 64 + b2 % 64) : decodeN N b0 b1 b2 b3 = if (1 < N ∧ b1 / 64 = 2) ∧ (2 < N ∧ b2 / 64 = 2) then (if C ≥ 2048 ∧ (C < 55296 ∨ (57344 ≤ C ∧ C ≤ 1114111)) then (C, 3) else (65533, 1)) else (65533, 1) := by
  unfold decodeN
  rw [if_neg (by omega), if_neg (fun q => by omega), ← hC]
  by_cases k : (1 < N ∧ b1 / 64 = 2) ∧ (2 < N ∧ b2 / 64 = 2)
  · rw [if_pos ⟨h, k⟩, if_pos k]
  · rw [if_neg (fun q => k q.2), if_neg k, if_neg (fun q => by omega)]
theorem decodeN_4 {N b0 b1 b2 b3 C : Nat} (h : b0 / 8 = 30) (hC : C = b0 % 8 * 262144 + b1 % 64 * 4096 + b2 % 64 * 64 + b3 % 64) : decodeN N b0 b1 b2 b3 = if (1 < N ∧ b1 / 64 = 2) ∧ (2 < N ∧ b2 / 64 = 2) ∧ (3 < N ∧ b3 / 64 = 2) then (if C ≥ 65536 ∧ (C < 55296 ∨ (57344 ≤ C ∧ C ≤ 1114111)) then (C, 4) else (65533, 1)) else (65533, 1) := by
  unfold decodeN
  rw [if_neg (by omega), if_neg (fun q => by omega), if_neg (fun q => by omega), ← hC]
  by_cases k : (1 < N ∧ b1 / 64 = 2) ∧ (2 < N ∧ b2 / 64 = 2) ∧ (3 < N ∧ b3 / 64 = 2)
  · rw [if_pos ⟨h, k⟩, if_pos k]
  · rw [if_neg (fun q => k q.2), if_neg k]
theorem decodeN_0 {N b0 b1 b2 b3 : Nat} (h1 : ¬ b0 < 128) (h2 : ¬ b0 / 32 = 6) (h3 : ¬ b0 / 16 = 14) (h4 : ¬ b0 / 8 = 30) : decodeN N b0 b1 b2 b3 = (65533, 1) := by
  unfold decodeN
  rw [if_neg h1, if_neg (fun q => h2 q.1), if_neg (fun q => h3 q.1), if_neg (fun q => h4 q.1)]
def Agree (o : Int × Int × Bool) (d : Nat × Nat) : Prop := ((o.2.2 && charB o.1) = (if d.1 = 65533 ∧ d.2 = 1 then false else charB (d.1 : Int))) ∧ (o.2.2 = true → charB o.1 = true → o.2.1 = (d.2 : Int))
theorem agree_bad {c n : Int} : Agree (c, n, false) (65533, 1) := ⟨by simp, by simp⟩
theorem agree_go {C n : Nat} (hn : n ≠ 1) : Agree ((C : Int), (n : Int), true) (C, n) := ⟨by simp [hn], fun _ _ => rfl⟩
theorem agree_surr {c n : Int} {b : Bool} (h : charB c = false) : Agree (c, n, b) (65533, 1) := ⟨by simp [h], fun _ h2 => by rw [h] at h2; cases h2⟩
theorem contB_eq (s : ByteArray) (i j : Nat) (h : i < s.size) : contB s (i + j) = true ↔ (j < s.size - i ∧ byt s (i + j) / 64 = 2) := by
  unfold contB
  simp only [Bool.and_eq_true, decide_eq_true_eq]
  constructor
  · rintro ⟨a, b⟩; exact ⟨by omega, b⟩
  · rintro ⟨a, b⟩; exact ⟨by omega, b⟩
theorem one_decode (s : ByteArray) (i : Nat) (hi : i < s.size) : Agree (one' s i) (Utf8.decode s i) := by
  rw [decode_N]
  have c1 := contB_eq s i 1 hi
  have c2 := contB_eq s i 2 hi
  have c3 := contB_eq s i 3 hi
  unfold one'
  by_cases h1 : byt s i < 128
  · rw [if_pos h1, decodeN_1 h1]
    refine ⟨?_, fun _ _ => rfl⟩
    rw [if_neg (by intro q; have := q.1; simp only at this; omega)]
    simp
  rw [if_neg h1]
  by_cases h2 : byt s i / 32 = 6
  · rw [if_pos h2]
    obtain ⟨C, hC⟩ : ∃ C, C = byt s i % 32 * 64 + byt s (i + 1) % 64 := ⟨_, rfl⟩
    rw [decodeN_2 h2 hC]
    have e : ((byt s i % 32 : Nat) : Int) * 64 + ((byt s (i + 1) % 64 : Nat) : Int) = (C : Int) := by omega
    rw [e]
    by_cases k1 : contB s (i + 1) = true
    · rw [if_pos k1, if_pos (c1.1 k1)]
      by_cases k : C ≥ 128
      · rw [if_pos k, decide_eq_true (by omega : ((C : Nat) : Int) ≥ 128)]
        exact agree_go (n := 2) (by decide)
      · rw [if_neg k, decide_eq_false (by omega : ¬ ((C : Nat) : Int) ≥ 128)]
        exact agree_bad
    · rw [if_neg k1, if_neg (fun q => k1 (c1.2 q))]
      exact agree_bad
  rw [if_neg h2]
  by_cases h3 : byt s i / 16 = 14
  · rw [if_pos h3]
    obtain ⟨C, hC⟩ : ∃ C, C = byt s i % 16 * 4096 + byt s (i + 1) % 64 * 64 + byt s (i + 2) % 64 := ⟨_, rfl⟩
    rw [decodeN_3 h3 hC]
    have e : (((byt s i % 16 : Nat) : Int) * 64 + ((byt s (i + 1) % 64 : Nat) : Int)) * 64 + ((byt s (i + 2) % 64 : Nat) : Int) = (C : Int) := by omega
    rw [e]
    by_cases k1 : contB s (i + 1) = true
    · rw [if_pos k1]
      by_cases k2 : contB s (i + 2) = true
      · rw [if_pos k2, if_pos ⟨c1.1 k1, c2.1 k2⟩]
        by_cases k : C ≥ 2048
        · rw [decide_eq_true (by omega : ((C : Nat) : Int) ≥ 2048)]
          by_cases kv : C < 55296 ∨ (57344 ≤ C ∧ C ≤ 1114111)
          · rw [if_pos ⟨k, kv⟩]
            exact agree_go (n := 3) (by decide)
          · rw [if_neg (fun q => kv q.2)]
            exact agree_surr (charB_surr (by omega) (by omega))
        · rw [if_neg (fun q => k q.1), decide_eq_false (by omega : ¬ ((C : Nat) : Int) ≥ 2048)]
          exact agree_bad
      · rw [if_neg k2, if_neg (fun q => k2 (c2.2 q.2))]
        exact agree_bad
    · rw [if_neg k1, if_neg (fun q => k1 (c1.2 q.1))]
      exact agree_bad
  rw [if_neg h3]
  by_cases h4 : byt s i / 8 = 30
  · rw [if_pos h4]
    obtain ⟨C, hC⟩ : ∃ C, C = byt s i % 8 * 262144 + byt s (i + 1) % 64 * 4096 + byt s (i + 2) % 64 * 64 + byt s (i + 3) % 64 := ⟨_, rfl⟩
    rw [decodeN_4 h4 hC]
    have e : ((((byt s i % 8 : Nat) : Int) * 64 + ((byt s (i + 1) % 64 : Nat) : Int)) * 64 + ((byt s (i + 2) % 64 : Nat) : Int)) * 64 + ((byt s (i + 3) % 64 : Nat) : Int) = (C : Int) := by omega
    rw [e]
    by_cases k1 : contB s (i + 1) = true
    · rw [if_pos k1]
      by_cases k2 : contB s (i + 2) = true
      · rw [if_pos k2]
        by_cases k3 : contB s (i + 3) = true
        · rw [if_pos k3, if_pos ⟨c1.1 k1, c2.1 k2, c3.1 k3⟩]
          by_cases k : C ≥ 65536
          · rw [decide_eq_true (by omega : ((C : Nat) : Int) ≥ 65536)]
            by_cases kv : C < 55296 ∨ (57344 ≤ C ∧ C ≤ 1114111)
            · rw [if_pos ⟨k, kv⟩]
              exact agree_go (n := 4) (by decide)
            · rw [if_neg (fun q => kv q.2)]
              exact agree_surr (charB_surr (by omega) (by omega))
          · rw [if_neg (fun q => k q.1), decide_eq_false (by omega : ¬ ((C : Nat) : Int) ≥ 65536)]
            exact agree_bad
        · rw [if_neg k3, if_neg (fun q => k3 (c3.2 q.2.2))]
          exact agree_bad
      · rw [if_neg k2, if_neg (fun q => k2 (c2.2 q.2.1))]
        exact agree_bad
    · rw [if_neg k1, if_neg (fun q => k1 (c1.2 q.1))]
      exact agree_bad
  rw [if_neg h4, decodeN_0 h1 h2 h3 h4]
  exact agree_bad
end Go.EvT
end
section
set_option maxRecDepth 100000
namespace Go.EvT
open Go.Ev Go Go.Lib
theorem width_le (s : ByteArray) (i : Nat) : (Utf8.decode s i).2 ≤ 4 := by
  rw [decode_N]
  unfold decodeN
  repeat' split
  all_goals simp
theorem chars_loop (K : Nat) (s : ByteArray) (hs : s.size ≤ 2000000) : ∀ (b n i : Nat) (w : List Int), b < n → s.size ≤ i + b → i ≤ s.size + 4 → w.length ≤ i →
    if vAll s b i then ∃ w' v', tariffref04_Chars.l3 (K + 5) s n w (i : Int) = some (.go (w', v')) ∧ w'.length ≤ 2000010 else tariffref04_Chars.l3 (K + 5) s n w (i : Int) = some (.ret ([], false))
  | _, 0, _, _, h, _, _, _ => by omega
  | 0, n + 1, i, w, _, hb, hi, hw => by
    have : vAll s 0 i = true := rfl
    rw [if_pos this]
    unfold tariffref04_Chars.l3
    have e1 : decide ((i : Int) < (s.size : Int)) = false := by simp; omega
    rw [e1]
    exact ⟨w, _, rfl, by omega⟩
  | b + 1, n + 1, i, w, hbn, hb, hi, hw => by
    unfold tariffref04_Chars.l3
    by_cases h : i < s.size
    · have e1 : decide ((i : Int) < (s.size : Int)) = true := by simp; omega
      obtain ⟨a1, a2⟩ := one_decode s i h
      have hwp := width_pos s i h
      have hwl := width_le s i
      rw [e1, if_pos rfl, one_eq K s i h hs]
      simp only [Option.bind_some, rchar_eq]
      simp only [vAll, h, if_true]
      have key : ((if (!(one' s i).2.2) = false then some (!charB (one' s i).1) else some true) : Option Bool) = some (!((one' s i).2.2 && charB (one' s i).1)) := by
        rcases Bool.eq_false_or_eq_true (one' s i).2.2 with q | q <;> simp [q]
      rw [key, a1]
      simp only [Option.bind_some]
      by_cases hbad : (Utf8.decode s i).1 = 65533 ∧ (Utf8.decode s i).2 = 1
      · rw [if_pos hbad, if_pos hbad]
        simp
      · rw [if_neg hbad, if_neg hbad]
        rw [if_neg hbad] at a1
        rcases Bool.eq_false_or_eq_true (charB ((Utf8.decode s i).1 : Int)) with q | q
        · rw [q] at a1
          simp only [Bool.and_eq_true] at a1
          have hn := a2 a1.1 a1.2
          rw [q, hn]
          simp only [Bool.not_true, Bool.false_eq_true, if_false, Bool.true_and]
          rw [if_pos ((room_iff _).2 (by simp; omega)), i64_small (by omega) (by omega), show (i : Int) + ((Utf8.decode s i).2 : Int) = ((i + (Utf8.decode s i).2 : Nat) : Int) by omega]
          exact chars_loop K s hs b n (i + (Utf8.decode s i).2) (w ++ [(i : Int)]) (by omega) (by omega) (by omega) (by simp; omega)
        · rw [q]
          simp
    · have e1 : decide ((i : Int) < (s.size : Int)) = false := by simp; omega
      have : vAll s (b + 1) i = true := by simp [vAll, h]
      rw [if_pos this, e1]
      exact ⟨w, _, rfl, by omega⟩
theorem rvalid_eq (k : Nat) (s : ByteArray) (hs : s.size ≤ 2000000) (hk : s.size + 10 ≤ k) : tariffref04_Valid k s = some (validText s) := by
  obtain ⟨K, rfl⟩ : ∃ K, k = K + 5 := ⟨k - 5, by omega⟩
  have h := chars_loop K s hs s.size (K + 5) 0 [] (by omega) (by omega) (by omega) (by simp)
  rw [valid_vAll]
  unfold tariffref04_Valid tariffref04_Chars
  rw [show ((0 : Nat) : Int) = (0 : Int) from rfl] at h
  rcases Bool.eq_false_or_eq_true (vAll s s.size 0) with q | q
  · rw [if_pos q] at h
    obtain ⟨w', v', h1, h2⟩ := h
    rw [h1, q]
    simp only [Option.bind_some]
    rw [if_pos ((room_iff _).2 (by simp; omega))]
    rfl
  · rw [if_neg (by rw [q]; decide)] at h
    rw [h, q]
    rfl
theorem valids_same (k : Nat) (s : ByteArray) (hs : s.size ≤ 2000000) (hk : s.size + 10 ≤ k) : chars_Valid s = tariffref04_Valid k s := by
  rw [rvalid_eq k s hs hk]
  rfl
end Go.EvT
end
section
set_option maxRecDepth 100000
namespace Go.EvT
open Go.Ev Go Go.Lib
theorem in37 {op : Int} (h1 : 1 ≤ op) (h2 : op ≤ 37) : op = 1 ∨ op = 2 ∨ op = 3 ∨ op = 4 ∨ op = 5 ∨ op = 6 ∨ op = 7 ∨ op = 8 ∨ op = 9 ∨ op = 10 ∨ op = 11 ∨ op = 12 ∨ op = 13 ∨ op = 14 ∨ op = 15 ∨ op = 16 ∨ op = 17 ∨ op = 18 ∨ op = 19 ∨ op = 20 ∨ op = 21 ∨ op = 22 ∨ op = 23 ∨ op = 24 ∨ op = 25 ∨ op = 26 ∨ op = 27 ∨ op = 28 ∨ op = 29 ∨ op = 30 ∨ op = 31 ∨ op = 32 ∨ op = 33 ∨ op = 34 ∨ op = 35 ∨ op = 36 ∨ op = 37 := by omega
def fitB (lo hi kids : Int) : Bool := decide (kids ≥ lo) && (hi == -1 || decide (kids ≤ hi))
def arity (op : Int) : Int × Int := (expr_arity op).getD (0, -2)
theorem arity_eq (op : Int) : expr_arity op = some (arity op) := by
  have ite_some : ∀ (c : Bool) (a b : Int) (X : Option (Int × Int)), (∃ y, X = some y) → ∃ y, (if c = true then some (a, b) else X) = some y := by
    intro c a b X h
    cases c
    · simpa using h
    · exact ⟨_, rfl⟩
  have : ∃ y, expr_arity op = some y := by
    unfold expr_arity
    iterate 37 refine ite_some _ _ _ _ ?_
    exact ⟨_, rfl⟩
  obtain ⟨y, hy⟩ := this
  unfold arity
  rw [hy]
  rfl
def fitsB (op kids : Int) : Bool := (arity op).2 != -2 && fitB (arity op).1 (arity op).2 kids
theorem fits_eq (a : Node) : expr_fits a = some (fitsB a.op a.kids) := by
  unfold expr_fits fitsB fitB
  rw [arity_eq]
  simp only [Option.bind_some]
  generalize arity a.op = r
  by_cases h1 : r.2 = -2
  · simp [h1]
  · by_cases h2 : a.kids ≥ r.1
    · by_cases h3 : r.2 = -1
      · simp [h2, h3]
      · have e1 : (r.2 == -1) = false := by simpa using h3
        have e2 : (r.2 != -2) = true := by simpa using h1
        simp [e1, e2, h2]
    · have e2 : (r.2 != -2) = true := by simpa using h1
      simp [e2, h2]
theorem kids_out (op kids : Int) (h : ¬ (1 ≤ op ∧ op ≤ 37)) : tariffref10_kids op kids = some false := by
  unfold tariffref10_kids
  have e1 : (decide (op ≥ 1) && decide (op ≤ 7)) = false := by
    rw [Bool.eq_false_iff]
    intro q
    simp at q
    omega
  have ne : ∀ c : Int, 1 ≤ c → c ≤ 37 → (op == c) = false := by
    intro c c1 c2
    simp
    omega
  have d1 : (if decide (op ≥ (1 : Int)) = true then some (decide (op ≤ (7 : Int))) else some false) = some false := by
    by_cases a : op ≥ 1
    · have : ¬ op ≤ 7 := by omega
      simp [a, this]
    · simp [a]
  have d2 : (if decide (op ≥ (28 : Int)) = true then some (decide (op ≤ (34 : Int))) else some false) = some false := by
    by_cases a : op ≥ 28
    · have : ¬ op ≤ 34 := by omega
      simp [a, this]
    · simp [a]
  have d3 : (if decide (op ≥ (9 : Int)) = true then some (decide (op ≤ (20 : Int))) else some false) = some false := by
    by_cases a : op ≥ 9
    · have : ¬ op ≤ 20 := by omega
      simp [a, this]
    · simp [a]
  rw [d1, d2, d3]
  simp only [ne 29 (by decide) (by decide), ne 8 (by decide) (by decide), ne 24 (by decide) (by decide), ne 37 (by decide) (by decide), ne 23 (by decide) (by decide), ne 35 (by decide) (by decide), ne 21 (by decide) (by decide), ne 22 (by decide) (by decide), ne 25 (by decide) (by decide), ne 26 (by decide) (by decide), ne 27 (by decide) (by decide), ne 36 (by decide) (by decide)]
  rfl
theorem arity_out (op : Int) (h : ¬ (1 ≤ op ∧ op ≤ 37)) : arity op = (0, -2) := by
  have ne : ∀ c : Int, 1 ≤ c → c ≤ 37 → (op == c) = false := by
    intro c c1 c2
    simp
    omega
  unfold arity expr_arity
  simp only [ne 1 (by decide) (by decide), ne 2 (by decide) (by decide), ne 3 (by decide) (by decide), ne 4 (by decide) (by decide), ne 5 (by decide) (by decide), ne 6 (by decide) (by decide), ne 7 (by decide) (by decide), ne 8 (by decide) (by decide), ne 9 (by decide) (by decide), ne 10 (by decide) (by decide), ne 11 (by decide) (by decide), ne 12 (by decide) (by decide), ne 13 (by decide) (by decide), ne 14 (by decide) (by decide), ne 15 (by decide) (by decide), ne 16 (by decide) (by decide), ne 17 (by decide) (by decide), ne 18 (by decide) (by decide), ne 19 (by decide) (by decide), ne 20 (by decide) (by decide), ne 21 (by decide) (by decide), ne 22 (by decide) (by decide), ne 23 (by decide) (by decide), ne 24 (by decide) (by decide), ne 25 (by decide) (by decide), ne 26 (by decide) (by decide), ne 27 (by decide) (by decide), ne 28 (by decide) (by decide), ne 29 (by decide) (by decide), ne 30 (by decide) (by decide), ne 31 (by decide) (by decide), ne 32 (by decide) (by decide), ne 33 (by decide) (by decide), ne 34 (by decide) (by decide), ne 35 (by decide) (by decide), ne 36 (by decide) (by decide), ne 37 (by decide) (by decide)]
  rfl
theorem kids_eq (op kids : Int) : tariffref10_kids op kids = some (fitsB op kids) := by
  by_cases h : 1 ≤ op ∧ op ≤ 37
  · have f0 : fitB 0 0 kids = (kids == 0) := by unfold fitB; rw [Bool.eq_iff_iff]; simp; omega
    have f1 : fitB 1 1 kids = (kids == 1) := by unfold fitB; rw [Bool.eq_iff_iff]; simp; omega
    have f2 : fitB 2 2 kids = (kids == 2) := by unfold fitB; rw [Bool.eq_iff_iff]; simp; omega
    have f3 : fitB 3 3 kids = (kids == 3) := by unfold fitB; rw [Bool.eq_iff_iff]; simp; omega
    have f8 : (if decide (kids ≥ (0 : Int)) = true then some (decide (kids ≤ (8 : Int))) else some false) = some (fitB 0 8 kids) := by
      unfold fitB
      by_cases a : kids ≥ 0 <;> simp [a]
    have fm : fitB 0 (-1) kids = decide (kids ≥ 0) := by unfold fitB; simp
    have fs : fitB 1 (-1) kids = decide (kids ≥ 1) := by unfold fitB; simp
    rcases in37 h.1 h.2 with rfl | rfl | rfl | rfl | rfl | rfl | rfl | rfl | rfl | rfl | rfl | rfl | rfl | rfl | rfl | rfl | rfl | rfl | rfl | rfl | rfl | rfl | rfl | rfl | rfl | rfl | rfl | rfl | rfl | rfl | rfl | rfl | rfl | rfl | rfl | rfl | rfl
    all_goals first
      | exact congrArg some f0.symm
      | exact congrArg some f1.symm
      | exact congrArg some f2.symm
      | exact congrArg some f3.symm
      | exact congrArg some fm.symm
      | exact congrArg some fs.symm
      | (show ((if decide (kids ≥ (0 : Int)) = true then some (decide (kids ≤ (8 : Int))) else some false) : Option Bool).bind (fun b11 => some b11) = _
         rw [f8]
         rfl)
  · rw [kids_out _ _ h]
    unfold fitsB
    rw [arity_out _ h]
    rfl
theorem wants_eq (op i : Int) : expr_wanted op i = tariffref10_wants op i := by
  unfold expr_wanted tariffref10_wants
  by_cases h1 : op = 27
  · simp [h1]
  · by_cases h2 : op = 36
    · simp [h2]
    · by_cases h3 : op = 37
      · simp [h3]
      · by_cases h4 : op = 23
        · simp [h4]
        · simp [h1, h2, h3, h4]
theorem sorts_eq (op : Int) (h1 : 1 ≤ op) (h2 : op ≤ 37) : expr_sortOf op = tariffref10_sort op := by
  rcases in37 h1 h2 with rfl | rfl | rfl | rfl | rfl | rfl | rfl | rfl | rfl | rfl | rfl | rfl | rfl | rfl | rfl | rfl | rfl | rfl | rfl | rfl | rfl | rfl | rfl | rfl | rfl | rfl | rfl | rfl | rfl | rfl | rfl | rfl | rfl | rfl | rfl | rfl | rfl
  all_goals rfl
end Go.EvT
end
section
set_option maxRecDepth 100000
namespace Go.EvT
open Go.Ev Go Go.Lib
def decZ (d : Dec) : Bool := (d.neg == false) && (((d.coef.hi == (0 : Int)) && ((d.coef.lo == (0 : Int)) && true)) && ((d.scale == (0 : Int)) && true))
def txtZ (s : ByteArray) : Bool := s.data.toList == (ByteArray.mk #[]).data.toList
def spanB (s : ByteArray) : Bool := s.data.toList == (ByteArray.mk #[91, 93]).data.toList || s.data.toList == (ByteArray.mk #[91, 41]).data.toList || s.data.toList == (ByteArray.mk #[40, 93]).data.toList || s.data.toList == (ByteArray.mk #[40, 41]).data.toList
structure NodeOk (n : Node) : Prop where
  coef : n.num.coef.Ok
  text : n.text.size ≤ 2000000
def restB (t : ByteArray) (d : Dec) (day : Int) : Bool := txtZ t && decZ d && day == 0
def fieldsB (n : Node) : Bool :=
  if n.op = 4 then n.num.form && !n.num.neg && restB n.text ⟨false, ⟨0, 0⟩, 0⟩ n.day
  else if n.op = 5 then validText n.text && decide ((n.text.size : Int) ≤ 1000) && restB (ByteArray.mk #[]) n.num n.day
  else if n.op = 6 then decide (n.day ≥ 1) && decide (n.day ≤ 3652059) && restB n.text n.num 0
  else if n.op = 7 ∨ n.op = 24 ∨ n.op = 25 ∨ n.op = 28 then nameB n.text && restB (ByteArray.mk #[]) n.num n.day
  else if n.op = 35 then spanB n.text && restB (ByteArray.mk #[]) n.num n.day
  else restB n.text n.num n.day
theorem rest_eq (t : ByteArray) (d : Dec) (day : Int) : ((((if (t.data.toList == (ByteArray.mk #[]).data.toList) = true then some ((d.neg == false) && (((d.coef.hi == (0 : Int)) && ((d.coef.lo == (0 : Int)) && true)) && ((d.scale == (0 : Int)) && true))) else some false) : Option Bool).bind fun b13 =>
    ((if b13 = true then some (day == (0 : Int)) else some false) : Option Bool).bind fun b14 => some b14)) = some (restB t d day) := by
  unfold restB txtZ decZ
  rcases Bool.eq_false_or_eq_true (t.data.toList == (ByteArray.mk #[]).data.toList) with q | q <;> rw [q]
  · simp only [if_true, Option.bind_some, Bool.true_and]
    generalize ((d.neg == false) && (((d.coef.hi == (0 : Int)) && ((d.coef.lo == (0 : Int)) && true)) && ((d.scale == (0 : Int)) && true))) = b
    cases b <;> simp
  · simp
theorem fields_eq (k : Nat) (n : Node) (hn : NodeOk n) (hk : n.text.size + 1000 ≤ k) : tariffref10_fields k n = some (fieldsB n) := by
  unfold tariffref10_fields fieldsB
  by_cases h4 : n.op = 4
  · have e : (n.op == (4 : Int)) = true := by simpa using h4
    rw [e, if_pos rfl, if_pos h4, rform_eq k (by omega) n.num hn.coef]
    simp only [Option.bind_some]
    cases hf : n.num.form <;> cases hg : n.num.neg <;> simp only [Bool.not_true, Bool.not_false, if_true, Bool.false_eq_true, if_false, Option.bind_some, Bool.true_and, Bool.false_and]
    all_goals first | rfl | exact rest_eq n.text ⟨false, ⟨0, 0⟩, 0⟩ n.day
  have e4 : (n.op == (4 : Int)) = false := by simpa using h4
  rw [e4, if_neg h4]
  simp only [Bool.false_eq_true, if_false]
  by_cases h5 : n.op = 5
  · have e : (n.op == (5 : Int)) = true := by simpa using h5
    rw [e, if_pos rfl, if_pos h5, rvalid_eq k n.text hn.text (by omega)]
    simp only [Option.bind_some]
    have e2 : decide ((n.text.size : Int) > 1000) = !decide ((n.text.size : Int) ≤ 1000) := by
      by_cases q : (n.text.size : Int) ≤ 1000
      · simp [q]
      · simp [q]; omega
    rw [e2]
    cases hv : validText n.text <;> rcases Bool.eq_false_or_eq_true (decide ((n.text.size : Int) ≤ 1000)) with q | q <;> rw [q] <;> simp only [Bool.not_true, Bool.not_false, if_true, Bool.false_eq_true, if_false, Option.bind_some, Bool.true_and, Bool.false_and]
    all_goals first | rfl | exact rest_eq (ByteArray.mk #[]) n.num n.day
  have e5 : (n.op == (5 : Int)) = false := by simpa using h5
  rw [e5, if_neg h5]
  simp only [Bool.false_eq_true, if_false]
  by_cases h6 : n.op = 6
  · have e : (n.op == (6 : Int)) = true := by simpa using h6
    rw [e, if_pos rfl, if_pos h6]
    unfold tariffref03_Is
    rcases Bool.eq_false_or_eq_true (decide (n.day ≥ 1)) with q | q <;> rcases Bool.eq_false_or_eq_true (decide (n.day ≤ 3652059)) with q' | q' <;> rw [q, q'] <;> simp only [Bool.not_true, Bool.not_false, if_true, Bool.false_eq_true, if_false, Option.bind_some, Bool.true_and, Bool.false_and]
    all_goals first | rfl | exact rest_eq n.text n.num 0
  have e6 : (n.op == (6 : Int)) = false := by simpa using h6
  rw [e6, if_neg h6]
  simp only [Bool.false_eq_true, if_false]
  by_cases hN : n.op = 7 ∨ n.op = 24 ∨ n.op = 25 ∨ n.op = 28
  · rw [if_pos hN]
    have ej : (if (n.op == (7 : Int)) = true then some (n.text, n.day, n.op, true, n.num) else if (n.op == (24 : Int)) = true then some (n.text, n.day, n.op, true, n.num) else if (n.op == (25 : Int)) = true then some (n.text, n.day, n.op, true, n.num) else some (n.text, n.day, n.op, (n.op == (28 : Int)), n.num)) = some (n.text, n.day, n.op, true, n.num) := by
      rcases hN with h | h | h | h <;> simp [h]
    rw [ej]
    simp only [Option.bind_some, if_true]
    rw [rname_eq k (by omega)]
    simp only [Option.bind_some]
    rcases Bool.eq_false_or_eq_true (nameB n.text) with q | q <;> rw [q] <;> simp only [Bool.not_true, Bool.not_false, if_true, Bool.false_eq_true, if_false, Option.bind_some, Bool.true_and, Bool.false_and]
    exact rest_eq (ByteArray.mk #[]) n.num n.day
  · rw [if_neg hN]
    have a7 : (n.op == (7 : Int)) = false := by simp; omega
    have a24 : (n.op == (24 : Int)) = false := by simp; omega
    have a25 : (n.op == (25 : Int)) = false := by simp; omega
    have a28 : (n.op == (28 : Int)) = false := by simp; omega
    rw [a7, a24, a25, a28]
    simp only [Option.bind_some, Bool.false_eq_true, if_false]
    by_cases h35 : n.op = 35
    · have e : (n.op == (35 : Int)) = true := by simpa using h35
      rw [e, if_pos rfl, if_pos h35]
      unfold spanB
      generalize (n.text.data.toList == (ByteArray.mk #[91, 93]).data.toList) = q1
      generalize (n.text.data.toList == (ByteArray.mk #[91, 41]).data.toList) = q2
      generalize (n.text.data.toList == (ByteArray.mk #[40, 93]).data.toList) = q3
      generalize (n.text.data.toList == (ByteArray.mk #[40, 41]).data.toList) = q4
      cases q1 <;> cases q2 <;> cases q3 <;> cases q4 <;> first | rfl | exact rest_eq (ByteArray.mk #[]) n.num n.day
    · have e : (n.op == (35 : Int)) = false := by simpa using h35
      rw [e, if_neg h35]
      exact rest_eq n.text n.num n.day
end Go.EvT
end
section
set_option maxRecDepth 100000
namespace Go.EvT
open Go.Ev Go Go.Lib
theorem plain_eq (k : Nat) (n : Node) (hn : NodeOk n) (hk : n.text.size + 1000 ≤ k) : ∃ p b, expr_plain k n = some (p, b) ∧ (b && restB p.text p.num p.day) = fieldsB n := by
  unfold expr_plain fieldsB
  by_cases h4 : n.op = 4
  · have e : (n.op == (4 : Int)) = true := by simpa using h4
    rw [e, if_pos rfl, if_pos h4, form_eq k (by omega) n.num hn.coef]
    refine ⟨⟨n.op, n.kids, n.text, ⟨false, ⟨0, 0⟩, 0⟩, n.day⟩, n.num.form && !n.num.neg, ?_, rfl⟩
    cases n.num.form <;> rfl
  have e4 : (n.op == (4 : Int)) = false := by simpa using h4
  rw [e4, if_neg h4]
  simp only [Bool.false_eq_true, if_false]
  by_cases h5 : n.op = 5
  · have e : (n.op == (5 : Int)) = true := by simpa using h5
    rw [e, if_pos rfl, if_pos h5]
    refine ⟨⟨n.op, n.kids, ByteArray.mk #[], n.num, n.day⟩, validText n.text && decide ((n.text.size : Int) ≤ 1000), ?_, rfl⟩
    unfold chars_Valid
    rcases Bool.eq_false_or_eq_true (decide ((n.text.size : Int) ≤ 1000)) with q | q <;> rw [q]
    · simp
    · simp
  have e5 : (n.op == (5 : Int)) = false := by simpa using h5
  rw [e5, if_neg h5]
  simp only [Bool.false_eq_true, if_false]
  by_cases h6 : n.op = 6
  · have e : (n.op == (6 : Int)) = true := by simpa using h6
    rw [e, if_pos rfl, if_pos h6]
    refine ⟨⟨n.op, n.kids, n.text, n.num, 0⟩, decide (n.day ≥ 1) && decide (n.day ≤ 3652059), ?_, rfl⟩
    rcases Bool.eq_false_or_eq_true (decide (n.day ≥ 1)) with q | q <;> rw [q] <;> simp
  have e6 : (n.op == (6 : Int)) = false := by simpa using h6
  rw [e6, if_neg h6]
  simp only [Bool.false_eq_true, if_false]
  by_cases hN : n.op = 7 ∨ n.op = 24 ∨ n.op = 25 ∨ n.op = 28
  · rw [if_pos hN]
    refine ⟨⟨n.op, n.kids, ByteArray.mk #[], n.num, n.day⟩, nameB n.text, ?_, rfl⟩
    rcases hN with h | h | h | h <;> simp [h, name_eq k (by omega)]
  · rw [if_neg hN]
    have a7 : (n.op == (7 : Int)) = false := by simp; omega
    have a24 : (n.op == (24 : Int)) = false := by simp; omega
    have a25 : (n.op == (25 : Int)) = false := by simp; omega
    have a28 : (n.op == (28 : Int)) = false := by simp; omega
    rw [a7, a24, a25, a28]
    simp only [Option.bind_some, Bool.false_eq_true, if_false]
    by_cases h35 : n.op = 35
    · have e : (n.op == (35 : Int)) = true := by simpa using h35
      rw [e, if_pos rfl, if_pos h35]
      refine ⟨⟨n.op, n.kids, ByteArray.mk #[], n.num, n.day⟩, spanB n.text, ?_, rfl⟩
      unfold spanB
      generalize (n.text.data.toList == (ByteArray.mk #[91, 93]).data.toList) = q1
      generalize (n.text.data.toList == (ByteArray.mk #[91, 41]).data.toList) = q2
      generalize (n.text.data.toList == (ByteArray.mk #[40, 93]).data.toList) = q3
      generalize (n.text.data.toList == (ByteArray.mk #[40, 41]).data.toList) = q4
      cases q1 <;> cases q2 <;> cases q3 <;> cases q4 <;> rfl
    · have e : (n.op == (35 : Int)) = false := by simpa using h35
      rw [e, if_neg h35]
      exact ⟨n, true, rfl, by simp⟩
end Go.EvT
end
section
set_option maxRecDepth 100000
namespace Go.EvT
open Go.Ev Go Go.Lib
def txtAt (nodes : List Node) (p : Int) : List UInt8 := match idx nodes p with
  | some n => n.text.data.toList
  | none => []
def InAt (nodes : List Node) (p : Int) : Prop := ∃ n, idx nodes p = some n
theorem txtAt_eq {nodes : List Node} {p : Int} {n : Node} (h : idx nodes p = some n) : n.text.data.toList = txtAt nodes p := by
  unfold txtAt
  rw [h]
theorem idx_nat {α : Type} (l : List α) (i : Nat) : idx l (i : Int) = l[i]? := by
  unfold idx
  rw [if_pos (by omega)]
  rfl
theorem unlike_inner (K : Nat) (v0 : List Node) (v1 v9 : List expr_thing) (v10 v11 : Int) (l : List expr_thing) (b : expr_thing) (hl : l.length ≤ 1000) (hb : InAt v0 b.at_) (hin : ∀ a ∈ l, InAt v0 a.at_) : ∀ (m n j : Nat), m = l.length - j → m < n → j ≤ l.length →
    expr_unlike.l5 K v0 v1 v9 v10 v11 l (l.length : Int) b n (j : Int) = if (l.drop j).any (fun a => txtAt v0 b.at_ == txtAt v0 a.at_) then some (.ret false) else some (.go (v0, v1, v9, v10, v11))
  | _, 0, _, _, h, _ => by omega
  | 0, n + 1, j, hm, _, hj => by
    have : j = l.length := by omega
    subst this
    unfold expr_unlike.l5
    simp
  | m + 1, n + 1, j, hm, hmn, hj => by
    have hlt : j < l.length := by omega
    obtain ⟨x, hx⟩ : ∃ x, l[j]? = some x := ⟨_, List.getElem?_eq_getElem hlt⟩
    obtain ⟨nb, hnb⟩ := hb
    obtain ⟨nx, hnx⟩ := hin x (List.mem_of_getElem? hx)
    unfold expr_unlike.l5
    have e1 : decide ((j : Int) < (l.length : Int)) = true := by simpa using hlt
    rw [e1, if_pos rfl, idx_nat, hx]
    simp only [Option.bind_some]
    rw [hnb]
    simp only [Option.bind_some]
    rw [hnx]
    simp only [Option.bind_some]
    rw [txtAt_eq hnb, txtAt_eq hnx, i64_small (by omega) (by omega), show (j : Int) + 1 = ((j + 1 : Nat) : Int) by omega, unlike_inner K v0 v1 v9 v10 v11 l b hl ⟨nb, hnb⟩ hin m n (j + 1) (by omega) (by omega) (by omega), drop_cons hx, List.any_cons]
    rcases Bool.eq_false_or_eq_true (txtAt v0 b.at_ == txtAt v0 x.at_) with q | q <;> rw [q] <;> simp
def dupFrom (ts : List (List UInt8)) : Nat → Nat → Bool
  | 0, _ => false
  | b + 1, i => match ts[i]? with
    | some t => (ts.take i).any (fun u => t == u) || dupFrom ts b (i + 1)
    | none => false
theorem unlike_outer (K : Nat) (v0 : List Node) (l : List expr_thing) (hl : l.length ≤ 1000) (hin : ∀ a ∈ l, InAt v0 a.at_) (hK : l.length < K) : ∀ (b n i : Nat), b = l.length - i → b < n → i ≤ l.length →
    expr_unlike.l2 K n v0 l l (l.length : Int) (i : Int) = if dupFrom (l.map fun a => txtAt v0 a.at_) b i then some (.ret false) else some (.go ())
  | _, 0, _, _, h, _ => by omega
  | 0, n + 1, i, hb, _, hi => by
    have : i = l.length := by omega
    subst this
    unfold expr_unlike.l2
    simp [dupFrom]
  | b + 1, n + 1, i, hb, hbn, hi => by
    have hlt : i < l.length := by omega
    obtain ⟨x, hx⟩ : ∃ x, l[i]? = some x := ⟨_, List.getElem?_eq_getElem hlt⟩
    unfold expr_unlike.l2
    have e1 : decide ((i : Int) < (l.length : Int)) = true := by simpa using hlt
    rw [e1, if_pos rfl, idx_nat, hx]
    simp only [Option.bind_some]
    rw [if_pos ⟨by omega, by omega, by omega⟩]
    have ht : ((i : Int)).toNat = i := rfl
    rw [ht]
    have hi' := unlike_inner K v0 l l (l.length : Int) (i : Int) (l.take i) x (by simp; omega) (hin x (List.mem_of_getElem? hx)) (fun a ha => hin a (List.mem_of_mem_take ha)) (l.take i).length K 0 rfl (by simp; omega) (Nat.zero_le _)
    rw [show ((0 : Nat) : Int) = (0 : Int) from rfl, List.drop_zero] at hi'
    rw [hi']
    have hm : (l.map fun a => txtAt v0 a.at_)[i]? = some (txtAt v0 x.at_) := by rw [List.getElem?_map, hx]; rfl
    simp only [dupFrom, hm]
    have hany : ((l.map fun a => txtAt v0 a.at_).take i).any (fun u => txtAt v0 x.at_ == u) = (l.take i).any (fun a => txtAt v0 x.at_ == txtAt v0 a.at_) := by
      rw [← List.map_take, List.any_map]
      rfl
    rw [hany]
    rcases Bool.eq_false_or_eq_true ((l.take i).any (fun a => txtAt v0 x.at_ == txtAt v0 a.at_)) with q | q <;> rw [q]
    · simp
    · simp only [Bool.false_eq_true, if_false, Option.bind_some, Bool.false_or]
      rw [i64_small (by omega) (by omega), show (i : Int) + 1 = ((i + 1 : Nat) : Int) by omega]
      exact unlike_outer K v0 l hl hin hK b n (i + 1) (by omega) (by omega) (by omega)
theorem unlike_eq (K : Nat) (v0 : List Node) (l : List expr_thing) (hl : l.length ≤ 1000) (hin : ∀ a ∈ l, InAt v0 a.at_) (hK : l.length < K) : expr_unlike K v0 l = some (!dupFrom (l.map fun a => txtAt v0 a.at_) l.length 0) := by
  have h := unlike_outer K v0 l hl hin hK l.length K 0 rfl hK (Nat.zero_le _)
  unfold expr_unlike
  rw [show (0 : Int) = ((0 : Nat) : Int) from rfl, h]
  cases dupFrom (l.map fun a => txtAt v0 a.at_) l.length 0 <;> rfl
end Go.EvT
end
section
set_option maxRecDepth 100000
namespace Go.EvT
open Go.Ev Go Go.Lib
theorem twice_inner (K : Nat) (v0 : List Node) (l : List Int) (i : Nat) (x : Int) (hx : l[i]? = some x) (hl : l.length ≤ 1000) (hin : ∀ p ∈ l, InAt v0 p) : ∀ (m n j : Nat), m = i - j → m < n → j ≤ i →
    tariffref10_twice.l5 K v0 l (i : Int) n (j : Int) = if ((l.take i).drop j).any (fun p => txtAt v0 x == txtAt v0 p) then some (.ret true) else some (.go (v0, l, (i : Int)))
  | _, 0, _, _, h, _ => by omega
  | 0, n + 1, j, hm, _, hj => by
    have : j = i := by omega
    subst this
    unfold tariffref10_twice.l5
    have e0 : (l.take j).drop j = [] := List.drop_eq_nil_of_le (by simp; omega)
    rw [e0]
    simp
  | m + 1, n + 1, j, hm, hmn, hj => by
    have hlt : j < i := by omega
    have hil : i < l.length := getElem?_lt hx
    obtain ⟨y, hy⟩ : ∃ y, l[j]? = some y := ⟨_, List.getElem?_eq_getElem (by omega)⟩
    obtain ⟨nx, hnx⟩ := hin x (List.mem_of_getElem? hx)
    obtain ⟨ny, hny⟩ := hin y (List.mem_of_getElem? hy)
    have hy' : (l.take i)[j]? = some y := by rw [List.getElem?_take_of_lt hlt, hy]
    unfold tariffref10_twice.l5
    have e1 : decide ((j : Int) < (i : Int)) = true := by simpa using hlt
    rw [e1, if_pos rfl, idx_nat, hx]
    simp only [Option.bind_some]
    rw [hnx]
    simp only [Option.bind_some]
    rw [idx_nat, hy]
    simp only [Option.bind_some]
    rw [hny]
    simp only [Option.bind_some]
    rw [txtAt_eq hnx, txtAt_eq hny, i64_small (by omega) (by omega), show (j : Int) + 1 = ((j + 1 : Nat) : Int) by omega, twice_inner K v0 l i x hx hl hin m n (j + 1) (by omega) (by omega) (by omega), drop_cons hy', List.any_cons]
    rcases Bool.eq_false_or_eq_true (txtAt v0 x == txtAt v0 y) with q | q <;> rw [q] <;> simp
theorem twice_outer (K : Nat) (v0 : List Node) (l : List Int) (hl : l.length ≤ 1000) (hin : ∀ p ∈ l, InAt v0 p) (hK : l.length < K) : ∀ (b n i : Nat), b = l.length - i → b < n → i ≤ l.length →
    tariffref10_twice.l2 K n v0 l (i : Int) = if dupFrom (l.map (txtAt v0)) b i then some (.ret true) else some (.go ())
  | _, 0, _, _, h, _ => by omega
  | 0, n + 1, i, hb, _, hi => by
    have : i = l.length := by omega
    subst this
    unfold tariffref10_twice.l2
    simp [dupFrom]
  | b + 1, n + 1, i, hb, hbn, hi => by
    have hlt : i < l.length := by omega
    obtain ⟨x, hx⟩ : ∃ x, l[i]? = some x := ⟨_, List.getElem?_eq_getElem hlt⟩
    unfold tariffref10_twice.l2
    have e1 : decide ((i : Int) < (l.length : Int)) = true := by simpa using hlt
    rw [e1, if_pos rfl]
    have hi' := twice_inner K v0 l i x hx hl hin i K 0 rfl (by omega) (Nat.zero_le _)
    rw [show ((0 : Nat) : Int) = (0 : Int) from rfl, List.drop_zero] at hi'
    rw [hi']
    have hm : (l.map (txtAt v0))[i]? = some (txtAt v0 x) := by rw [List.getElem?_map, hx]; rfl
    simp only [dupFrom, hm]
    have hany : ((l.map (txtAt v0)).take i).any (fun u => txtAt v0 x == u) = (l.take i).any (fun p => txtAt v0 x == txtAt v0 p) := by
      rw [← List.map_take, List.any_map]
      rfl
    rw [hany]
    rcases Bool.eq_false_or_eq_true ((l.take i).any (fun p => txtAt v0 x == txtAt v0 p)) with q | q <;> rw [q]
    · simp
    · simp only [Bool.false_eq_true, if_false, Option.bind_some, Bool.false_or]
      rw [i64_small (by omega) (by omega), show (i : Int) + 1 = ((i + 1 : Nat) : Int) by omega]
      exact twice_outer K v0 l hl hin hK b n (i + 1) (by omega) (by omega) (by omega)
theorem twice_names (K : Nat) (v0 : List Node) (l : List Int) (hl : l.length ≤ 1000) (hin : ∀ p ∈ l, InAt v0 p) (hK : l.length < K) : tariffref10_twice K v0 l = some (dupFrom (l.map (txtAt v0)) l.length 0) := by
  have h := twice_outer K v0 l hl hin hK l.length K 0 rfl hK (Nat.zero_le _)
  unfold tariffref10_twice
  rw [show (0 : Int) = ((0 : Nat) : Int) from rfl, h]
  cases dupFrom (l.map (txtAt v0)) l.length 0 <;> rfl
end Go.EvT
end
section
set_option maxRecDepth 100000
namespace Go.EvT
open Go.Ev Go Go.Lib
def wantI (op i : Int) : Int := (expr_wanted op i).getD 1
theorem wantI_eq (op i : Int) : expr_wanted op i = some (wantI op i) := by
  unfold wantI expr_wanted
  by_cases h1 : op = 27
  · simp [h1]
  · by_cases h2 : op = 36
    · simp [h2]
    · by_cases h3 : op = 37
      · simp [h3]
      · by_cases h4 : op = 23
        · by_cases h5 : i = 1 <;> simp [h4, h5]
        · simp [h1, h2, h3, h4]
def sortI (op : Int) : Int := (expr_sortOf op).getD 1
theorem sortI_eq (op : Int) : expr_sortOf op = some (sortI op) := by
  unfold sortI expr_sortOf
  by_cases h1 : op ≤ 27
  · simp [h1]
  · by_cases h2 : op = 28
    · simp [h2]
    · by_cases h3 : op = 29
      · simp [h3]
      · by_cases h4 : op = 37
        · simp [h4]
        · by_cases h5 : op = 36
          · simp [h5]
          · simp [h1, h2, h3, h4, h5]
def sortsOk (op : Int) : Nat → List (Int × Int) → Bool
  | _, [] => true
  | j, a :: r => a.1 == wantI op j && sortsOk op (j + 1) r
def dmax : Int → List (Int × Int) → Int
  | m, [] => m
  | m, a :: r => dmax (if a.2 > m then a.2 else m) r
def sd (a : expr_thing) : Int × Int := (a.sort_, a.depth)
theorem check_parts (K : Nat) (o11 n11 : Int) (cut kids : Nat) (v0 : List Node) (v1 : Bool) (w5 : List expr_thing) (v6 v7 : Int) (v18 : List Node) (v19 v20 : Int) (b8 : Node) (hw : w5.length = cut + kids) (hl : w5.length ≤ 1000) : ∀ (m n j : Nat) (d : Int), m = kids - j → m < n → j ≤ kids →
    expr_Check.l14 K o11 n11 (cut : Int) (kids : Int) v0 v1 w5 v6 v7 v18 v19 v20 (kids : Int) b8 n d (j : Int) =
      if sortsOk b8.op j ((w5.drop (cut + j)).map sd) then some (.go (o11, n11, v0, v1, w5, v6, v7, dmax d ((w5.drop (cut + j)).map sd), v18, v19, v20, b8)) else some (.ret 2)
  | _, 0, _, _, _, h, _ => by omega
  | 0, n + 1, j, d, hm, _, hj => by
    have : j = kids := by omega
    subst this
    unfold expr_Check.l14
    have e0 : w5.drop (cut + j) = [] := List.drop_eq_nil_of_le (by omega)
    rw [e0]
    simp [sortsOk, dmax]
  | m + 1, n + 1, j, d, hm, hmn, hj => by
    have hlt : j < kids := by omega
    obtain ⟨x, hx⟩ : ∃ x, w5[cut + j]? = some x := ⟨_, List.getElem?_eq_getElem (by omega)⟩
    unfold expr_Check.l14
    have e1 : decide ((j : Int) < (kids : Int)) = true := by simpa using hlt
    rw [e1, if_pos rfl, if_pos ⟨by omega, by omega⟩, show (cut : Int) + (j : Int) = ((cut + j : Nat) : Int) by omega, idx_nat, hx]
    simp only [Option.bind_some]
    rw [wantI_eq]
    simp only [Option.bind_some]
    rw [drop_cons hx, List.map_cons]
    rcases Decidable.em (x.sort_ = wantI b8.op (j : Int)) with q | q
    · have q1 : (x.sort_ != wantI b8.op (j : Int)) = false := by simpa using q
      have q2 : ((sd x).1 == wantI b8.op (j : Int)) = true := by simpa [sd] using q
      have hs : sortsOk b8.op j (sd x :: (w5.drop (cut + j + 1)).map sd) = sortsOk b8.op (j + 1) ((w5.drop (cut + j + 1)).map sd) := by simp only [sortsOk, q2, Bool.true_and]
      rw [hs, q1, i64_small (by omega) (by omega), show (j : Int) + 1 = ((j + 1 : Nat) : Int) by omega]
      simp only [Bool.false_eq_true, if_false]
      rw [check_parts K o11 n11 cut kids v0 v1 w5 v6 v7 v18 v19 v20 b8 hw hl m n (j + 1) _ (by omega) (by omega) (by omega)]
      rfl
    · have q1 : (x.sort_ != wantI b8.op (j : Int)) = true := by simpa using q
      have q2 : ((sd x).1 == wantI b8.op (j : Int)) = false := by simpa [sd] using q
      have hs : sortsOk b8.op j (sd x :: (w5.drop (cut + j + 1)).map sd) = false := by simp only [sortsOk, q2, Bool.false_and]
      rw [hs, q1]
      simp
end Go.EvT
end
section
set_option maxRecDepth 100000
namespace Go.EvT
open Go.Ev Go Go.Lib
def opAt (v0 : List Node) (q : Nat) : Int := (v0[q]?).elim 0 Node.op
def ent (v0 : List Node) (w : List Int) (q : Nat) : Int × Int := (sortI (opAt v0 q), (w[q]?).getD 0)
theorem rwant_eq (op i : Int) : tariffref10_wants op i = some (wantI op i) := by rw [← wants_eq, wantI_eq]
theorem rsort_eq {op : Int} (h1 : 1 ≤ op) (h2 : op ≤ 37) : tariffref10_sort op = some (sortI op) := by rw [← sorts_eq op h1 h2, sortI_eq]
theorem rcheck_parts (K : Nat) (v0 : List Node) (v1 : Bool) (v5 : List (List Int)) (v9 : Int) (i : Nat) (qs : List Nat) (b : Node) (w : List Int) (hb : v0[i]? = some b) (h5 : v5[i]? = some (qs.map fun (q : Nat) => (q : Int))) (hl : qs.length ≤ 1000)
    (hq : ∀ q ∈ qs, q < i) (hop : ∀ q ∈ qs, 1 ≤ opAt v0 q ∧ opAt v0 q ≤ 37) (hi : i < w.length) (hv : i < v0.length) : ∀ (m n j : Nat) (d : Int), m = qs.length - j → m < n → j ≤ qs.length →
    tariffref10_Check.l14 K v0 v1 v5 v9 (i : Int) n (w.set i d) (j : Int) =
      if sortsOk b.op j ((qs.drop j).map (ent v0 w)) then some (.go (v0, v1, v5, w.set i (dmax d ((qs.drop j).map (ent v0 w))), v9, (i : Int))) else some (.ret 2)
  | _, 0, _, _, _, h, _ => by omega
  | 0, n + 1, j, d, hm, _, hj => by
    have : j = qs.length := by omega
    subst this
    unfold tariffref10_Check.l14
    rw [idx_nat, h5]
    simp [sortsOk, dmax]
  | m + 1, n + 1, j, d, hm, hmn, hj => by
    have hlt : j < qs.length := by omega
    obtain ⟨q, hqj⟩ : ∃ q, qs[j]? = some q := ⟨_, List.getElem?_eq_getElem hlt⟩
    have hqm := List.mem_of_getElem? hqj
    have hqi := hq q hqm
    obtain ⟨o1, o2⟩ := hop q hqm
    obtain ⟨nd, hnd⟩ : ∃ nd, v0[q]? = some nd := ⟨_, List.getElem?_eq_getElem (by omega)⟩
    obtain ⟨x, hx⟩ : ∃ x, w[q]? = some x := ⟨_, List.getElem?_eq_getElem (by omega)⟩
    have hopn : opAt v0 q = nd.op := by unfold opAt; rw [hnd]; rfl
    rw [hopn] at o1 o2
    have hpj : (qs.map fun (q : Nat) => (q : Int))[j]? = some (q : Int) := by rw [List.getElem?_map, hqj]; rfl
    have hwq : (w.set i d)[q]? = some x := by rw [List.getElem?_set_ne (by omega), hx]
    have hwi : (w.set i d)[i]? = some d := by rw [List.getElem?_set_self hi]
    unfold tariffref10_Check.l14
    simp only [idx_nat, h5, hpj, hnd, hb, hwq, hwi, Option.bind_some, List.length_map, List.length_set]
    have e1 : decide ((j : Int) < (qs.length : Int)) = true := by simpa using hlt
    rw [e1, if_pos rfl, rsort_eq o1 o2]
    simp only [Option.bind_some]
    rw [rwant_eq]
    simp only [Option.bind_some]
    rw [drop_cons hqj, List.map_cons]
    have hent : ent v0 w q = (sortI nd.op, x) := by unfold ent; rw [hopn, hx]; rfl
    rcases Decidable.em (sortI nd.op = wantI b.op (j : Int)) with q0 | q0
    · have q1 : (sortI nd.op != wantI b.op (j : Int)) = false := by simpa using q0
      have q2 : ((ent v0 w q).1 == wantI b.op (j : Int)) = true := by rw [hent]; simpa using q0
      have hs : sortsOk b.op j (ent v0 w q :: (qs.drop (j + 1)).map (ent v0 w)) = sortsOk b.op (j + 1) ((qs.drop (j + 1)).map (ent v0 w)) := by simp only [sortsOk, q2, Bool.true_and]
      rw [hs, q1]
      simp only [Bool.false_eq_true, if_false]
      rw [if_pos ⟨by omega, by omega⟩, if_pos ⟨by omega, by omega⟩, if_pos ⟨by omega, by omega⟩, i64_small (by omega) (by omega), show (j : Int) + 1 = ((j + 1 : Nat) : Int) by omega, show ((i : Int)).toNat = i from rfl, List.set_set]
      rw [rcheck_parts K v0 v1 v5 v9 i qs b w hb h5 hl hq hop hi hv m n (j + 1) _ (by omega) (by omega) (by omega)]
      simp only [dmax, hent]
    · have q1 : (sortI nd.op != wantI b.op (j : Int)) = true := by simpa using q0
      have q2 : ((ent v0 w q).1 == wantI b.op (j : Int)) = false := by rw [hent]; simpa using q0
      have hs : sortsOk b.op j (ent v0 w q :: (qs.drop (j + 1)).map (ent v0 w)) = false := by simp only [sortsOk, q2, Bool.false_and]
      rw [hs, q1]
      simp
end Go.EvT
end
