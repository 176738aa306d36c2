/- A part of the proof in YtlpfolhckkcopaaGreatDoorApart7: lemmas and contracts; nothing is claimed here. -/
import Derived.Test.YtlpfolhckkcopaaGreatDoorApart4
import Derived.Laws.Bits64
import Derived.Laws.BitsLemmas
import Derived.Lib.RuneCountTail
import Derived.Lib.ValidLaws
set_option linter.unusedVariables false
set_option linter.unusedSimpArgs false
section
set_option maxRecDepth 100000
namespace Go.EvT
open Go.Proofs Go.Ev
def tariffref07_Count.S : Sig := ⟨[.d (.int .i64)], []⟩
def tariffref07_Count.P : List PM := [.d (.st 3), .d (.int .i64)]
def tariffref07_Same.S : Sig := ⟨[.d .bool], []⟩
def tariffref07_Same.P : List PM := [.d (.st 3), .d (.st 3)]
def tariffref12_SameAll.S : Sig := ⟨[.d .bool], []⟩
def tariffref12_SameAll.P : List PM := [.d (.sl (.st 3)), .d (.sl (.st 3))]
def tarifflaw12_known.S : Sig := ⟨[.d .bool], []⟩
def tarifflaw12_known.P : List PM := []
def tariffref10_kids.S : Sig := ⟨[.d .bool], []⟩
def tariffref10_kids.P : List PM := [.d (.int .i64), .d (.int .i64)]
def tariffref10_stack.S : Sig := ⟨[.d (.sl (.sl (.int .i64))), .d (.sl (.int .i64)), .d .bool], []⟩
def tariffref10_stack.P : List PM := [.d (.sl (.st 0)), .d (.int .i64)]
def tariffref01_twice.S : Sig := ⟨[.d (.sl (.int .i64))], []⟩
def tariffref01_twice.P : List PM := [.d (.sl (.int .i64)), .d (.int .i64)]
def tariffref01_words.S : Sig := ⟨[.d (.sl (.int .i64))], []⟩
def tariffref01_words.P : List PM := [.d (.sl (.int .u64))]
def tariffref01_Of.S : Sig := ⟨[.d (.sl (.int .i64))], []⟩
def tariffref01_Of.P : List PM := [.d (.st 2)]
def tariffref02_Form.S : Sig := ⟨[.d .bool], []⟩
def tariffref02_Form.P : List PM := [.d (.st 1)]
def tariffref04_tail.S : Sig := ⟨[.d (.int .i64), .d .bool], []⟩
def tariffref04_tail.P : List PM := [.d .str, .d (.int .i64)]
def tariffref04_one.S : Sig := ⟨[.d (.int .i64), .d (.int .i64), .d .bool], []⟩
def tariffref04_one.P : List PM := [.d .str, .d (.int .i64)]
def tariffref04_Char.S : Sig := ⟨[.d .bool], []⟩
def tariffref04_Char.P : List PM := [.d (.int .i64)]
def tariffref04_Chars.S : Sig := ⟨[.d (.sl (.int .i64)), .d .bool], []⟩
def tariffref04_Chars.P : List PM := [.d .str]
def tariffref04_Valid.S : Sig := ⟨[.d .bool], []⟩
def tariffref04_Valid.P : List PM := [.d .str]
def tariffref03_Is.S : Sig := ⟨[.d .bool], []⟩
def tariffref03_Is.P : List PM := [.d (.int .i64)]
def tariffref04_Letter.S : Sig := ⟨[.d .bool], []⟩
def tariffref04_Letter.P : List PM := [.d (.int .u8)]
def tariffref04_Word.S : Sig := ⟨[.d .bool], []⟩
def tariffref04_Word.P : List PM := [.d .str]
def tariffref04_Digit.S : Sig := ⟨[.d .bool], []⟩
def tariffref04_Digit.P : List PM := [.d (.int .u8)]
def tariffref04_Name.S : Sig := ⟨[.d .bool], []⟩
def tariffref04_Name.P : List PM := [.d .str]
def tariffref10_fields.S : Sig := ⟨[.d .bool], []⟩
def tariffref10_fields.P : List PM := [.d (.st 0)]
def tariffref10_sort.S : Sig := ⟨[.d (.int .i64)], []⟩
def tariffref10_sort.P : List PM := [.d (.int .i64)]
def tariffref10_wants.S : Sig := ⟨[.d (.int .i64)], []⟩
def tariffref10_wants.P : List PM := [.d (.int .i64), .d (.int .i64)]
def tariffref10_twice.S : Sig := ⟨[.d .bool], []⟩
def tariffref10_twice.P : List PM := [.d (.sl (.st 0)), .d (.sl (.int .i64))]
def tariffref10_Check.S : Sig := ⟨[.d (.int .i64)], []⟩
def tariffref10_Check.P : List PM := [.d (.sl (.st 0)), .d .bool]
def tariffref10_Places.S : Sig := ⟨[.d (.sl (.sl (.int .i64)))], []⟩
def tariffref10_Places.P : List PM := [.d (.sl (.st 0))]
def tariffref12_isTest.S : Sig := ⟨[.d .bool], []⟩
def tariffref12_isTest.P : List PM := [.d (.int .i64)]
def tariffref07_Truth.S : Sig := ⟨[.d (.st 3)], []⟩
def tariffref07_Truth.P : List PM := [.d .bool]
def tariffref02_Flip.S : Sig := ⟨[.d (.st 1)], []⟩
def tariffref02_Flip.P : List PM := [.d (.st 1)]
def tariffref12_literal.S : Sig := ⟨[.d (.st 3), .d .bool], []⟩
def tariffref12_literal.P : List PM := [.d (.sl (.st 0)), .d (.sl (.sl (.int .i64))), .d (.int .i64)]
def tariffref12_ends.S : Sig := ⟨[.d (.sl (.st 3)), .d .bool], []⟩
def tariffref12_ends.P : List PM := [.d (.sl (.st 0))]
def tariffref12_Plain.S : Sig := ⟨[.d .bool], []⟩
def tariffref12_Plain.P : List PM := [.d (.sl (.st 0))]
def tariffref12_DocPlain.S : Sig := ⟨[.d .bool, .d (.int .i64)], []⟩
def tariffref12_DocPlain.P : List PM := [.d (.sl (.st 0))]
def unary_Plain.S : Sig := ⟨[.d .bool, .d (.int .i64)], []⟩
def unary_Plain.P : List PM := [.d (.sl (.st 0))]
def tariffref12_DocEnds.S : Sig := ⟨[.d (.sl (.st 3)), .d (.int .i64)], []⟩
def tariffref12_DocEnds.P : List PM := [.d (.sl (.st 0))]
def tariffref12_Only.S : Sig := ⟨[.d (.sl (.st 3)), .d .bool], []⟩
def tariffref12_Only.P : List PM := [.d (.sl (.st 0))]
def tariffref12_DocOnly.S : Sig := ⟨[.d (.sl (.st 3)), .d .bool, .d (.int .i64)], []⟩
def tariffref12_DocOnly.P : List PM := [.d (.sl (.st 0))]
def unary_Only.S : Sig := ⟨[.row (.sl (.st 3)), .d .bool, .d (.int .i64)], []⟩
def unary_Only.P : List PM := [.d (.sl (.st 0))]
def tariffref07_Count.l7 (k : Nat) (v1 : Int) (v7 : List Val) : Nat → Int → (List (List Val)) → Int → Option (Int × Int × (List (List Val)))
 | 0, _, _, _ => none
 | n + 1, v5, w6, v8 =>
 ((if (decide (v8 < (v7.length : Int))) = true then
 some (decide (v5 ≤ v1))
 else some false) : Option Bool).bind fun b3 =>
 if b3 = true then
 (idx v7 v8).bind fun e4 =>
 if (decide ((e4.list.length : Int) > (0 : Int))) = true then
 (idx v7 v8).bind fun e5 =>
 if room ((w6.length + ([e5.list] : List (List Val)).length) * 24) then
 tariffref07_Count.l7 k v1 v7 n (IntKind.wrap .i64 (v5 + (1 : Int))) (w6 ++ ([e5.list] : List (List Val))) (IntKind.wrap .i64 (v8 + (1 : Int)))
 else none
 else
 tariffref07_Count.l7 k v1 v7 n (IntKind.wrap .i64 (v5 + (1 : Int))) w6 (IntKind.wrap .i64 (v8 + (1 : Int)))
 else
 some (v1, v5, w6)
def tariffref07_Count.l3 (k : Nat) : Nat → Int → Int → (List (List Val)) → Option (Int)
 | 0, _, _, _ => none
 | n + 1, v1, v5, w6 =>
 ((if (decide ((w6.length : Int) > (0 : Int))) = true then
 some (decide (v5 ≤ v1))
 else some false) : Option Bool).bind fun b1 =>
 if b1 = true then
 if 0 ≤ (IntKind.wrap .i64 ((w6.length : Int) - (1 : Int))) ∧ (IntKind.wrap .i64 ((w6.length : Int) - (1 : Int))) < (w6.length : Int) then
 (idx w6 (IntKind.wrap .i64 ((w6.length : Int) - (1 : Int)))).bind fun e2 =>
 if 0 ≤ (0 : Int) ∧ (0 : Int) ≤ (IntKind.wrap .i64 ((w6.length : Int) - (1 : Int))) ∧ (IntKind.wrap .i64 ((w6.length : Int) - (1 : Int))) ≤ (w6.length : Int) then
 (tariffref07_Count.l7 k v1 e2 k v5 (w6.take ((IntKind.wrap .i64 ((w6.length : Int) - (1 : Int)))).toNat) (0 : Int)).bind fun x6 =>
 tariffref07_Count.l3 k n x6.1 x6.2.1 x6.2.2
 else none
 else none
 else
 some v5
def tariffref07_Count (k : Nat) (a0 : Val) (a1 : Int) : Option (Int) :=
 (tariffref07_Count.l3 k k a1 (0 : Int) ([([a0] : List Val)] : List (List Val))).bind fun x7 =>
 some x7
def tariffref07_Count.u (k : Nat) (v : Val × Int) : Option (Int) := tariffref07_Count k v.1 v.2
def tariffref07_Count.G (k : Nat) : Ctx U := ⟨tyOf, bytesOf, fun f xs => none, fun f xs => none, fun d => false⟩
def tariffref07_Count.l7.L (k : Nat) : ELoop U := ⟨[.slot 1 (.int .i64), .slot 5 (.int .i64), .row 6 (.sl (.st 3)), .slot 7 (.sl (.st 3)), .slot 8 (.int .i64)], 2, [.slot 1 (.int .i64), .slot 5 (.int .i64), .row 6 (.sl (.st 3))], fun (v : Int × Int × (List (List Val)) × (List Val) × Int) => tariffref07_Count.l7 k v.1 v.2.2.2.1 k v.2.1 v.2.2.1 v.2.2.2.2⟩
def tariffref07_Count.l3.L (k : Nat) : ELoop U := ⟨[.slot 1 (.int .i64), .slot 5 (.int .i64), .row 6 (.sl (.st 3))], 0, [.slot 5 (.int .i64)], fun (v : Int × Int × (List (List Val))) => tariffref07_Count.l3 k k v.1 v.2.1 v.2.2⟩
def tariffref07_Count.H (k : Nat) : Hint U := ⟨[], fun i => if i == 60 then some (tariffref07_Count.l3.L k) else if i == 7726 then some (tariffref07_Count.l7.L k) else none, fun i => none, fun i => none⟩
theorem tariffref07_Count.l7.ok (k n : Nat) (v : Vars U (tariffref07_Count.l7.L k).ks) : loopT (tariffref07_Count.G k) (tariffref07_Count.H k) (pick [true, true, true, false, false, false, true, false, true, true, true, false, false] (bodyOf Tryz.f30)) 7726 (tariffref07_Count.l7.L k) n v = (fun (v : Int × Int × (List (List Val)) × (List Val) × Int) => tariffref07_Count.l7 k v.1 v.2.2.2.1 n v.2.1 v.2.2.1 v.2.2.2.2) v :=
  loopT_eq (tariffref07_Count.G k) (tariffref07_Count.H k) _ _ (tariffref07_Count.l7.L k) (fun n (v : Int × Int × (List (List Val)) × (List Val) × Int) => tariffref07_Count.l7 k v.1 v.2.2.2.1 n v.2.1 v.2.2.1 v.2.2.2.2) (fun _ => rfl) (fun n v => by kernel_rfl) n v
theorem tariffref07_Count.l3.ok (k n : Nat) (v : Vars U (tariffref07_Count.l3.L k).ks) : loopT (tariffref07_Count.G k) (tariffref07_Count.H k) (pick [true, true, true, false, false, false] (bodyOf Tryz.f30)) 60 (tariffref07_Count.l3.L k) n v = (fun (v : Int × Int × (List (List Val))) => tariffref07_Count.l3 k n v.1 v.2.1 v.2.2) v :=
  loopT_eq (tariffref07_Count.G k) (tariffref07_Count.H k) _ _ (tariffref07_Count.l3.L k) (fun n (v : Int × Int × (List (List Val))) => tariffref07_Count.l3 k n v.1 v.2.1 v.2.2) (fun _ => rfl) (fun n v => by kernel_rfl) n v
theorem tariffref07_Count.ev (k : Nat) (v : Val × Int) : evFn (tariffref07_Count.G k) (tariffref07_Count.H k) tariffref07_Count.S Tryz.f30 (encA tariffref07_Count.P v) = tariffref07_Count.u k v := by kernel_rfl
theorem tariffref07_Count.fns : Fns Tryz.prog 30 Tryz.f30 tariffref07_Count.P := ⟨Tryz.func30, by kernel_rfl⟩
theorem tariffref07_Count.loops (k : Nat) : LoopsOk (tariffref07_Count.G k) (tariffref07_Count.H k) (bodyOf Tryz.f30) 1 := loops_of (ps := [(60, pick [true, true, true, false, false, false] (bodyOf Tryz.f30)), (7726, pick [true, true, true, false, false, false, true, false, true, true, true, false, false] (bodyOf Tryz.f30))]) (by kernel_rfl) ⟨loopT_ok rfl fun v x hx => ⟨k, (tariffref07_Count.l3.ok k k v).trans hx⟩, ⟨loopT_ok rfl fun v x hx => ⟨k, (tariffref07_Count.l7.ok k k v).trans hx⟩, trivial⟩⟩
theorem tariffref07_Count.call (k : Nat) : FnC Tryz.prog U Lay 30 tariffref07_Count.P tariffref07_Count.S (tariffref07_Count.u k) := fnC hLay ulaw gok (fun f xs => (CallC.none : CallC Tryz.prog U Lay _ f xs)) (fun f xs => (CallC2.none : CallC2 Tryz.prog U Lay _ f xs)) tariffref07_Count.fns (tariffref07_Count.loops k) (tariffref07_Count.ev k)
def tariffref07_Same.l4 (rec_tariffref07_Same : Val → Val → Option (Bool)) (k : Nat) (b2 : Val) (b3 : Val) : Nat → Int → Option (Fl (Val × Val) (Bool))
 | 0, _ => none
 | n + 1, v5 =>
 if (decide (v5 < (b2.names.length : Int))) = true then
 (idx b2.names v5).bind fun e7 =>
 (idx b3.names v5).bind fun e8 =>
 if (!(e7.data.toList == e8.data.toList)) = true then
 some (Fl.ret false)
 else
 tariffref07_Same.l4 rec_tariffref07_Same k b2 b3 n (IntKind.wrap .i64 (v5 + (1 : Int)))
 else
 some (Fl.go (b2, b3))
def tariffref07_Same.l9 (rec_tariffref07_Same : Val → Val → Option (Bool)) (k : Nat) (b2 : Val) (b3 : Val) : Nat → Int → Option (Fl (Unit) (Bool))
 | 0, _ => none
 | n + 1, v6 =>
 if (decide (v6 < (b2.list.length : Int))) = true then
 (idx b2.list v6).bind fun e11 =>
 (idx b3.list v6).bind fun e12 =>
 (rec_tariffref07_Same e11 e12).bind fun r13 =>
 if (!r13) = true then
 some (Fl.ret false)
 else
 tariffref07_Same.l9 rec_tariffref07_Same k b2 b3 n (IntKind.wrap .i64 (v6 + (1 : Int)))
 else
 some (Fl.go ())
def tariffref07_Same : Nat → Val → Val → Option (Bool)
 | 0, _, _ => none
 | k + 1, a0, a1 =>
 ((if (a0.kind != a1.kind) = false then
 some (!(a0.yes == a1.yes))
 else some true) : Option Bool).bind fun b1 =>
 ((if b1 = false then
 some (!((a0.num.neg == a1.num.neg) && (((a0.num.coef.hi == a1.num.coef.hi) && ((a0.num.coef.lo == a1.num.coef.lo) && true)) && ((a0.num.scale == a1.num.scale) && true))))
 else some true) : Option Bool).bind fun b2 =>
 ((if b2 = false then
 some (!(a0.text.data.toList == a1.text.data.toList))
 else some true) : Option Bool).bind fun b3 =>
 ((if b3 = false then
 some (a0.day != a1.day)
 else some true) : Option Bool).bind fun b4 =>
 ((if b4 = false then
 some ((a0.list.length : Int) != (a1.list.length : Int))
 else some true) : Option Bool).bind fun b5 =>
 ((if b5 = false then
 some ((a0.names.length : Int) != (a1.names.length : Int))
 else some true) : Option Bool).bind fun b6 =>
 if b6 = true then
 some false
 else
 (tariffref07_Same.l4 (tariffref07_Same k) k a0 a1 k (0 : Int)).bind fun o => (match o with
 | .go x9 =>
 (tariffref07_Same.l9 (tariffref07_Same k) k x9.1 x9.2 k (0 : Int)).bind fun o => (match o with
 | .go x14 =>
 some true
 | .ret x15 =>
 some x15)
 | .ret x10 =>
 some x10)
def tariffref07_Same.u (k : Nat) (v : Val × Val) : Option (Bool) := tariffref07_Same k v.1 v.2
def tariffref07_Same.G (k : Nat) : Ctx U := ⟨tyOf, bytesOf, fun f xs => if f == 21 then entry tariffref07_Same.P tariffref07_Same.S (tariffref07_Same.u k) xs else none, fun f xs => none, fun d => false⟩
def tariffref07_Same.l4.L (k : Nat) : ELoopR U := ⟨[.ptr 2 2 [] (.st 3), .ptr 3 3 [] (.st 3), .slot 5 (.int .i64), .box 2 (.st 3) [], .box 3 (.st 3) []], 0, [.ptr 2 2 [] (.st 3), .ptr 3 3 [] (.st 3), .box 2 (.st 3) [], .box 3 (.st 3) []], [.slot 4 .bool], fun (v : Int × Val × Val) => tariffref07_Same.l4 (tariffref07_Same k) k v.2.1 v.2.2 k v.1⟩
def tariffref07_Same.l9.L (k : Nat) : ELoopR U := ⟨[.ptr 2 2 [] (.st 3), .ptr 3 3 [] (.st 3), .slot 6 (.int .i64), .box 2 (.st 3) [], .box 3 (.st 3) []], 2, [], [.slot 4 .bool], fun (v : Int × Val × Val) => tariffref07_Same.l9 (tariffref07_Same k) k v.2.1 v.2.2 k v.1⟩
def tariffref07_Same.H (k : Nat) : Hint U := ⟨[], fun i => none, fun i => if i == 122 then some (tariffref07_Same.l9.L k) else if i == 58 then some (tariffref07_Same.l4.L k) else none, fun i => none⟩
theorem tariffref07_Same.l4.ok (k n : Nat) (v : Vars U (tariffref07_Same.l4.L k).ks) : loopRT (tariffref07_Same.G k) (tariffref07_Same.H k) (pick [true, true, false, true, false, false] (bodyOf Tryz.f21)) 58 (tariffref07_Same.l4.L k) n v = (fun (v : Int × Val × Val) => tariffref07_Same.l4 (tariffref07_Same k) k v.2.1 v.2.2 n v.1) v :=
  loopRT_eq (tariffref07_Same.G k) (tariffref07_Same.H k) _ _ (tariffref07_Same.l4.L k) (fun n (v : Int × Val × Val) => tariffref07_Same.l4 (tariffref07_Same k) k v.2.1 v.2.2 n v.1) (fun _ => rfl) (fun n v => by kernel_rfl) n v
theorem tariffref07_Same.l9.ok (k n : Nat) (v : Vars U (tariffref07_Same.l9.L k).ks) : loopRT (tariffref07_Same.G k) (tariffref07_Same.H k) (pick [true, true, true, false, true, false, false] (bodyOf Tryz.f21)) 122 (tariffref07_Same.l9.L k) n v = (fun (v : Int × Val × Val) => tariffref07_Same.l9 (tariffref07_Same k) k v.2.1 v.2.2 n v.1) v :=
  loopRT_eq (tariffref07_Same.G k) (tariffref07_Same.H k) _ _ (tariffref07_Same.l9.L k) (fun n (v : Int × Val × Val) => tariffref07_Same.l9 (tariffref07_Same k) k v.2.1 v.2.2 n v.1) (fun _ => rfl) (fun n v => by kernel_rfl) n v
theorem tariffref07_Same.ev (k : Nat) (v : Val × Val) : evFn (tariffref07_Same.G k) (tariffref07_Same.H k) tariffref07_Same.S Tryz.f21 (encA tariffref07_Same.P v) = tariffref07_Same.u (k + 1) v := by kernel_rfl
theorem tariffref07_Same.fns : Fns Tryz.prog 21 Tryz.f21 tariffref07_Same.P := ⟨Tryz.func21, by kernel_rfl⟩
theorem tariffref07_Same.loops (k : Nat) : LoopsOk (tariffref07_Same.G k) (tariffref07_Same.H k) (bodyOf Tryz.f21) 1 := loops_of (ps := [(58, pick [true, true, false, true, false, false] (bodyOf Tryz.f21)), (122, pick [true, true, true, false, true, false, false] (bodyOf Tryz.f21))]) (by kernel_rfl) ⟨loopR_ok rfl rfl fun v x hx => ⟨k, (tariffref07_Same.l4.ok k k v).trans hx⟩, ⟨loopR_ok rfl rfl fun v x hx => ⟨k, (tariffref07_Same.l9.ok k k v).trans hx⟩, trivial⟩⟩
theorem tariffref07_Same.call : ∀ (k : Nat), FnC Tryz.prog U Lay 21 tariffref07_Same.P tariffref07_Same.S (tariffref07_Same.u k)
  | 0 => fun _ _ h => nomatch (show none = some _ from h)
  | k + 1 => fnC hLay ulaw gok (fun f xs => (.ite (.entry (tariffref07_Same.call k)) (CallC.none) : CallC Tryz.prog U Lay _ f xs)) (fun f xs => (CallC2.none : CallC2 Tryz.prog U Lay _ f xs)) tariffref07_Same.fns (tariffref07_Same.loops k) (tariffref07_Same.ev k)
def tariffref12_SameAll.l4 (k : Nat) (v0 : List Val) (v1 : List Val) : Nat → Int → Option (Fl (Unit) (Bool))
 | 0, _ => none
 | n + 1, v5 =>
 if (decide (v5 < (v0.length : Int))) = true then
 (idx v0 v5).bind fun e1 =>
 (tariffref07_Count k e1 (1000 : Int)).bind fun r2 =>
 if (decide (r2 > (1000 : Int))) = false then
 (idx v1 v5).bind fun e3 =>
 (tariffref07_Count k e3 (1000 : Int)).bind fun r4 =>
 if (decide (r4 > (1000 : Int))) = false then
 (idx v0 v5).bind fun e5 =>
 (idx v1 v5).bind fun e6 =>
 (tariffref07_Same k e5 e6).bind fun r7 =>
 if (!r7) = true then
 some (Fl.ret false)
 else
 tariffref12_SameAll.l4 k v0 v1 n (IntKind.wrap .i64 (v5 + (1 : Int)))
 else
 some (Fl.ret false)
 else
 if true = false then
 (idx v0 v5).bind fun e8 =>
 (idx v1 v5).bind fun e9 =>
 (tariffref07_Same k e8 e9).bind fun r10 =>
 if (!r10) = true then
 some (Fl.ret false)
 else
 tariffref12_SameAll.l4 k v0 v1 n (IntKind.wrap .i64 (v5 + (1 : Int)))
 else
 some (Fl.ret false)
 else
 some (Fl.go ())
def tariffref12_SameAll (k : Nat) (a0 : List Val) (a1 : List Val) : Option (Bool) :=
 if ((a0.length : Int) != (a1.length : Int)) = true then
 some false
 else
 (tariffref12_SameAll.l4 k a0 a1 k (0 : Int)).bind fun o => (match o with
 | .go x11 =>
 some true
 | .ret x12 =>
 some x12)
def tariffref12_SameAll.u (k : Nat) (v : (List Val) × (List Val)) : Option (Bool) := tariffref12_SameAll k v.1 v.2
def tariffref12_SameAll.G (k : Nat) : Ctx U := ⟨tyOf, bytesOf, fun f xs => if f == 30 then entry tariffref07_Count.P tariffref07_Count.S (tariffref07_Count.u k) xs else if f == 21 then entry tariffref07_Same.P tariffref07_Same.S (tariffref07_Same.u k) xs else none, fun f xs => none, fun d => false⟩
def tariffref12_SameAll.l4.L (k : Nat) : ELoopR U := ⟨[.slot 0 (.sl (.st 3)), .slot 1 (.sl (.st 3)), .slot 5 (.int .i64)], 0, [], [.slot 4 .bool], fun (v : (List Val) × (List Val) × Int) => tariffref12_SameAll.l4 k v.1 v.2.1 k v.2.2⟩
def tariffref12_SameAll.H (k : Nat) : Hint U := ⟨[], fun i => none, fun i => if i == 58 then some (tariffref12_SameAll.l4.L k) else none, fun i => none⟩
theorem tariffref12_SameAll.l4.ok (k n : Nat) (v : Vars U (tariffref12_SameAll.l4.L k).ks) : loopRT (tariffref12_SameAll.G k) (tariffref12_SameAll.H k) (pick [true, true, false, true, false, false] (bodyOf Tryz.f10)) 58 (tariffref12_SameAll.l4.L k) n v = (fun (v : (List Val) × (List Val) × Int) => tariffref12_SameAll.l4 k v.1 v.2.1 n v.2.2) v :=
  loopRT_eq (tariffref12_SameAll.G k) (tariffref12_SameAll.H k) _ _ (tariffref12_SameAll.l4.L k) (fun n (v : (List Val) × (List Val) × Int) => tariffref12_SameAll.l4 k v.1 v.2.1 n v.2.2) (fun _ => rfl) (fun n v => by kernel_rfl) n v
theorem tariffref12_SameAll.ev (k : Nat) (v : (List Val) × (List Val)) : evFn (tariffref12_SameAll.G k) (tariffref12_SameAll.H k) tariffref12_SameAll.S Tryz.f10 (encA tariffref12_SameAll.P v) = tariffref12_SameAll.u k v := by kernel_rfl
theorem tariffref12_SameAll.fns : Fns Tryz.prog 10 Tryz.f10 tariffref12_SameAll.P := ⟨Tryz.func10, by kernel_rfl⟩
theorem tariffref12_SameAll.loops (k : Nat) : LoopsOk (tariffref12_SameAll.G k) (tariffref12_SameAll.H k) (bodyOf Tryz.f10) 1 := loops_of (ps := [(58, pick [true, true, false, true, false, false] (bodyOf Tryz.f10))]) (by kernel_rfl) ⟨loopR_ok rfl rfl fun v x hx => ⟨k, (tariffref12_SameAll.l4.ok k k v).trans hx⟩, trivial⟩
theorem tariffref12_SameAll.call (k : Nat) : FnC Tryz.prog U Lay 10 tariffref12_SameAll.P tariffref12_SameAll.S (tariffref12_SameAll.u k) := fnC hLay ulaw gok (fun f xs => (.ite (.entry (tariffref07_Count.call k)) (.ite (.entry (tariffref07_Same.call k)) (CallC.none)) : CallC Tryz.prog U Lay _ f xs)) (fun f xs => (CallC2.none : CallC2 Tryz.prog U Lay _ f xs)) tariffref12_SameAll.fns (tariffref12_SameAll.loops k) (tariffref12_SameAll.ev k)
def tarifflaw12_known (k : Nat) : Option (Bool) :=
 (tarifflaw12_below5).bind fun r1 =>
 (tarifflaw12_num (4 : Int)).bind fun r2 =>
 (unary_Match k r1 r2).bind fun r3 =>
 (tarifflaw12_below5).bind fun r4 =>
 (unary_Ends k r4).bind fun r5 =>
 ((if (r3.2 == (0 : Int)) = true then
 some (r5.2 == (0 : Int))
 else some false) : Option Bool).bind fun b6 =>
 ((if b6 = true then
 (tariffref07_Is r3.1 true).bind fun r7 =>
 some r7
 else some false) : Option Bool).bind fun b8 =>
 ((if b8 = true then
 (tarifflaw12_num (5 : Int)).bind fun r9 =>
 (tariffref12_SameAll k r5.1 ([r9] : List Val)).bind fun r10 =>
 some r10
 else some false) : Option Bool).bind fun b11 =>
 some b11
def tarifflaw12_known.u (k : Nat) (v : Unit) : Option (Bool) := tarifflaw12_known k
def tarifflaw12_known.G (k : Nat) : Ctx U := ⟨tyOf, bytesOf, fun f xs => if f == 23 then entry tarifflaw12_below5.P tarifflaw12_below5.S (tarifflaw12_below5.u) xs else if f == 14 then entry tarifflaw12_num.P tarifflaw12_num.S (tarifflaw12_num.u) xs else if f == 9 then entry unary_Match.P unary_Match.S (unary_Match.u k) xs else if f == 11 then entry unary_Ends.P unary_Ends.S (unary_Ends.u k) xs else if f == 22 then entry tariffref07_Is.P tariffref07_Is.S (tariffref07_Is.u) xs else if f == 10 then entry tariffref12_SameAll.P tariffref12_SameAll.S (tariffref12_SameAll.u k) xs else none, fun f xs => none, fun d => false⟩
def tarifflaw12_known.H (k : Nat) : Hint U := ⟨[], fun i => none, fun i => none, fun i => none⟩
theorem tarifflaw12_known.ev (k : Nat) (v : Unit) : evFn (tarifflaw12_known.G k) (tarifflaw12_known.H k) tarifflaw12_known.S Tryz.f7 (encA tarifflaw12_known.P v) = tarifflaw12_known.u k v := by kernel_rfl
theorem tarifflaw12_known.fns : Fns Tryz.prog 7 Tryz.f7 tarifflaw12_known.P := ⟨Tryz.func7, by kernel_rfl⟩
theorem tarifflaw12_known.loops (k : Nat) : LoopsOk (tarifflaw12_known.G k) (tarifflaw12_known.H k) (bodyOf Tryz.f7) 1 := loops_of (ps := []) (by kernel_rfl) trivial
theorem tarifflaw12_known.call (k : Nat) : FnC Tryz.prog U Lay 7 tarifflaw12_known.P tarifflaw12_known.S (tarifflaw12_known.u k) := fnC hLay ulaw gok (fun f xs => (.ite (.entry (tarifflaw12_below5.call)) (.ite (.entry (tarifflaw12_num.call)) (.ite (.entry (unary_Match.call k)) (.ite (.entry (unary_Ends.call k)) (.ite (.entry (tariffref07_Is.call)) (.ite (.entry (tariffref12_SameAll.call k)) (CallC.none)))))) : CallC Tryz.prog U Lay _ f xs)) (fun f xs => (CallC2.none : CallC2 Tryz.prog U Lay _ f xs)) tarifflaw12_known.fns (tarifflaw12_known.loops k) (tarifflaw12_known.ev k)
def tariffref10_kids (a0 : Int) (a1 : Int) : Option (Bool) :=
 ((if (decide (a0 ≥ (1 : Int))) = true then
 some (decide (a0 ≤ (7 : Int)))
 else some false) : Option Bool).bind fun b1 =>
 ((if b1 = false then
 some (a0 == (29 : Int))
 else some true) : Option Bool).bind fun b2 =>
 if b2 = true then
 some (a1 == (0 : Int))
 else
 ((if (a0 == (8 : Int)) = false then
 some (a0 == (24 : Int))
 else some true) : Option Bool).bind fun b3 =>
 ((if b3 = false then
 ((if (decide (a0 ≥ (28 : Int))) = true then
 some (decide (a0 ≤ (34 : Int)))
 else some false) : Option Bool).bind fun b4 =>
 some b4
 else some true) : Option Bool).bind fun b5 =>
 ((if b5 = false then
 some (a0 == (37 : Int))
 else some true) : Option Bool).bind fun b6 =>
 if b6 = true then
 some (a1 == (1 : Int))
 else
 ((if (decide (a0 ≥ (9 : Int))) = true then
 some (decide (a0 ≤ (20 : Int)))
 else some false) : Option Bool).bind fun b7 =>
 ((if b7 = false then
 some (a0 == (23 : Int))
 else some true) : Option Bool).bind fun b8 =>
 ((if b8 = false then
 some (a0 == (35 : Int))
 else some true) : Option Bool).bind fun b9 =>
 if b9 = true then
 some (a1 == (2 : Int))
 else
 ((if (a0 == (21 : Int)) = false then
 some (a0 == (22 : Int))
 else some true) : Option Bool).bind fun b10 =>
 if b10 = true then
 some (a1 == (3 : Int))
 else
 if (a0 == (25 : Int)) = true then
 ((if (decide (a1 ≥ (0 : Int))) = true then
 some (decide (a1 ≤ (8 : Int)))
 else some false) : Option Bool).bind fun b11 =>
 some b11
 else
 ((if (a0 == (26 : Int)) = false then
 some (a0 == (27 : Int))
 else some true) : Option Bool).bind fun b12 =>
 if b12 = true then
 some (decide (a1 ≥ (0 : Int)))
 else
 if (a0 == (36 : Int)) = true then
 some (decide (a1 ≥ (1 : Int)))
 else
 some false
def tariffref10_kids.u (v : Int × Int) : Option (Bool) := tariffref10_kids v.1 v.2
def tariffref10_kids.G : Ctx U := ⟨tyOf, bytesOf, fun f xs => none, fun f xs => none, fun d => false⟩
def tariffref10_kids.H : Hint U := ⟨[], fun i => none, fun i => none, fun i => none⟩
theorem tariffref10_kids.ev (v : Int × Int) : evFn (tariffref10_kids.G) (tariffref10_kids.H) tariffref10_kids.S Tryz.f64 (encA tariffref10_kids.P v) = tariffref10_kids.u v := by kernel_rfl
theorem tariffref10_kids.fns : Fns Tryz.prog 64 Tryz.f64 tariffref10_kids.P := ⟨Tryz.func64, by kernel_rfl⟩
theorem tariffref10_kids.loops : LoopsOk (tariffref10_kids.G) (tariffref10_kids.H) (bodyOf Tryz.f64) 1 := loops_of (ps := []) (by kernel_rfl) trivial
theorem tariffref10_kids.call : FnC Tryz.prog U Lay 64 tariffref10_kids.P tariffref10_kids.S (tariffref10_kids.u) := fnC hLay ulaw gok (fun f xs => (CallC.none : CallC Tryz.prog U Lay _ f xs)) (fun f xs => (CallC2.none : CallC2 Tryz.prog U Lay _ f xs)) tariffref10_kids.fns (tariffref10_kids.loops) (tariffref10_kids.ev)
def tariffref10_stack.l4 (k : Nat) (v0 : List Node) (v1 : Int) : Nat → (List Int) → (List (List Int)) → Int → Option (Fl ((List Int) × (List (List Int))) ((List (List Int)) × (List Int) × Bool))
 | 0, _, _, _ => none
 | n + 1, v7, w8, v9 =>
 if (decide (v9 ≤ v1)) = true then
 (idx v0 v9).bind fun e1 =>
 (tariffref10_kids e1.op e1.kids).bind fun r2 =>
 ((if (!r2) = false then
 some (decide (e1.kids > (v7.length : Int)))
 else some true) : Option Bool).bind fun b3 =>
 if b3 = true then
 some (Fl.ret (([] : List (List Int)), ([] : List Int), false))
 else
 if 0 ≤ (IntKind.wrap .i64 ((v7.length : Int) - e1.kids)) ∧ (IntKind.wrap .i64 ((v7.length : Int) - e1.kids)) ≤ (v7.length : Int) ∧ (v7.length : Int) ≤ (v7.length : Int) then
 if room ((([] : List Int).length + (sub v7 (IntKind.wrap .i64 ((v7.length : Int) - e1.kids)) (v7.length : Int)).length) * 8) then
 if room ((w8.length + ([(([] : List Int) ++ (sub v7 (IntKind.wrap .i64 ((v7.length : Int) - e1.kids)) (v7.length : Int)))] : List (List Int)).length) * 24) then
 if 0 ≤ (0 : Int) ∧ (0 : Int) ≤ (IntKind.wrap .i64 ((v7.length : Int) - e1.kids)) ∧ (IntKind.wrap .i64 ((v7.length : Int) - e1.kids)) ≤ (v7.length : Int) then
 if room ((([] : List Int).length + (v7.take ((IntKind.wrap .i64 ((v7.length : Int) - e1.kids))).toNat).length) * 8) then
 if room (((([] : List Int) ++ (v7.take ((IntKind.wrap .i64 ((v7.length : Int) - e1.kids))).toNat)).length + ([v9] : List Int).length) * 8) then
 tariffref10_stack.l4 k v0 v1 n ((([] : List Int) ++ (v7.take ((IntKind.wrap .i64 ((v7.length : Int) - e1.kids))).toNat)) ++ ([v9] : List Int)) (w8 ++ ([(([] : List Int) ++ (sub v7 (IntKind.wrap .i64 ((v7.length : Int) - e1.kids)) (v7.length : Int)))] : List (List Int))) (IntKind.wrap .i64 (v9 + (1 : Int)))
 else none
 else none
 else none
 else none
 else none
 else none
 else
 some (Fl.go (v7, w8))
def tariffref10_stack (k : Nat) (a0 : List Node) (a1 : Int) : Option ((List (List Int)) × (List Int) × Bool) :=
 (tariffref10_stack.l4 k a0 a1 k ([] : List Int) ([] : List (List Int)) (0 : Int)).bind fun o => (match o with
 | .go x4 =>
 some (x4.2, x4.1, true)
 | .ret x5 =>
 some (x5.1, x5.2.1, x5.2.2))
def tariffref10_stack.u (k : Nat) (v : (List Node) × Int) : Option ((List (List Int)) × (List Int) × Bool) := tariffref10_stack k v.1 v.2
def tariffref10_stack.G (k : Nat) : Ctx U := ⟨tyOf, bytesOf, fun f xs => if f == 64 then entry tariffref10_kids.P tariffref10_kids.S (tariffref10_kids.u) xs else none, fun f xs => none, fun d => false⟩
def tariffref10_stack.l4.L (k : Nat) : ELoopR U := ⟨[.slot 0 (.sl (.st 0)), .slot 1 (.int .i64), .slot 7 (.sl (.int .i64)), .row 8 (.sl (.int .i64)), .slot 9 (.int .i64)], 0, [.slot 7 (.sl (.int .i64)), .row 8 (.sl (.int .i64))], [.slot 4 (.sl (.sl (.int .i64))), .slot 5 (.sl (.int .i64)), .slot 6 .bool], fun (v : (List Node) × Int × (List Int) × (List (List Int)) × Int) => tariffref10_stack.l4 k v.1 v.2.1 k v.2.2.1 v.2.2.2.1 v.2.2.2.2⟩
def tariffref10_stack.H (k : Nat) : Hint U := ⟨[], fun i => none, fun i => if i == 122 then some (tariffref10_stack.l4.L k) else none, fun i => none⟩
theorem tariffref10_stack.l4.ok (k n : Nat) (v : Vars U (tariffref10_stack.l4.L k).ks) : loopRT (tariffref10_stack.G k) (tariffref10_stack.H k) (pick [true, true, true, false, true, false, false] (bodyOf Tryz.f37)) 122 (tariffref10_stack.l4.L k) n v = (fun (v : (List Node) × Int × (List Int) × (List (List Int)) × Int) => tariffref10_stack.l4 k v.1 v.2.1 n v.2.2.1 v.2.2.2.1 v.2.2.2.2) v :=
  loopRT_eq (tariffref10_stack.G k) (tariffref10_stack.H k) _ _ (tariffref10_stack.l4.L k) (fun n (v : (List Node) × Int × (List Int) × (List (List Int)) × Int) => tariffref10_stack.l4 k v.1 v.2.1 n v.2.2.1 v.2.2.2.1 v.2.2.2.2) (fun _ => rfl) (fun n v => by kernel_rfl) n v
theorem tariffref10_stack.ev (k : Nat) (v : (List Node) × Int) : evFn (tariffref10_stack.G k) (tariffref10_stack.H k) tariffref10_stack.S Tryz.f37 (encA tariffref10_stack.P v) = tariffref10_stack.u k v := by kernel_rfl
theorem tariffref10_stack.fns : Fns Tryz.prog 37 Tryz.f37 tariffref10_stack.P := ⟨Tryz.func37, by kernel_rfl⟩
theorem tariffref10_stack.loops (k : Nat) : LoopsOk (tariffref10_stack.G k) (tariffref10_stack.H k) (bodyOf Tryz.f37) 1 := loops_of (ps := [(122, pick [true, true, true, false, true, false, false] (bodyOf Tryz.f37))]) (by kernel_rfl) ⟨loopR_ok rfl rfl fun v x hx => ⟨k, (tariffref10_stack.l4.ok k k v).trans hx⟩, trivial⟩
theorem tariffref10_stack.call (k : Nat) : FnC Tryz.prog U Lay 37 tariffref10_stack.P tariffref10_stack.S (tariffref10_stack.u k) := fnC hLay ulaw gok (fun f xs => (.ite (.entry (tariffref10_kids.call)) (CallC.none) : CallC Tryz.prog U Lay _ f xs)) (fun f xs => (CallC2.none : CallC2 Tryz.prog U Lay _ f xs)) tariffref10_stack.fns (tariffref10_stack.loops k) (tariffref10_stack.ev k)
def tariffref01_twice.l3 (k : Nat) (v0 : List Int) : Nat → Int → (List Int) → Int → Option (Int × (List Int))
 | 0, _, _, _ => none
 | n + 1, v1, w5, v6 =>
 if (decide (v6 < (v0.length : Int))) = true then
 (idx v0 v6).bind fun e1 =>
 if ¬ (10 : Int) = 0 then
 if room ((w5.length + ([(Int.tmod (IntKind.wrap .i64 ((IntKind.wrap .i64 ((2 : Int) * e1)) + v1)) (10 : Int))] : List Int).length) * 8) then
 if ¬ (10 : Int) = 0 then
 tariffref01_twice.l3 k v0 n (IntKind.wrap .i64 (Int.tdiv (IntKind.wrap .i64 ((IntKind.wrap .i64 ((2 : Int) * e1)) + v1)) (10 : Int))) (w5 ++ ([(Int.tmod (IntKind.wrap .i64 ((IntKind.wrap .i64 ((2 : Int) * e1)) + v1)) (10 : Int))] : List Int)) (IntKind.wrap .i64 (v6 + (1 : Int)))
 else none
 else none
 else none
 else
 some (v1, w5)
def tariffref01_twice (k : Nat) (a0 : List Int) (a1 : Int) : Option ((List Int)) :=
 (tariffref01_twice.l3 k a0 k a1 ([] : List Int) (0 : Int)).bind fun x2 =>
 if (decide (x2.1 > (0 : Int))) = true then
 if room ((x2.2.length + ([x2.1] : List Int).length) * 8) then
 some (x2.2 ++ ([x2.1] : List Int))
 else none
 else
 some x2.2
def tariffref01_twice.u (k : Nat) (v : (List Int) × Int) : Option ((List Int)) := tariffref01_twice k v.1 v.2
def tariffref01_twice.G (k : Nat) : Ctx U := ⟨tyOf, bytesOf, fun f xs => none, fun f xs => none, fun d => false⟩
def tariffref01_twice.l3.L (k : Nat) : ELoop U := ⟨[.slot 0 (.sl (.int .i64)), .slot 1 (.int .i64), .row 5 (.int .i64), .slot 6 (.int .i64)], 0, [.slot 1 (.int .i64), .row 5 (.int .i64)], fun (v : (List Int) × Int × (List Int) × Int) => tariffref01_twice.l3 k v.1 k v.2.1 v.2.2.1 v.2.2.2⟩
def tariffref01_twice.H (k : Nat) : Hint U := ⟨[], fun i => if i == 58 then some (tariffref01_twice.l3.L k) else none, fun i => none, fun i => none⟩
theorem tariffref01_twice.l3.ok (k n : Nat) (v : Vars U (tariffref01_twice.l3.L k).ks) : loopT (tariffref01_twice.G k) (tariffref01_twice.H k) (pick [true, true, false, true, false, false] (bodyOf Tryz.f157)) 58 (tariffref01_twice.l3.L k) n v = (fun (v : (List Int) × Int × (List Int) × Int) => tariffref01_twice.l3 k v.1 n v.2.1 v.2.2.1 v.2.2.2) v :=
  loopT_eq (tariffref01_twice.G k) (tariffref01_twice.H k) _ _ (tariffref01_twice.l3.L k) (fun n (v : (List Int) × Int × (List Int) × Int) => tariffref01_twice.l3 k v.1 n v.2.1 v.2.2.1 v.2.2.2) (fun _ => rfl) (fun n v => by kernel_rfl) n v
theorem tariffref01_twice.ev (k : Nat) (v : (List Int) × Int) : evFn (tariffref01_twice.G k) (tariffref01_twice.H k) tariffref01_twice.S Tryz.f157 (encA tariffref01_twice.P v) = tariffref01_twice.u k v := by kernel_rfl
theorem tariffref01_twice.fns : Fns Tryz.prog 157 Tryz.f157 tariffref01_twice.P := ⟨Tryz.func157, by kernel_rfl⟩
theorem tariffref01_twice.loops (k : Nat) : LoopsOk (tariffref01_twice.G k) (tariffref01_twice.H k) (bodyOf Tryz.f157) 1 := loops_of (ps := [(58, pick [true, true, false, true, false, false] (bodyOf Tryz.f157))]) (by kernel_rfl) ⟨loopT_ok rfl fun v x hx => ⟨k, (tariffref01_twice.l3.ok k k v).trans hx⟩, trivial⟩
theorem tariffref01_twice.call (k : Nat) : FnC Tryz.prog U Lay 157 tariffref01_twice.P tariffref01_twice.S (tariffref01_twice.u k) := fnC hLay ulaw gok (fun f xs => (CallC.none : CallC Tryz.prog U Lay _ f xs)) (fun f xs => (CallC2.none : CallC2 Tryz.prog U Lay _ f xs)) tariffref01_twice.fns (tariffref01_twice.loops k) (tariffref01_twice.ev k)
def tariffref01_words.l6 (k : Nat) (v0 : List Int) (v4 : Int) : Nat → (List Int) → Int → Option ((List Int) × (List Int) × Int)
 | 0, _, _ => none
 | n + 1, v3, v5 =>
 if (decide (v5 ≥ (0 : Int))) = true then
 (idx v0 v4).bind fun e1 =>
 if 0 ≤ v5 then
 (tariffref01_twice k v3 (IntKind.wrap .i64 (IntKind.wrap .u64 ((BitVec.ofInt (IntKind.bits .u64) (Int.fdiv e1 (2 ^ min (v5).toNat (IntKind.bits .u64))) &&& BitVec.ofInt (IntKind.bits .u64) (1 : Int)).toNat : Int)))).bind fun r2 =>
 tariffref01_words.l6 k v0 v4 n r2 (IntKind.wrap .i64 (v5 - (1 : Int)))
 else none
 else
 some (v0, v3, v4)
def tariffref01_words.l3 (k : Nat) : Nat → (List Int) → (List Int) → Int → Option ((List Int))
 | 0, _, _, _ => none
 | n + 1, v0, v3, v4 =>
 if (decide (v4 ≥ (0 : Int))) = true then
 (tariffref01_words.l6 k v0 v4 k v3 (63 : Int)).bind fun x3 =>
 tariffref01_words.l3 k n x3.1 x3.2.1 (IntKind.wrap .i64 (x3.2.2 - (1 : Int)))
 else
 some v3
def tariffref01_words (k : Nat) (a0 : List Int) : Option ((List Int)) :=
 (tariffref01_words.l3 k k a0 ([] : List Int) (IntKind.wrap .i64 ((a0.length : Int) - (1 : Int)))).bind fun x4 =>
 some x4
def tariffref01_words.u (k : Nat) (v : (List Int)) : Option ((List Int)) := tariffref01_words k v
def tariffref01_words.G (k : Nat) : Ctx U := ⟨tyOf, bytesOf, fun f xs => if f == 157 then entry tariffref01_twice.P tariffref01_twice.S (tariffref01_twice.u k) xs else none, fun f xs => none, fun d => false⟩
def tariffref01_words.l6.L (k : Nat) : ELoop U := ⟨[.slot 0 (.sl (.int .u64)), .slot 3 (.sl (.int .i64)), .slot 4 (.int .i64), .slot 5 (.int .i64)], 2, [.slot 0 (.sl (.int .u64)), .slot 3 (.sl (.int .i64)), .slot 4 (.int .i64)], fun (v : (List Int) × (List Int) × Int × Int) => tariffref01_words.l6 k v.1 v.2.2.1 k v.2.1 v.2.2.2⟩
def tariffref01_words.l3.L (k : Nat) : ELoop U := ⟨[.slot 0 (.sl (.int .u64)), .slot 3 (.sl (.int .i64)), .slot 4 (.int .i64)], 0, [.slot 3 (.sl (.int .i64))], fun (v : (List Int) × (List Int) × Int) => tariffref01_words.l3 k k v.1 v.2.1 v.2.2⟩
def tariffref01_words.H (k : Nat) : Hint U := ⟨[], fun i => if i == 58 then some (tariffref01_words.l3.L k) else if i == 3730 then some (tariffref01_words.l6.L k) else none, fun i => none, fun i => none⟩
theorem tariffref01_words.l6.ok (k n : Nat) (v : Vars U (tariffref01_words.l6.L k).ks) : loopT (tariffref01_words.G k) (tariffref01_words.H k) (pick [true, true, false, true, false, false, true, false, false, true, false, false] (bodyOf Tryz.f131)) 3730 (tariffref01_words.l6.L k) n v = (fun (v : (List Int) × (List Int) × Int × Int) => tariffref01_words.l6 k v.1 v.2.2.1 n v.2.1 v.2.2.2) v :=
  loopT_eq (tariffref01_words.G k) (tariffref01_words.H k) _ _ (tariffref01_words.l6.L k) (fun n (v : (List Int) × (List Int) × Int × Int) => tariffref01_words.l6 k v.1 v.2.2.1 n v.2.1 v.2.2.2) (fun _ => rfl) (fun n v => by kernel_rfl) n v
theorem tariffref01_words.l3.ok (k n : Nat) (v : Vars U (tariffref01_words.l3.L k).ks) : loopT (tariffref01_words.G k) (tariffref01_words.H k) (pick [true, true, false, true, false, false] (bodyOf Tryz.f131)) 58 (tariffref01_words.l3.L k) n v = (fun (v : (List Int) × (List Int) × Int) => tariffref01_words.l3 k n v.1 v.2.1 v.2.2) v :=
  loopT_eq (tariffref01_words.G k) (tariffref01_words.H k) _ _ (tariffref01_words.l3.L k) (fun n (v : (List Int) × (List Int) × Int) => tariffref01_words.l3 k n v.1 v.2.1 v.2.2) (fun _ => rfl) (fun n v => by kernel_rfl) n v
theorem tariffref01_words.ev (k : Nat) (v : (List Int)) : evFn (tariffref01_words.G k) (tariffref01_words.H k) tariffref01_words.S Tryz.f131 (encA tariffref01_words.P v) = tariffref01_words.u k v := by kernel_rfl
theorem tariffref01_words.fns : Fns Tryz.prog 131 Tryz.f131 tariffref01_words.P := ⟨Tryz.func131, by kernel_rfl⟩
theorem tariffref01_words.loops (k : Nat) : LoopsOk (tariffref01_words.G k) (tariffref01_words.H k) (bodyOf Tryz.f131) 1 := loops_of (ps := [(58, pick [true, true, false, true, false, false] (bodyOf Tryz.f131)), (3730, pick [true, true, false, true, false, false, true, false, false, true, false, false] (bodyOf Tryz.f131))]) (by kernel_rfl) ⟨loopT_ok rfl fun v x hx => ⟨k, (tariffref01_words.l3.ok k k v).trans hx⟩, ⟨loopT_ok rfl fun v x hx => ⟨k, (tariffref01_words.l6.ok k k v).trans hx⟩, trivial⟩⟩
theorem tariffref01_words.call (k : Nat) : FnC Tryz.prog U Lay 131 tariffref01_words.P tariffref01_words.S (tariffref01_words.u k) := fnC hLay ulaw gok (fun f xs => (.ite (.entry (tariffref01_twice.call k)) (CallC.none) : CallC Tryz.prog U Lay _ f xs)) (fun f xs => (CallC2.none : CallC2 Tryz.prog U Lay _ f xs)) tariffref01_words.fns (tariffref01_words.loops k) (tariffref01_words.ev k)
def tariffref01_Of (k : Nat) (a0 : Wide) : Option ((List Int)) :=
 (tariffref01_words k ([a0.lo, a0.hi] : List Int)).bind fun r1 =>
 some r1
def tariffref01_Of.u (k : Nat) (v : Wide) : Option ((List Int)) := tariffref01_Of k v
def tariffref01_Of.G (k : Nat) : Ctx U := ⟨tyOf, bytesOf, fun f xs => if f == 131 then entry tariffref01_words.P tariffref01_words.S (tariffref01_words.u k) xs else none, fun f xs => none, fun d => false⟩
def tariffref01_Of.H (k : Nat) : Hint U := ⟨[], fun i => none, fun i => none, fun i => none⟩
theorem tariffref01_Of.ev (k : Nat) (v : Wide) : evFn (tariffref01_Of.G k) (tariffref01_Of.H k) tariffref01_Of.S Tryz.f93 (encA tariffref01_Of.P v) = tariffref01_Of.u k v := by kernel_rfl
theorem tariffref01_Of.fns : Fns Tryz.prog 93 Tryz.f93 tariffref01_Of.P := ⟨Tryz.func93, by kernel_rfl⟩
theorem tariffref01_Of.loops (k : Nat) : LoopsOk (tariffref01_Of.G k) (tariffref01_Of.H k) (bodyOf Tryz.f93) 1 := loops_of (ps := []) (by kernel_rfl) trivial
theorem tariffref01_Of.call (k : Nat) : FnC Tryz.prog U Lay 93 tariffref01_Of.P tariffref01_Of.S (tariffref01_Of.u k) := fnC hLay ulaw gok (fun f xs => (.ite (.entry (tariffref01_words.call k)) (CallC.none) : CallC Tryz.prog U Lay _ f xs)) (fun f xs => (CallC2.none : CallC2 Tryz.prog U Lay _ f xs)) tariffref01_Of.fns (tariffref01_Of.loops k) (tariffref01_Of.ev k)
def tariffref02_Form (k : Nat) (a0 : Dec) : Option (Bool) :=
 (tariffref01_Of k a0.coef).bind fun r1 =>
 ((if (decide ((r1.length : Int) > (34 : Int))) = false then
 some (decide (a0.scale < (0 : Int)))
 else some true) : Option Bool).bind fun b2 =>
 ((if b2 = false then
 some (decide (a0.scale > (18 : Int)))
 else some true) : Option Bool).bind fun b3 =>
 if b3 = true then
 some false
 else
 if ((r1.length : Int) == (0 : Int)) = true then
 ((if (!a0.neg) = true then
 some (a0.scale == (0 : Int))
 else some false) : Option Bool).bind fun b4 =>
 some b4
 else
 ((if (a0.scale == (0 : Int)) = false then
 (idx r1 (0 : Int)).bind fun e5 =>
 some (e5 != (0 : Int))
 else some true) : Option Bool).bind fun b6 =>
 some b6
def tariffref02_Form.u (k : Nat) (v : Dec) : Option (Bool) := tariffref02_Form k v
def tariffref02_Form.G (k : Nat) : Ctx U := ⟨tyOf, bytesOf, fun f xs => if f == 93 then entry tariffref01_Of.P tariffref01_Of.S (tariffref01_Of.u k) xs else none, fun f xs => none, fun d => false⟩
def tariffref02_Form.H (k : Nat) : Hint U := ⟨[], fun i => none, fun i => none, fun i => none⟩
theorem tariffref02_Form.ev (k : Nat) (v : Dec) : evFn (tariffref02_Form.G k) (tariffref02_Form.H k) tariffref02_Form.S Tryz.f60 (encA tariffref02_Form.P v) = tariffref02_Form.u k v := by kernel_rfl
theorem tariffref02_Form.fns : Fns Tryz.prog 60 Tryz.f60 tariffref02_Form.P := ⟨Tryz.func60, by kernel_rfl⟩
theorem tariffref02_Form.loops (k : Nat) : LoopsOk (tariffref02_Form.G k) (tariffref02_Form.H k) (bodyOf Tryz.f60) 1 := loops_of (ps := []) (by kernel_rfl) trivial
theorem tariffref02_Form.call (k : Nat) : FnC Tryz.prog U Lay 60 tariffref02_Form.P tariffref02_Form.S (tariffref02_Form.u k) := fnC hLay ulaw gok (fun f xs => (.ite (.entry (tariffref01_Of.call k)) (CallC.none) : CallC Tryz.prog U Lay _ f xs)) (fun f xs => (CallC2.none : CallC2 Tryz.prog U Lay _ f xs)) tariffref02_Form.fns (tariffref02_Form.loops k) (tariffref02_Form.ev k)
def tariffref04_tail (a0 : ByteArray) (a1 : Int) : Option (Int × Bool) :=
 ((if (decide (a1 ≥ (a0.size : Int))) = false then
 (idx a0.data.toList a1).bind fun e1 =>
 some ((IntKind.wrap .u8 ((BitVec.ofInt (IntKind.bits .u8) (e1.toNat : Int) &&& BitVec.ofInt (IntKind.bits .u8) (192 : Int)).toNat : Int)) != (128 : Int))
 else some true) : Option Bool).bind fun b2 =>
 if b2 = true then
 some ((0 : Int), false)
 else
 (idx a0.data.toList a1).bind fun e3 =>
 some ((IntKind.wrap .i64 (IntKind.wrap .u8 ((BitVec.ofInt (IntKind.bits .u8) (e3.toNat : Int) &&& BitVec.ofInt (IntKind.bits .u8) (63 : Int)).toNat : Int))), true)
def tariffref04_tail.u (v : ByteArray × Int) : Option (Int × Bool) := tariffref04_tail v.1 v.2
def tariffref04_tail.G : Ctx U := ⟨tyOf, bytesOf, fun f xs => none, fun f xs => none, fun d => false⟩
def tariffref04_tail.H : Hint U := ⟨[], fun i => none, fun i => none, fun i => none⟩
theorem tariffref04_tail.ev (v : ByteArray × Int) : evFn (tariffref04_tail.G) (tariffref04_tail.H) tariffref04_tail.S Tryz.f158 (encA tariffref04_tail.P v) = tariffref04_tail.u v := by kernel_rfl
theorem tariffref04_tail.fns : Fns Tryz.prog 158 Tryz.f158 tariffref04_tail.P := ⟨Tryz.func158, by kernel_rfl⟩
theorem tariffref04_tail.loops : LoopsOk (tariffref04_tail.G) (tariffref04_tail.H) (bodyOf Tryz.f158) 1 := loops_of (ps := []) (by kernel_rfl) trivial
theorem tariffref04_tail.call : FnC Tryz.prog U Lay 158 tariffref04_tail.P tariffref04_tail.S (tariffref04_tail.u) := fnC hLay ulaw gok (fun f xs => (CallC.none : CallC Tryz.prog U Lay _ f xs)) (fun f xs => (CallC2.none : CallC2 Tryz.prog U Lay _ f xs)) tariffref04_tail.fns (tariffref04_tail.loops) (tariffref04_tail.ev)
def tariffref04_one.l13 (k : Nat) (v0 : ByteArray) (v1 : Int) (v8 : Int) (v9 : Int) : Nat → Int → Int → Option (Fl (Int × Int × Int) (Int × Int × Bool))
 | 0, _, _ => none
 | n + 1, v7, v10 =>
 if (decide (v10 < v8)) = true then
 (tariffref04_tail v0 (IntKind.wrap .i64 (v1 + v10))).bind fun r7 =>
 if (!r7.2) = true then
 some (Fl.ret ((0 : Int), (0 : Int), false))
 else
 tariffref04_one.l13 k v0 v1 v8 v9 n (IntKind.wrap .i64 ((IntKind.wrap .i64 (v7 * (64 : Int))) + r7.1)) (IntKind.wrap .i64 (v10 + (1 : Int)))
 else
 some (Fl.go (v7, v8, v9))
def tariffref04_one (k : Nat) (a0 : ByteArray) (a1 : Int) : Option (Int × Int × Bool) :=
 (idx a0.data.toList a1).bind fun e1 =>
 ((if (decide ((IntKind.wrap .i64 (e1.toNat : Int)) < (128 : Int))) = true then
 some (Fl.ret ((IntKind.wrap .i64 (e1.toNat : Int)), (1 : Int), true))
 else
 ((if (decide ((IntKind.wrap .i64 (e1.toNat : Int)) ≥ (192 : Int))) = true then
 some (decide ((IntKind.wrap .i64 (e1.toNat : Int)) < (224 : Int)))
 else some false) : Option Bool).bind fun b2 =>
 if b2 = true then
 some (Fl.go (a0, a1, (IntKind.wrap .i64 ((BitVec.ofInt (IntKind.bits .i64) (IntKind.wrap .i64 (e1.toNat : Int)) &&& BitVec.ofInt (IntKind.bits .i64) (31 : Int)).toNat : Int)), (2 : Int), (128 : Int)))
 else
 ((if (decide ((IntKind.wrap .i64 (e1.toNat : Int)) ≥ (224 : Int))) = true then
 some (decide ((IntKind.wrap .i64 (e1.toNat : Int)) < (240 : Int)))
 else some false) : Option Bool).bind fun b3 =>
 if b3 = true then
 some (Fl.go (a0, a1, (IntKind.wrap .i64 ((BitVec.ofInt (IntKind.bits .i64) (IntKind.wrap .i64 (e1.toNat : Int)) &&& BitVec.ofInt (IntKind.bits .i64) (15 : Int)).toNat : Int)), (3 : Int), (2048 : Int)))
 else
 ((if (decide ((IntKind.wrap .i64 (e1.toNat : Int)) ≥ (240 : Int))) = true then
 some (decide ((IntKind.wrap .i64 (e1.toNat : Int)) < (248 : Int)))
 else some false) : Option Bool).bind fun b4 =>
 if b4 = true then
 some (Fl.go (a0, a1, (IntKind.wrap .i64 ((BitVec.ofInt (IntKind.bits .i64) (IntKind.wrap .i64 (e1.toNat : Int)) &&& BitVec.ofInt (IntKind.bits .i64) (7 : Int)).toNat : Int)), (4 : Int), (65536 : Int)))
 else
 some (Fl.ret ((0 : Int), (0 : Int), false))) : Option (Fl (ByteArray × Int × Int × Int × Int) (Int × Int × Bool))).bind fun o => (match o with
 | .go j5 =>
 (tariffref04_one.l13 k j5.1 j5.2.1 j5.2.2.2.1 j5.2.2.2.2 k j5.2.2.1 (1 : Int)).bind fun o => (match o with
 | .go x8 =>
 some (x8.1, x8.2.1, (decide (x8.1 ≥ x8.2.2)))
 | .ret x9 =>
 some (x9.1, x9.2.1, x9.2.2))
 | .ret j6 =>
 some (j6.1, j6.2.1, j6.2.2))
def tariffref04_one.u (k : Nat) (v : ByteArray × Int) : Option (Int × Int × Bool) := tariffref04_one k v.1 v.2
def tariffref04_one.G (k : Nat) : Ctx U := ⟨tyOf, bytesOf, fun f xs => if f == 158 then entry tariffref04_tail.P tariffref04_tail.S (tariffref04_tail.u) xs else none, fun f xs => none, fun d => false⟩
def tariffref04_one.l13.L (k : Nat) : ELoopR U := ⟨[.slot 0 .str, .slot 1 (.int .i64), .slot 7 (.int .i64), .slot 8 (.int .i64), .slot 9 (.int .i64), .slot 10 (.int .i64)], 1, [.slot 7 (.int .i64), .slot 8 (.int .i64), .slot 9 (.int .i64)], [.slot 4 (.int .i64), .slot 5 (.int .i64), .slot 6 .bool], fun (v : ByteArray × Int × Int × Int × Int × Int) => tariffref04_one.l13 k v.1 v.2.1 v.2.2.2.1 v.2.2.2.2.1 k v.2.2.1 v.2.2.2.2.2⟩
def tariffref04_one.H (k : Nat) : Hint U := ⟨[], fun i => none, fun i => if i == 250 then some (tariffref04_one.l13.L k) else none, fun i => if i == 30 then some ⟨[.slot 0 .str, .slot 1 (.int .i64), .slot 7 (.int .i64), .slot 8 (.int .i64), .slot 9 (.int .i64)], some [.slot 4 (.int .i64), .slot 5 (.int .i64), .slot 6 .bool]⟩ else none⟩
theorem tariffref04_one.l13.ok (k n : Nat) (v : Vars U (tariffref04_one.l13.L k).ks) : loopRT (tariffref04_one.G k) (tariffref04_one.H k) (pick [true, true, true, true, false, true, false, false] (bodyOf Tryz.f132)) 250 (tariffref04_one.l13.L k) n v = (fun (v : ByteArray × Int × Int × Int × Int × Int) => tariffref04_one.l13 k v.1 v.2.1 v.2.2.2.1 v.2.2.2.2.1 n v.2.2.1 v.2.2.2.2.2) v :=
  loopRT_eq (tariffref04_one.G k) (tariffref04_one.H k) _ _ (tariffref04_one.l13.L k) (fun n (v : ByteArray × Int × Int × Int × Int × Int) => tariffref04_one.l13 k v.1 v.2.1 v.2.2.2.1 v.2.2.2.2.1 n v.2.2.1 v.2.2.2.2.2) (fun _ => rfl) (fun n v => by kernel_rfl) n v
theorem tariffref04_one.ev (k : Nat) (v : ByteArray × Int) : evFn (tariffref04_one.G k) (tariffref04_one.H k) tariffref04_one.S Tryz.f132 (encA tariffref04_one.P v) = tariffref04_one.u k v := by kernel_rfl
theorem tariffref04_one.fns : Fns Tryz.prog 132 Tryz.f132 tariffref04_one.P := ⟨Tryz.func132, by kernel_rfl⟩
theorem tariffref04_one.loops (k : Nat) : LoopsOk (tariffref04_one.G k) (tariffref04_one.H k) (bodyOf Tryz.f132) 1 := loops_of (ps := [(250, pick [true, true, true, true, false, true, false, false] (bodyOf Tryz.f132))]) (by kernel_rfl) ⟨loopR_ok rfl rfl fun v x hx => ⟨k, (tariffref04_one.l13.ok k k v).trans hx⟩, trivial⟩
theorem tariffref04_one.call (k : Nat) : FnC Tryz.prog U Lay 132 tariffref04_one.P tariffref04_one.S (tariffref04_one.u k) := fnC hLay ulaw gok (fun f xs => (.ite (.entry (tariffref04_tail.call)) (CallC.none) : CallC Tryz.prog U Lay _ f xs)) (fun f xs => (CallC2.none : CallC2 Tryz.prog U Lay _ f xs)) tariffref04_one.fns (tariffref04_one.loops k) (tariffref04_one.ev k)
def tariffref04_Char (a0 : Int) : Option (Bool) :=
 ((if (a0 == (9 : Int)) = false then
 some (a0 == (10 : Int))
 else some true) : Option Bool).bind fun b1 =>
 ((if b1 = false then
 some (a0 == (13 : Int))
 else some true) : Option Bool).bind fun b2 =>
 ((if b2 = false then
 ((if (decide (a0 ≥ (32 : Int))) = true then
 some (decide (a0 ≤ (55295 : Int)))
 else some false) : Option Bool).bind fun b3 =>
 some b3
 else some true) : Option Bool).bind fun b4 =>
 ((if b4 = false then
 ((if (decide (a0 ≥ (57344 : Int))) = true then
 some (decide (a0 ≤ (65533 : Int)))
 else some false) : Option Bool).bind fun b5 =>
 some b5
 else some true) : Option Bool).bind fun b6 =>
 ((if b6 = false then
 ((if (decide (a0 ≥ (65536 : Int))) = true then
 some (decide (a0 ≤ (1114111 : Int)))
 else some false) : Option Bool).bind fun b7 =>
 some b7
 else some true) : Option Bool).bind fun b8 =>
 some b8
def tariffref04_Char.u (v : Int) : Option (Bool) := tariffref04_Char v
def tariffref04_Char.G : Ctx U := ⟨tyOf, bytesOf, fun f xs => none, fun f xs => none, fun d => false⟩
def tariffref04_Char.H : Hint U := ⟨[], fun i => none, fun i => none, fun i => none⟩
theorem tariffref04_Char.ev (v : Int) : evFn (tariffref04_Char.G) (tariffref04_Char.H) tariffref04_Char.S Tryz.f133 (encA tariffref04_Char.P v) = tariffref04_Char.u v := by kernel_rfl
theorem tariffref04_Char.fns : Fns Tryz.prog 133 Tryz.f133 tariffref04_Char.P := ⟨Tryz.func133, by kernel_rfl⟩
theorem tariffref04_Char.loops : LoopsOk (tariffref04_Char.G) (tariffref04_Char.H) (bodyOf Tryz.f133) 1 := loops_of (ps := []) (by kernel_rfl) trivial
theorem tariffref04_Char.call : FnC Tryz.prog U Lay 133 tariffref04_Char.P tariffref04_Char.S (tariffref04_Char.u) := fnC hLay ulaw gok (fun f xs => (CallC.none : CallC Tryz.prog U Lay _ f xs)) (fun f xs => (CallC2.none : CallC2 Tryz.prog U Lay _ f xs)) tariffref04_Char.fns (tariffref04_Char.loops) (tariffref04_Char.ev)
def tariffref04_Chars.l3 (k : Nat) (v0 : ByteArray) : Nat → (List Int) → Int → Option (Fl ((List Int) × Int) ((List Int) × Bool))
 | 0, _, _ => none
 | n + 1, w4, v5 =>
 if (decide (v5 < (v0.size : Int))) = true then
 (tariffref04_one k v0 v5).bind fun r1 =>
 ((if (!r1.2.2) = false then
 (tariffref04_Char r1.1).bind fun r2 =>
 some (!r2)
 else some true) : Option Bool).bind fun b3 =>
 if b3 = true then
 some (Fl.ret (([] : List Int), false))
 else
 if room ((w4.length + ([v5] : List Int).length) * 8) then
 tariffref04_Chars.l3 k v0 n (w4 ++ ([v5] : List Int)) (IntKind.wrap .i64 (v5 + r1.2.1))
 else none
 else
 some (Fl.go (w4, v5))
def tariffref04_Chars (k : Nat) (a0 : ByteArray) : Option ((List Int) × Bool) :=
 (tariffref04_Chars.l3 k a0 k ([] : List Int) (0 : Int)).bind fun o => (match o with
 | .go x4 =>
 if room ((x4.1.length + ([x4.2] : List Int).length) * 8) then
 some ((x4.1 ++ ([x4.2] : List Int)), true)
 else none
 | .ret x5 =>
 some (x5.1, x5.2))
def tariffref04_Chars.u (k : Nat) (v : ByteArray) : Option ((List Int) × Bool) := tariffref04_Chars k v
def tariffref04_Chars.G (k : Nat) : Ctx U := ⟨tyOf, bytesOf, fun f xs => if f == 132 then entry tariffref04_one.P tariffref04_one.S (tariffref04_one.u k) xs else if f == 133 then entry tariffref04_Char.P tariffref04_Char.S (tariffref04_Char.u) xs else none, fun f xs => none, fun d => false⟩
def tariffref04_Chars.l3.L (k : Nat) : ELoopR U := ⟨[.slot 0 .str, .row 4 (.int .i64), .slot 5 (.int .i64)], 0, [.row 4 (.int .i64), .slot 5 (.int .i64)], [.slot 2 (.sl (.int .i64)), .slot 3 .bool], fun (v : ByteArray × (List Int) × Int) => tariffref04_Chars.l3 k v.1 k v.2.1 v.2.2⟩
def tariffref04_Chars.H (k : Nat) : Hint U := ⟨[], fun i => none, fun i => if i == 60 then some (tariffref04_Chars.l3.L k) else none, fun i => none⟩
theorem tariffref04_Chars.l3.ok (k n : Nat) (v : Vars U (tariffref04_Chars.l3.L k).ks) : loopRT (tariffref04_Chars.G k) (tariffref04_Chars.H k) (pick [true, true, true, false, false, false] (bodyOf Tryz.f94)) 60 (tariffref04_Chars.l3.L k) n v = (fun (v : ByteArray × (List Int) × Int) => tariffref04_Chars.l3 k v.1 n v.2.1 v.2.2) v :=
  loopRT_eq (tariffref04_Chars.G k) (tariffref04_Chars.H k) _ _ (tariffref04_Chars.l3.L k) (fun n (v : ByteArray × (List Int) × Int) => tariffref04_Chars.l3 k v.1 n v.2.1 v.2.2) (fun _ => rfl) (fun n v => by kernel_rfl) n v
theorem tariffref04_Chars.ev (k : Nat) (v : ByteArray) : evFn (tariffref04_Chars.G k) (tariffref04_Chars.H k) tariffref04_Chars.S Tryz.f94 (encA tariffref04_Chars.P v) = tariffref04_Chars.u k v := by kernel_rfl
theorem tariffref04_Chars.fns : Fns Tryz.prog 94 Tryz.f94 tariffref04_Chars.P := ⟨Tryz.func94, by kernel_rfl⟩
theorem tariffref04_Chars.loops (k : Nat) : LoopsOk (tariffref04_Chars.G k) (tariffref04_Chars.H k) (bodyOf Tryz.f94) 1 := loops_of (ps := [(60, pick [true, true, true, false, false, false] (bodyOf Tryz.f94))]) (by kernel_rfl) ⟨loopR_ok rfl rfl fun v x hx => ⟨k, (tariffref04_Chars.l3.ok k k v).trans hx⟩, trivial⟩
theorem tariffref04_Chars.call (k : Nat) : FnC Tryz.prog U Lay 94 tariffref04_Chars.P tariffref04_Chars.S (tariffref04_Chars.u k) := fnC hLay ulaw gok (fun f xs => (.ite (.entry (tariffref04_one.call k)) (.ite (.entry (tariffref04_Char.call)) (CallC.none)) : CallC Tryz.prog U Lay _ f xs)) (fun f xs => (CallC2.none : CallC2 Tryz.prog U Lay _ f xs)) tariffref04_Chars.fns (tariffref04_Chars.loops k) (tariffref04_Chars.ev k)
def tariffref04_Valid (k : Nat) (a0 : ByteArray) : Option (Bool) :=
 (tariffref04_Chars k a0).bind fun r1 =>
 some r1.2
def tariffref04_Valid.u (k : Nat) (v : ByteArray) : Option (Bool) := tariffref04_Valid k v
def tariffref04_Valid.G (k : Nat) : Ctx U := ⟨tyOf, bytesOf, fun f xs => if f == 94 then entry tariffref04_Chars.P tariffref04_Chars.S (tariffref04_Chars.u k) xs else none, fun f xs => none, fun d => false⟩
def tariffref04_Valid.H (k : Nat) : Hint U := ⟨[], fun i => none, fun i => none, fun i => none⟩
theorem tariffref04_Valid.ev (k : Nat) (v : ByteArray) : evFn (tariffref04_Valid.G k) (tariffref04_Valid.H k) tariffref04_Valid.S Tryz.f61 (encA tariffref04_Valid.P v) = tariffref04_Valid.u k v := by kernel_rfl
theorem tariffref04_Valid.fns : Fns Tryz.prog 61 Tryz.f61 tariffref04_Valid.P := ⟨Tryz.func61, by kernel_rfl⟩
theorem tariffref04_Valid.loops (k : Nat) : LoopsOk (tariffref04_Valid.G k) (tariffref04_Valid.H k) (bodyOf Tryz.f61) 1 := loops_of (ps := []) (by kernel_rfl) trivial
theorem tariffref04_Valid.call (k : Nat) : FnC Tryz.prog U Lay 61 tariffref04_Valid.P tariffref04_Valid.S (tariffref04_Valid.u k) := fnC hLay ulaw gok (fun f xs => (.ite (.entry (tariffref04_Chars.call k)) (CallC.none) : CallC Tryz.prog U Lay _ f xs)) (fun f xs => (CallC2.none : CallC2 Tryz.prog U Lay _ f xs)) tariffref04_Valid.fns (tariffref04_Valid.loops k) (tariffref04_Valid.ev k)
def tariffref03_Is (a0 : Int) : Option (Bool) :=
 ((if (decide (a0 ≥ (1 : Int))) = true then
 some (decide (a0 ≤ (3652059 : Int)))
 else some false) : Option Bool).bind fun b1 =>
 some b1
def tariffref03_Is.u (v : Int) : Option (Bool) := tariffref03_Is v
def tariffref03_Is.G : Ctx U := ⟨tyOf, bytesOf, fun f xs => none, fun f xs => none, fun d => false⟩
def tariffref03_Is.H : Hint U := ⟨[], fun i => none, fun i => none, fun i => none⟩
theorem tariffref03_Is.ev (v : Int) : evFn (tariffref03_Is.G) (tariffref03_Is.H) tariffref03_Is.S Tryz.f62 (encA tariffref03_Is.P v) = tariffref03_Is.u v := by kernel_rfl
theorem tariffref03_Is.fns : Fns Tryz.prog 62 Tryz.f62 tariffref03_Is.P := ⟨Tryz.func62, by kernel_rfl⟩
theorem tariffref03_Is.loops : LoopsOk (tariffref03_Is.G) (tariffref03_Is.H) (bodyOf Tryz.f62) 1 := loops_of (ps := []) (by kernel_rfl) trivial
theorem tariffref03_Is.call : FnC Tryz.prog U Lay 62 tariffref03_Is.P tariffref03_Is.S (tariffref03_Is.u) := fnC hLay ulaw gok (fun f xs => (CallC.none : CallC Tryz.prog U Lay _ f xs)) (fun f xs => (CallC2.none : CallC2 Tryz.prog U Lay _ f xs)) tariffref03_Is.fns (tariffref03_Is.loops) (tariffref03_Is.ev)
def tariffref04_Letter (a0 : Int) : Option (Bool) :=
 ((if (decide (a0 ≥ (97 : Int))) = true then
 some (decide (a0 ≤ (122 : Int)))
 else some false) : Option Bool).bind fun b1 =>
 ((if b1 = false then
 ((if (decide (a0 ≥ (65 : Int))) = true then
 some (decide (a0 ≤ (90 : Int)))
 else some false) : Option Bool).bind fun b2 =>
 some b2
 else some true) : Option Bool).bind fun b3 =>
 ((if b3 = false then
 some (a0 == (95 : Int))
 else some true) : Option Bool).bind fun b4 =>
 some b4
def tariffref04_Letter.u (v : Int) : Option (Bool) := tariffref04_Letter v
def tariffref04_Letter.G : Ctx U := ⟨tyOf, bytesOf, fun f xs => none, fun f xs => none, fun d => false⟩
def tariffref04_Letter.H : Hint U := ⟨[], fun i => none, fun i => none, fun i => none⟩
theorem tariffref04_Letter.ev (v : Int) : evFn (tariffref04_Letter.G) (tariffref04_Letter.H) tariffref04_Letter.S Tryz.f95 (encA tariffref04_Letter.P v) = tariffref04_Letter.u v := by kernel_rfl
theorem tariffref04_Letter.fns : Fns Tryz.prog 95 Tryz.f95 tariffref04_Letter.P := ⟨Tryz.func95, by kernel_rfl⟩
theorem tariffref04_Letter.loops : LoopsOk (tariffref04_Letter.G) (tariffref04_Letter.H) (bodyOf Tryz.f95) 1 := loops_of (ps := []) (by kernel_rfl) trivial
theorem tariffref04_Letter.call : FnC Tryz.prog U Lay 95 tariffref04_Letter.P tariffref04_Letter.S (tariffref04_Letter.u) := fnC hLay ulaw gok (fun f xs => (CallC.none : CallC Tryz.prog U Lay _ f xs)) (fun f xs => (CallC2.none : CallC2 Tryz.prog U Lay _ f xs)) tariffref04_Letter.fns (tariffref04_Letter.loops) (tariffref04_Letter.ev)
def tariffref04_Word (a0 : ByteArray) : Option (Bool) :=
 if (a0.data.toList == (ByteArray.mk #[97, 110, 100]).data.toList) = true then
 some true
 else
 if (a0.data.toList == (ByteArray.mk #[98, 101, 116, 119, 101, 101, 110]).data.toList) = true then
 some true
 else
 if (a0.data.toList == (ByteArray.mk #[101, 108, 115, 101]).data.toList) = true then
 some true
 else
 if (a0.data.toList == (ByteArray.mk #[102, 97, 108, 115, 101]).data.toList) = true then
 some true
 else
 if (a0.data.toList == (ByteArray.mk #[105, 102]).data.toList) = true then
 some true
 else
 if (a0.data.toList == (ByteArray.mk #[105, 110]).data.toList) = true then
 some true
 else
 if (a0.data.toList == (ByteArray.mk #[110, 111, 116]).data.toList) = true then
 some true
 else
 if (a0.data.toList == (ByteArray.mk #[110, 117, 108, 108]).data.toList) = true then
 some true
 else
 if (a0.data.toList == (ByteArray.mk #[111, 114]).data.toList) = true then
 some true
 else
 if (a0.data.toList == (ByteArray.mk #[116, 104, 101, 110]).data.toList) = true then
 some true
 else
 if (a0.data.toList == (ByteArray.mk #[116, 114, 117, 101]).data.toList) = true then
 some true
 else
 some false
def tariffref04_Word.u (v : ByteArray) : Option (Bool) := tariffref04_Word v
def tariffref04_Word.G : Ctx U := ⟨tyOf, bytesOf, fun f xs => none, fun f xs => none, fun d => false⟩
def tariffref04_Word.H : Hint U := ⟨[], fun i => none, fun i => none, fun i => none⟩
theorem tariffref04_Word.ev (v : ByteArray) : evFn (tariffref04_Word.G) (tariffref04_Word.H) tariffref04_Word.S Tryz.f96 (encA tariffref04_Word.P v) = tariffref04_Word.u v := by kernel_rfl
theorem tariffref04_Word.fns : Fns Tryz.prog 96 Tryz.f96 tariffref04_Word.P := ⟨Tryz.func96, by kernel_rfl⟩
theorem tariffref04_Word.loops : LoopsOk (tariffref04_Word.G) (tariffref04_Word.H) (bodyOf Tryz.f96) 1 := loops_of (ps := []) (by kernel_rfl) trivial
theorem tariffref04_Word.call : FnC Tryz.prog U Lay 96 tariffref04_Word.P tariffref04_Word.S (tariffref04_Word.u) := fnC hLay ulaw gok (fun f xs => (CallC.none : CallC Tryz.prog U Lay _ f xs)) (fun f xs => (CallC2.none : CallC2 Tryz.prog U Lay _ f xs)) tariffref04_Word.fns (tariffref04_Word.loops) (tariffref04_Word.ev)
def tariffref04_Digit (a0 : Int) : Option (Bool) :=
 ((if (decide (a0 ≥ (48 : Int))) = true then
 some (decide (a0 ≤ (57 : Int)))
 else some false) : Option Bool).bind fun b1 =>
 some b1
def tariffref04_Digit.u (v : Int) : Option (Bool) := tariffref04_Digit v
def tariffref04_Digit.G : Ctx U := ⟨tyOf, bytesOf, fun f xs => none, fun f xs => none, fun d => false⟩
def tariffref04_Digit.H : Hint U := ⟨[], fun i => none, fun i => none, fun i => none⟩
theorem tariffref04_Digit.ev (v : Int) : evFn (tariffref04_Digit.G) (tariffref04_Digit.H) tariffref04_Digit.S Tryz.f97 (encA tariffref04_Digit.P v) = tariffref04_Digit.u v := by kernel_rfl
theorem tariffref04_Digit.fns : Fns Tryz.prog 97 Tryz.f97 tariffref04_Digit.P := ⟨Tryz.func97, by kernel_rfl⟩
theorem tariffref04_Digit.loops : LoopsOk (tariffref04_Digit.G) (tariffref04_Digit.H) (bodyOf Tryz.f97) 1 := loops_of (ps := []) (by kernel_rfl) trivial
theorem tariffref04_Digit.call : FnC Tryz.prog U Lay 97 tariffref04_Digit.P tariffref04_Digit.S (tariffref04_Digit.u) := fnC hLay ulaw gok (fun f xs => (CallC.none : CallC Tryz.prog U Lay _ f xs)) (fun f xs => (CallC2.none : CallC2 Tryz.prog U Lay _ f xs)) tariffref04_Digit.fns (tariffref04_Digit.loops) (tariffref04_Digit.ev)
def tariffref04_Name.l4 (k : Nat) (v0 : ByteArray) : Nat → Int → Option (Fl (Unit) (Bool))
 | 0, _ => none
 | n + 1, v3 =>
 if (decide (v3 < (v0.size : Int))) = true then
 (idx v0.data.toList v3).bind fun e7 =>
 (tariffref04_Letter (e7.toNat : Int)).bind fun r8 =>
 ((if (!r8) = true then
 (idx v0.data.toList v3).bind fun e9 =>
 (tariffref04_Digit (e9.toNat : Int)).bind fun r10 =>
 some (!r10)
 else some false) : Option Bool).bind fun b11 =>
 if b11 = true then
 some (Fl.ret false)
 else
 tariffref04_Name.l4 k v0 n (IntKind.wrap .i64 (v3 + (1 : Int)))
 else
 some (Fl.go ())
def tariffref04_Name (k : Nat) (a0 : ByteArray) : Option (Bool) :=
 ((if (a0.data.toList == (ByteArray.mk #[]).data.toList) = false then
 some (decide ((a0.size : Int) > (64 : Int)))
 else some true) : Option Bool).bind fun b1 =>
 ((if b1 = false then
 (idx a0.data.toList (0 : Int)).bind fun e2 =>
 (tariffref04_Letter (e2.toNat : Int)).bind fun r3 =>
 some (!r3)
 else some true) : Option Bool).bind fun b4 =>
 ((if b4 = false then
 (tariffref04_Word a0).bind fun r5 =>
 some r5
 else some true) : Option Bool).bind fun b6 =>
 if b6 = true then
 some false
 else
 (tariffref04_Name.l4 k a0 k (1 : Int)).bind fun o => (match o with
 | .go x12 =>
 some true
 | .ret x13 =>
 some x13)
def tariffref04_Name.u (k : Nat) (v : ByteArray) : Option (Bool) := tariffref04_Name k v
def tariffref04_Name.G (k : Nat) : Ctx U := ⟨tyOf, bytesOf, fun f xs => if f == 95 then entry tariffref04_Letter.P tariffref04_Letter.S (tariffref04_Letter.u) xs else if f == 96 then entry tariffref04_Word.P tariffref04_Word.S (tariffref04_Word.u) xs else if f == 97 then entry tariffref04_Digit.P tariffref04_Digit.S (tariffref04_Digit.u) xs else none, fun f xs => none, fun d => false⟩
def tariffref04_Name.l4.L (k : Nat) : ELoopR U := ⟨[.slot 0 .str, .slot 3 (.int .i64)], 0, [], [.slot 2 .bool], fun (v : ByteArray × Int) => tariffref04_Name.l4 k v.1 k v.2⟩
def tariffref04_Name.H (k : Nat) : Hint U := ⟨[], fun i => none, fun i => if i == 58 then some (tariffref04_Name.l4.L k) else none, fun i => none⟩
theorem tariffref04_Name.l4.ok (k n : Nat) (v : Vars U (tariffref04_Name.l4.L k).ks) : loopRT (tariffref04_Name.G k) (tariffref04_Name.H k) (pick [true, true, false, true, false, false] (bodyOf Tryz.f63)) 58 (tariffref04_Name.l4.L k) n v = (fun (v : ByteArray × Int) => tariffref04_Name.l4 k v.1 n v.2) v :=
  loopRT_eq (tariffref04_Name.G k) (tariffref04_Name.H k) _ _ (tariffref04_Name.l4.L k) (fun n (v : ByteArray × Int) => tariffref04_Name.l4 k v.1 n v.2) (fun _ => rfl) (fun n v => by kernel_rfl) n v
theorem tariffref04_Name.ev (k : Nat) (v : ByteArray) : evFn (tariffref04_Name.G k) (tariffref04_Name.H k) tariffref04_Name.S Tryz.f63 (encA tariffref04_Name.P v) = tariffref04_Name.u k v := by kernel_rfl
theorem tariffref04_Name.fns : Fns Tryz.prog 63 Tryz.f63 tariffref04_Name.P := ⟨Tryz.func63, by kernel_rfl⟩
theorem tariffref04_Name.loops (k : Nat) : LoopsOk (tariffref04_Name.G k) (tariffref04_Name.H k) (bodyOf Tryz.f63) 1 := loops_of (ps := [(58, pick [true, true, false, true, false, false] (bodyOf Tryz.f63))]) (by kernel_rfl) ⟨loopR_ok rfl rfl fun v x hx => ⟨k, (tariffref04_Name.l4.ok k k v).trans hx⟩, trivial⟩
theorem tariffref04_Name.call (k : Nat) : FnC Tryz.prog U Lay 63 tariffref04_Name.P tariffref04_Name.S (tariffref04_Name.u k) := fnC hLay ulaw gok (fun f xs => (.ite (.entry (tariffref04_Letter.call)) (.ite (.entry (tariffref04_Word.call)) (.ite (.entry (tariffref04_Digit.call)) (CallC.none))) : CallC Tryz.prog U Lay _ f xs)) (fun f xs => (CallC2.none : CallC2 Tryz.prog U Lay _ f xs)) tariffref04_Name.fns (tariffref04_Name.loops k) (tariffref04_Name.ev k)
def tariffref10_fields (k : Nat) (a0 : Node) : Option (Bool) :=
 ((if (a0.op == (4 : Int)) = true then
 (tariffref02_Form k a0.num).bind fun r1 =>
 ((if (!r1) = false then
 some a0.num.neg
 else some true) : Option Bool).bind fun b2 =>
 if b2 = true then
 some (Fl.ret false)
 else
 some (Fl.go (a0.text, a0.day, (⟨false, (⟨(0 : Int), (0 : Int)⟩ : Wide), (0 : Int)⟩ : Dec)))
 else
 if (a0.op == (5 : Int)) = true then
 (tariffref04_Valid k a0.text).bind fun r3 =>
 ((if (!r3) = false then
 some (decide ((a0.text.size : Int) > (1000 : Int)))
 else some true) : Option Bool).bind fun b4 =>
 if b4 = true then
 some (Fl.ret false)
 else
 some (Fl.go ((ByteArray.mk #[]), a0.day, a0.num))
 else
 if (a0.op == (6 : Int)) = true then
 (tariffref03_Is a0.day).bind fun r5 =>
 if (!r5) = true then
 some (Fl.ret false)
 else
 some (Fl.go (a0.text, (0 : Int), a0.num))
 else
 ((if (a0.op == (7 : Int)) = true then
 some (a0.text, a0.day, a0.op, true, a0.num)
 else
 if (a0.op == (24 : Int)) = true then
 some (a0.text, a0.day, a0.op, true, a0.num)
 else
 if (a0.op == (25 : Int)) = true then
 some (a0.text, a0.day, a0.op, true, a0.num)
 else
 some (a0.text, a0.day, a0.op, (a0.op == (28 : Int)), a0.num)) : Option (ByteArray × Int × Int × Bool × Dec)).bind fun j6 =>
 if j6.2.2.2.1 = true then
 (tariffref04_Name k j6.1).bind fun r7 =>
 if (!r7) = true then
 some (Fl.ret false)
 else
 some (Fl.go ((ByteArray.mk #[]), j6.2.1, j6.2.2.2.2))
 else
 if (j6.2.2.1 == (35 : Int)) = true then
 ((if (!(j6.1.data.toList == (ByteArray.mk #[91, 93]).data.toList)) = true then
 some (!(j6.1.data.toList == (ByteArray.mk #[91, 41]).data.toList))
 else some false) : Option Bool).bind fun b8 =>
 ((if b8 = true then
 some (!(j6.1.data.toList == (ByteArray.mk #[40, 93]).data.toList))
 else some false) : Option Bool).bind fun b9 =>
 ((if b9 = true then
 some (!(j6.1.data.toList == (ByteArray.mk #[40, 41]).data.toList))
 else some false) : Option Bool).bind fun b10 =>
 if b10 = true then
 some (Fl.ret false)
 else
 some (Fl.go ((ByteArray.mk #[]), j6.2.1, j6.2.2.2.2))
 else
 some (Fl.go (j6.1, j6.2.1, j6.2.2.2.2))) : Option (Fl (ByteArray × Int × Dec) (Bool))).bind fun o => (match o with
 | .go j11 =>
 ((if (j11.1.data.toList == (ByteArray.mk #[]).data.toList) = true then
 some ((j11.2.2.neg == false) && (((j11.2.2.coef.hi == (0 : Int)) && ((j11.2.2.coef.lo == (0 : Int)) && true)) && ((j11.2.2.scale == (0 : Int)) && true)))
 else some false) : Option Bool).bind fun b13 =>
 ((if b13 = true then
 some (j11.2.1 == (0 : Int))
 else some false) : Option Bool).bind fun b14 =>
 some b14
 | .ret j12 =>
 some j12)
def tariffref10_fields.u (k : Nat) (v : Node) : Option (Bool) := tariffref10_fields k v
def tariffref10_fields.G (k : Nat) : Ctx U := ⟨tyOf, bytesOf, fun f xs => if f == 60 then entry tariffref02_Form.P tariffref02_Form.S (tariffref02_Form.u k) xs else if f == 61 then entry tariffref04_Valid.P tariffref04_Valid.S (tariffref04_Valid.u k) xs else if f == 62 then entry tariffref03_Is.P tariffref03_Is.S (tariffref03_Is.u) xs else if f == 63 then entry tariffref04_Name.P tariffref04_Name.S (tariffref04_Name.u k) xs else none, fun f xs => none, fun d => false⟩
def tariffref10_fields.H (k : Nat) : Hint U := ⟨[], fun i => none, fun i => none, fun i => if i == 29 then some ⟨[.slot 3 .str, .ptr 4 4 [] (.st 1), .slot 5 (.int .i64), .box 4 (.st 1) []], some [.slot 2 .bool]⟩ else if i == 15101 then some ⟨[.slot 3 .str, .ptr 4 4 [] (.st 1), .slot 5 (.int .i64), .slot 13 (.int .i64), .slot 39 .bool, .box 4 (.st 1) []], none⟩ else none⟩
theorem tariffref10_fields.ev (k : Nat) (v : Node) : evFn (tariffref10_fields.G k) (tariffref10_fields.H k) tariffref10_fields.S Tryz.f38 (encA tariffref10_fields.P v) = tariffref10_fields.u k v := by kernel_rfl
theorem tariffref10_fields.fns : Fns Tryz.prog 38 Tryz.f38 tariffref10_fields.P := ⟨Tryz.func38, by kernel_rfl⟩
theorem tariffref10_fields.loops (k : Nat) : LoopsOk (tariffref10_fields.G k) (tariffref10_fields.H k) (bodyOf Tryz.f38) 1 := loops_of (ps := []) (by kernel_rfl) trivial
theorem tariffref10_fields.call (k : Nat) : FnC Tryz.prog U Lay 38 tariffref10_fields.P tariffref10_fields.S (tariffref10_fields.u k) := fnC hLay ulaw gok (fun f xs => (.ite (.entry (tariffref02_Form.call k)) (.ite (.entry (tariffref04_Valid.call k)) (.ite (.entry (tariffref03_Is.call)) (.ite (.entry (tariffref04_Name.call k)) (CallC.none)))) : CallC Tryz.prog U Lay _ f xs)) (fun f xs => (CallC2.none : CallC2 Tryz.prog U Lay _ f xs)) tariffref10_fields.fns (tariffref10_fields.loops k) (tariffref10_fields.ev k)
def tariffref10_sort (a0 : Int) : Option (Int) :=
 if (decide (a0 ≤ (27 : Int))) = true then
 some (1 : Int)
 else
 if (a0 == (28 : Int)) = true then
 some (2 : Int)
 else
 ((if (decide (a0 ≥ (30 : Int))) = true then
 some (decide (a0 ≤ (35 : Int)))
 else some false) : Option Bool).bind fun b1 =>
 if b1 = true then
 some (3 : Int)
 else
 if (a0 == (36 : Int)) = true then
 some (4 : Int)
 else
 some (5 : Int)
def tariffref10_sort.u (v : Int) : Option (Int) := tariffref10_sort v
def tariffref10_sort.G : Ctx U := ⟨tyOf, bytesOf, fun f xs => none, fun f xs => none, fun d => false⟩
def tariffref10_sort.H : Hint U := ⟨[], fun i => none, fun i => none, fun i => none⟩
theorem tariffref10_sort.ev (v : Int) : evFn (tariffref10_sort.G) (tariffref10_sort.H) tariffref10_sort.S Tryz.f39 (encA tariffref10_sort.P v) = tariffref10_sort.u v := by kernel_rfl
theorem tariffref10_sort.fns : Fns Tryz.prog 39 Tryz.f39 tariffref10_sort.P := ⟨Tryz.func39, by kernel_rfl⟩
theorem tariffref10_sort.loops : LoopsOk (tariffref10_sort.G) (tariffref10_sort.H) (bodyOf Tryz.f39) 1 := loops_of (ps := []) (by kernel_rfl) trivial
theorem tariffref10_sort.call : FnC Tryz.prog U Lay 39 tariffref10_sort.P tariffref10_sort.S (tariffref10_sort.u) := fnC hLay ulaw gok (fun f xs => (CallC.none : CallC Tryz.prog U Lay _ f xs)) (fun f xs => (CallC2.none : CallC2 Tryz.prog U Lay _ f xs)) tariffref10_sort.fns (tariffref10_sort.loops) (tariffref10_sort.ev)
def tariffref10_wants (a0 : Int) (a1 : Int) : Option (Int) :=
 if (a0 == (27 : Int)) = true then
 some (2 : Int)
 else
 if (a0 == (36 : Int)) = true then
 some (3 : Int)
 else
 ((if (a0 == (37 : Int)) = false then
 ((if (a0 == (23 : Int)) = true then
 some (a1 == (1 : Int))
 else some false) : Option Bool).bind fun b1 =>
 some b1
 else some true) : Option Bool).bind fun b2 =>
 if b2 = true then
 some (4 : Int)
 else
 some (1 : Int)
def tariffref10_wants.u (v : Int × Int) : Option (Int) := tariffref10_wants v.1 v.2
def tariffref10_wants.G : Ctx U := ⟨tyOf, bytesOf, fun f xs => none, fun f xs => none, fun d => false⟩
def tariffref10_wants.H : Hint U := ⟨[], fun i => none, fun i => none, fun i => none⟩
theorem tariffref10_wants.ev (v : Int × Int) : evFn (tariffref10_wants.G) (tariffref10_wants.H) tariffref10_wants.S Tryz.f40 (encA tariffref10_wants.P v) = tariffref10_wants.u v := by kernel_rfl
theorem tariffref10_wants.fns : Fns Tryz.prog 40 Tryz.f40 tariffref10_wants.P := ⟨Tryz.func40, by kernel_rfl⟩
theorem tariffref10_wants.loops : LoopsOk (tariffref10_wants.G) (tariffref10_wants.H) (bodyOf Tryz.f40) 1 := loops_of (ps := []) (by kernel_rfl) trivial
theorem tariffref10_wants.call : FnC Tryz.prog U Lay 40 tariffref10_wants.P tariffref10_wants.S (tariffref10_wants.u) := fnC hLay ulaw gok (fun f xs => (CallC.none : CallC Tryz.prog U Lay _ f xs)) (fun f xs => (CallC2.none : CallC2 Tryz.prog U Lay _ f xs)) tariffref10_wants.fns (tariffref10_wants.loops) (tariffref10_wants.ev)
def tariffref10_twice.l5 (k : Nat) (v0 : List Node) (v1 : List Int) (v5 : Int) : Nat → Int → Option (Fl ((List Node) × (List Int) × Int) (Bool))
 | 0, _ => none
 | n + 1, v6 =>
 if (decide (v6 < v5)) = true then
 (idx v1 v5).bind fun e1 =>
 (idx v0 e1).bind fun e2 =>
 (idx v1 v6).bind fun e3 =>
 (idx v0 e3).bind fun e4 =>
 if (e2.text.data.toList == e4.text.data.toList) = true then
 some (Fl.ret true)
 else
 tariffref10_twice.l5 k v0 v1 v5 n (IntKind.wrap .i64 (v6 + (1 : Int)))
 else
 some (Fl.go (v0, v1, v5))
def tariffref10_twice.l2 (k : Nat) : Nat → (List Node) → (List Int) → Int → Option (Fl (Unit) (Bool))
 | 0, _, _, _ => none
 | n + 1, v0, v1, v5 =>
 if (decide (v5 < (v1.length : Int))) = true then
 (tariffref10_twice.l5 k v0 v1 v5 k (0 : Int)).bind fun o => (match o with
 | .go x5 =>
 tariffref10_twice.l2 k n x5.1 x5.2.1 (IntKind.wrap .i64 (x5.2.2 + (1 : Int)))
 | .ret x6 =>
 some (Fl.ret x6))
 else
 some (Fl.go ())
def tariffref10_twice (k : Nat) (a0 : List Node) (a1 : List Int) : Option (Bool) :=
 (tariffref10_twice.l2 k k a0 a1 (0 : Int)).bind fun o => (match o with
 | .go x7 =>
 some false
 | .ret x8 =>
 some x8)
def tariffref10_twice.u (k : Nat) (v : (List Node) × (List Int)) : Option (Bool) := tariffref10_twice k v.1 v.2
def tariffref10_twice.G (k : Nat) : Ctx U := ⟨tyOf, bytesOf, fun f xs => none, fun f xs => none, fun d => false⟩
def tariffref10_twice.l5.L (k : Nat) : ELoopR U := ⟨[.slot 0 (.sl (.st 0)), .slot 1 (.sl (.int .i64)), .slot 5 (.int .i64), .slot 6 (.int .i64)], 2, [.slot 0 (.sl (.st 0)), .slot 1 (.sl (.int .i64)), .slot 5 (.int .i64)], [.slot 4 .bool], fun (v : (List Node) × (List Int) × Int × Int) => tariffref10_twice.l5 k v.1 v.2.1 v.2.2.1 k v.2.2.2⟩
def tariffref10_twice.l2.L (k : Nat) : ELoopR U := ⟨[.slot 0 (.sl (.st 0)), .slot 1 (.sl (.int .i64)), .slot 5 (.int .i64)], 0, [], [.slot 4 .bool], fun (v : (List Node) × (List Int) × Int) => tariffref10_twice.l2 k k v.1 v.2.1 v.2.2⟩
def tariffref10_twice.H (k : Nat) : Hint U := ⟨[], fun i => none, fun i => if i == 26 then some (tariffref10_twice.l2.L k) else if i == 1682 then some (tariffref10_twice.l5.L k) else none, fun i => none⟩
theorem tariffref10_twice.l5.ok (k n : Nat) (v : Vars U (tariffref10_twice.l5.L k).ks) : loopRT (tariffref10_twice.G k) (tariffref10_twice.H k) (pick [true, false, true, false, false, true, false, false, true, false, false] (bodyOf Tryz.f41)) 1682 (tariffref10_twice.l5.L k) n v = (fun (v : (List Node) × (List Int) × Int × Int) => tariffref10_twice.l5 k v.1 v.2.1 v.2.2.1 n v.2.2.2) v :=
  loopRT_eq (tariffref10_twice.G k) (tariffref10_twice.H k) _ _ (tariffref10_twice.l5.L k) (fun n (v : (List Node) × (List Int) × Int × Int) => tariffref10_twice.l5 k v.1 v.2.1 v.2.2.1 n v.2.2.2) (fun _ => rfl) (fun n v => by kernel_rfl) n v
theorem tariffref10_twice.l2.ok (k n : Nat) (v : Vars U (tariffref10_twice.l2.L k).ks) : loopRT (tariffref10_twice.G k) (tariffref10_twice.H k) (pick [true, false, true, false, false] (bodyOf Tryz.f41)) 26 (tariffref10_twice.l2.L k) n v = (fun (v : (List Node) × (List Int) × Int) => tariffref10_twice.l2 k n v.1 v.2.1 v.2.2) v :=
  loopRT_eq (tariffref10_twice.G k) (tariffref10_twice.H k) _ _ (tariffref10_twice.l2.L k) (fun n (v : (List Node) × (List Int) × Int) => tariffref10_twice.l2 k n v.1 v.2.1 v.2.2) (fun _ => rfl) (fun n v => by kernel_rfl) n v
theorem tariffref10_twice.ev (k : Nat) (v : (List Node) × (List Int)) : evFn (tariffref10_twice.G k) (tariffref10_twice.H k) tariffref10_twice.S Tryz.f41 (encA tariffref10_twice.P v) = tariffref10_twice.u k v := by kernel_rfl
theorem tariffref10_twice.fns : Fns Tryz.prog 41 Tryz.f41 tariffref10_twice.P := ⟨Tryz.func41, by kernel_rfl⟩
theorem tariffref10_twice.loops (k : Nat) : LoopsOk (tariffref10_twice.G k) (tariffref10_twice.H k) (bodyOf Tryz.f41) 1 := loops_of (ps := [(26, pick [true, false, true, false, false] (bodyOf Tryz.f41)), (1682, pick [true, false, true, false, false, true, false, false, true, false, false] (bodyOf Tryz.f41))]) (by kernel_rfl) ⟨loopR_ok rfl rfl fun v x hx => ⟨k, (tariffref10_twice.l2.ok k k v).trans hx⟩, ⟨loopR_ok rfl rfl fun v x hx => ⟨k, (tariffref10_twice.l5.ok k k v).trans hx⟩, trivial⟩⟩
theorem tariffref10_twice.call (k : Nat) : FnC Tryz.prog U Lay 41 tariffref10_twice.P tariffref10_twice.S (tariffref10_twice.u k) := fnC hLay ulaw gok (fun f xs => (CallC.none : CallC Tryz.prog U Lay _ f xs)) (fun f xs => (CallC2.none : CallC2 Tryz.prog U Lay _ f xs)) tariffref10_twice.fns (tariffref10_twice.loops k) (tariffref10_twice.ev k)
def tariffref10_Check.l14 (k : Nat) (v0 : List Node) (v1 : Bool) (v5 : List (List Int)) (v9 : Int) (v10 : Int) : Nat → (List Int) → Int → Option (Fl ((List Node) × Bool × (List (List Int)) × (List Int) × Int × Int) (Int))
 | 0, _, _ => none
 | n + 1, w8, v11 =>
 (idx v5 v10).bind fun e5 =>
 if (decide (v11 < (e5.length : Int))) = true then
 (idx v5 v10).bind fun e6 =>
 (idx e6 v11).bind fun e7 =>
 (idx v0 e7).bind fun e8 =>
 (tariffref10_sort e8.op).bind fun r9 =>
 (idx v0 v10).bind fun e10 =>
 (tariffref10_wants e10.op v11).bind fun r11 =>
 if (r9 != r11) = true then
 some (Fl.ret (2 : Int))
 else
 if 0 ≤ v10 ∧ v10 < (w8.length : Int) then
 (idx w8 v10).bind fun e12 =>
 (idx v5 v10).bind fun e13 =>
 (idx e13 v11).bind fun e14 =>
 if 0 ≤ e14 ∧ e14 < (w8.length : Int) then
 (idx w8 e14).bind fun e15 =>
 if 0 ≤ v10 ∧ v10 < (w8.length : Int) then
 (idx w8 v10).bind fun e16 =>
 tariffref10_Check.l14 k v0 v1 v5 v9 v10 n (w8.set (v10).toNat (if e15 > e12 then e15 else e12)) (IntKind.wrap .i64 (v11 + (1 : Int)))
 else none
 else none
 else none
 else
 some (Fl.go (v0, v1, v5, w8, v9, v10))
def tariffref10_Check.l9 (k : Nat) : Nat → (List Node) → Bool → (List (List Int)) → (List Int) → Int → Int → Option (Fl ((List Node) × Bool × Int) (Int))
 | 0, _, _, _, _, _, _ => none
 | n + 1, v0, v1, v5, w8, v9, v10 =>
 if (decide (v10 < (v0.length : Int))) = true then
 (idx v0 v10).bind fun e3 =>
 (tariffref10_fields k e3).bind fun r4 =>
 if (!r4) = true then
 some (Fl.ret (2 : Int))
 else
 (tariffref10_Check.l14 k v0 v1 v5 v9 v10 k w8 (0 : Int)).bind fun o => (match o with
 | .go x17 =>
 (idx x17.1 x17.2.2.2.2.2).bind fun e19 =>
 ((if (e19.op == (27 : Int)) = true then
 (idx x17.2.2.1 x17.2.2.2.2.2).bind fun e20 =>
 (tariffref10_twice k x17.1 e20).bind fun r21 =>
 some r21
 else some false) : Option Bool).bind fun b22 =>
 if b22 = true then
 some (Fl.ret (2 : Int))
 else
 if 0 ≤ x17.2.2.2.2.2 ∧ x17.2.2.2.2.2 < (x17.2.2.2.1.length : Int) then
 (idx x17.2.2.2.1 x17.2.2.2.2.2).bind fun e23 =>
 if 0 ≤ x17.2.2.2.2.2 ∧ x17.2.2.2.2.2 < (x17.2.2.2.1.length : Int) then
 (idx x17.2.2.2.1 x17.2.2.2.2.2).bind fun e24 =>
 if 0 ≤ x17.2.2.2.2.2 ∧ x17.2.2.2.2.2 < ((x17.2.2.2.1.set (x17.2.2.2.2.2).toNat (IntKind.wrap .i64 (e23 + (1 : Int)))).length : Int) then
 (idx (x17.2.2.2.1.set (x17.2.2.2.2.2).toNat (IntKind.wrap .i64 (e23 + (1 : Int)))) x17.2.2.2.2.2).bind fun e25 =>
 tariffref10_Check.l9 k n x17.1 x17.2.1 x17.2.2.1 (x17.2.2.2.1.set (x17.2.2.2.2.2).toNat (IntKind.wrap .i64 (e23 + (1 : Int)))) (if e25 > x17.2.2.2.2.1 then e25 else x17.2.2.2.2.1) (IntKind.wrap .i64 (x17.2.2.2.2.2 + (1 : Int)))
 else none
 else none
 else none
 | .ret x18 =>
 some (Fl.ret x18))
 else
 some (Fl.go (v0, v1, v9))
def tariffref10_Check (k : Nat) (a0 : List Node) (a1 : Bool) : Option (Int) :=
 if (decide ((a0.length : Int) > (300 : Int))) = true then
 some (6 : Int)
 else
 (tariffref10_stack k a0 (IntKind.wrap .i64 ((a0.length : Int) - (1 : Int)))).bind fun r1 =>
 ((if (!r1.2.2) = false then
 some ((r1.2.1.length : Int) != (1 : Int))
 else some true) : Option Bool).bind fun b2 =>
 if b2 = true then
 some (2 : Int)
 else
 if 0 ≤ (a0.length : Int) ∧ (a0.length : Int) ≤ (a0.length : Int) ∧ room (((a0.length : Int)).toNat * 8) then
 (tariffref10_Check.l9 k k a0 a1 r1.1 (List.replicate ((a0.length : Int)).toNat (0 : Int)) (0 : Int) (0 : Int)).bind fun o => (match o with
 | .go x26 =>
 (idx x26.1 (IntKind.wrap .i64 ((x26.1.length : Int) - (1 : Int)))).bind fun e28 =>
 (tariffref10_sort e28.op).bind fun r29 =>
 ((if x26.2.1 = true then
 some (r29 != (4 : Int))
 else some false) : Option Bool).bind fun b30 =>
 ((if b30 = true then
 some (r29 != (5 : Int))
 else some false) : Option Bool).bind fun b31 =>
 ((if b31 = false then
 ((if (!x26.2.1) = true then
 some (r29 != (1 : Int))
 else some false) : Option Bool).bind fun b32 =>
 some b32
 else some true) : Option Bool).bind fun b33 =>
 if b33 = true then
 some (2 : Int)
 else
 if (decide (x26.2.2 > (40 : Int))) = true then
 some (7 : Int)
 else
 some (0 : Int)
 | .ret x27 =>
 some x27)
 else none
def tariffref10_Check.u (k : Nat) (v : (List Node) × Bool) : Option (Int) := tariffref10_Check k v.1 v.2
def tariffref10_Check.G (k : Nat) : Ctx U := ⟨tyOf, bytesOf, fun f xs => if f == 37 then entry tariffref10_stack.P tariffref10_stack.S (tariffref10_stack.u k) xs else if f == 38 then entry tariffref10_fields.P tariffref10_fields.S (tariffref10_fields.u k) xs else if f == 39 then entry tariffref10_sort.P tariffref10_sort.S (tariffref10_sort.u) xs else if f == 40 then entry tariffref10_wants.P tariffref10_wants.S (tariffref10_wants.u) xs else if f == 41 then entry tariffref10_twice.P tariffref10_twice.S (tariffref10_twice.u k) xs else none, fun f xs => none, fun d => false⟩
def tariffref10_Check.l14.L (k : Nat) : ELoopR U := ⟨[.slot 0 (.sl (.st 0)), .slot 1 .bool, .slot 5 (.sl (.sl (.int .i64))), .row 8 (.int .i64), .slot 9 (.int .i64), .slot 10 (.int .i64), .slot 11 (.int .i64)], 2, [.slot 0 (.sl (.st 0)), .slot 1 .bool, .slot 5 (.sl (.sl (.int .i64))), .row 8 (.int .i64), .slot 9 (.int .i64), .slot 10 (.int .i64)], [.slot 4 (.int .i64)], fun (v : (List Node) × Bool × (List (List Int)) × (List Int) × Int × Int × Int) => tariffref10_Check.l14 k v.1 v.2.1 v.2.2.1 v.2.2.2.2.1 v.2.2.2.2.2.1 k v.2.2.2.1 v.2.2.2.2.2.2⟩
def tariffref10_Check.l9.L (k : Nat) : ELoopR U := ⟨[.slot 0 (.sl (.st 0)), .slot 1 .bool, .slot 5 (.sl (.sl (.int .i64))), .row 8 (.int .i64), .slot 9 (.int .i64), .slot 10 (.int .i64)], 0, [.slot 0 (.sl (.st 0)), .slot 1 .bool, .slot 9 (.int .i64)], [.slot 4 (.int .i64)], fun (v : (List Node) × Bool × (List (List Int)) × (List Int) × Int × Int) => tariffref10_Check.l9 k k v.1 v.2.1 v.2.2.1 v.2.2.2.1 v.2.2.2.2.1 v.2.2.2.2.2⟩
def tariffref10_Check.H (k : Nat) : Hint U := ⟨[], fun i => none, fun i => if i == 1018 then some (tariffref10_Check.l9.L k) else if i == 260682 then some (tariffref10_Check.l14.L k) else none, fun i => none⟩
theorem tariffref10_Check.l14.ok (k n : Nat) (v : Vars U (tariffref10_Check.l14.L k).ks) : loopRT (tariffref10_Check.G k) (tariffref10_Check.H k) (pick [true, true, true, true, true, true, false, true, false, false, true, false, false, true, false, true, false, false] (bodyOf Tryz.f24)) 260682 (tariffref10_Check.l14.L k) n v = (fun (v : (List Node) × Bool × (List (List Int)) × (List Int) × Int × Int × Int) => tariffref10_Check.l14 k v.1 v.2.1 v.2.2.1 v.2.2.2.2.1 v.2.2.2.2.2.1 n v.2.2.2.1 v.2.2.2.2.2.2) v :=
  loopRT_eq (tariffref10_Check.G k) (tariffref10_Check.H k) _ _ (tariffref10_Check.l14.L k) (fun n (v : (List Node) × Bool × (List (List Int)) × (List Int) × Int × Int × Int) => tariffref10_Check.l14 k v.1 v.2.1 v.2.2.1 v.2.2.2.2.1 v.2.2.2.2.2.1 n v.2.2.2.1 v.2.2.2.2.2.2) (fun _ => rfl) (fun n v => by kernel_rfl) n v
theorem tariffref10_Check.l9.ok (k n : Nat) (v : Vars U (tariffref10_Check.l9.L k).ks) : loopRT (tariffref10_Check.G k) (tariffref10_Check.H k) (pick [true, true, true, true, true, true, false, true, false, false] (bodyOf Tryz.f24)) 1018 (tariffref10_Check.l9.L k) n v = (fun (v : (List Node) × Bool × (List (List Int)) × (List Int) × Int × Int) => tariffref10_Check.l9 k n v.1 v.2.1 v.2.2.1 v.2.2.2.1 v.2.2.2.2.1 v.2.2.2.2.2) v :=
  loopRT_eq (tariffref10_Check.G k) (tariffref10_Check.H k) _ _ (tariffref10_Check.l9.L k) (fun n (v : (List Node) × Bool × (List (List Int)) × (List Int) × Int × Int) => tariffref10_Check.l9 k n v.1 v.2.1 v.2.2.1 v.2.2.2.1 v.2.2.2.2.1 v.2.2.2.2.2) (fun _ => rfl) (fun n v => by kernel_rfl) n v
theorem tariffref10_Check.ev (k : Nat) (v : (List Node) × Bool) : evFn (tariffref10_Check.G k) (tariffref10_Check.H k) tariffref10_Check.S Tryz.f24 (encA tariffref10_Check.P v) = tariffref10_Check.u k v := by kernel_rfl
theorem tariffref10_Check.fns : Fns Tryz.prog 24 Tryz.f24 tariffref10_Check.P := ⟨Tryz.func24, by kernel_rfl⟩
theorem tariffref10_Check.loops (k : Nat) : LoopsOk (tariffref10_Check.G k) (tariffref10_Check.H k) (bodyOf Tryz.f24) 1 := loops_of (ps := [(1018, pick [true, true, true, true, true, true, false, true, false, false] (bodyOf Tryz.f24)), (260682, pick [true, true, true, true, true, true, false, true, false, false, true, false, false, true, false, true, false, false] (bodyOf Tryz.f24))]) (by kernel_rfl) ⟨loopR_ok rfl rfl fun v x hx => ⟨k, (tariffref10_Check.l9.ok k k v).trans hx⟩, ⟨loopR_ok rfl rfl fun v x hx => ⟨k, (tariffref10_Check.l14.ok k k v).trans hx⟩, trivial⟩⟩
theorem tariffref10_Check.call (k : Nat) : FnC Tryz.prog U Lay 24 tariffref10_Check.P tariffref10_Check.S (tariffref10_Check.u k) := fnC hLay ulaw gok (fun f xs => (.ite (.entry (tariffref10_stack.call k)) (.ite (.entry (tariffref10_fields.call k)) (.ite (.entry (tariffref10_sort.call)) (.ite (.entry (tariffref10_wants.call)) (.ite (.entry (tariffref10_twice.call k)) (CallC.none))))) : CallC Tryz.prog U Lay _ f xs)) (fun f xs => (CallC2.none : CallC2 Tryz.prog U Lay _ f xs)) tariffref10_Check.fns (tariffref10_Check.loops k) (tariffref10_Check.ev k)
def tariffref10_Places (k : Nat) (a0 : List Node) : Option ((List (List Int))) :=
 (tariffref10_stack k a0 (IntKind.wrap .i64 ((a0.length : Int) - (1 : Int)))).bind fun r1 =>
 some r1.1
def tariffref10_Places.u (k : Nat) (v : (List Node)) : Option ((List (List Int))) := tariffref10_Places k v
def tariffref10_Places.G (k : Nat) : Ctx U := ⟨tyOf, bytesOf, fun f xs => if f == 37 then entry tariffref10_stack.P tariffref10_stack.S (tariffref10_stack.u k) xs else none, fun f xs => none, fun d => false⟩
def tariffref10_Places.H (k : Nat) : Hint U := ⟨[], fun i => none, fun i => none, fun i => none⟩
theorem tariffref10_Places.ev (k : Nat) (v : (List Node)) : evFn (tariffref10_Places.G k) (tariffref10_Places.H k) tariffref10_Places.S Tryz.f43 (encA tariffref10_Places.P v) = tariffref10_Places.u k v := by kernel_rfl
theorem tariffref10_Places.fns : Fns Tryz.prog 43 Tryz.f43 tariffref10_Places.P := ⟨Tryz.func43, by kernel_rfl⟩
theorem tariffref10_Places.loops (k : Nat) : LoopsOk (tariffref10_Places.G k) (tariffref10_Places.H k) (bodyOf Tryz.f43) 1 := loops_of (ps := []) (by kernel_rfl) trivial
theorem tariffref10_Places.call (k : Nat) : FnC Tryz.prog U Lay 43 tariffref10_Places.P tariffref10_Places.S (tariffref10_Places.u k) := fnC hLay ulaw gok (fun f xs => (.ite (.entry (tariffref10_stack.call k)) (CallC.none) : CallC Tryz.prog U Lay _ f xs)) (fun f xs => (CallC2.none : CallC2 Tryz.prog U Lay _ f xs)) tariffref10_Places.fns (tariffref10_Places.loops k) (tariffref10_Places.ev k)
def tariffref12_isTest (a0 : Int) : Option (Bool) :=
 ((if (decide (a0 ≥ (30 : Int))) = true then
 some (decide (a0 ≤ (35 : Int)))
 else some false) : Option Bool).bind fun b1 =>
 some b1
def tariffref12_isTest.u (v : Int) : Option (Bool) := tariffref12_isTest v
def tariffref12_isTest.G : Ctx U := ⟨tyOf, bytesOf, fun f xs => none, fun f xs => none, fun d => false⟩
def tariffref12_isTest.H : Hint U := ⟨[], fun i => none, fun i => none, fun i => none⟩
theorem tariffref12_isTest.ev (v : Int) : evFn (tariffref12_isTest.G) (tariffref12_isTest.H) tariffref12_isTest.S Tryz.f52 (encA tariffref12_isTest.P v) = tariffref12_isTest.u v := by kernel_rfl
theorem tariffref12_isTest.fns : Fns Tryz.prog 52 Tryz.f52 tariffref12_isTest.P := ⟨Tryz.func52, by kernel_rfl⟩
theorem tariffref12_isTest.loops : LoopsOk (tariffref12_isTest.G) (tariffref12_isTest.H) (bodyOf Tryz.f52) 1 := loops_of (ps := []) (by kernel_rfl) trivial
theorem tariffref12_isTest.call : FnC Tryz.prog U Lay 52 tariffref12_isTest.P tariffref12_isTest.S (tariffref12_isTest.u) := fnC hLay ulaw gok (fun f xs => (CallC.none : CallC Tryz.prog U Lay _ f xs)) (fun f xs => (CallC2.none : CallC2 Tryz.prog U Lay _ f xs)) tariffref12_isTest.fns (tariffref12_isTest.loops) (tariffref12_isTest.ev)
def tariffref07_Truth (a0 : Bool) : Option (Val) :=
 some (⟨(1 : Int), a0, (⟨false, (⟨(0 : Int), (0 : Int)⟩ : Wide), (0 : Int)⟩ : Dec), ByteArray.empty, (0 : Int), ([] : List Val), ([] : List ByteArray)⟩ : Val)
def tariffref07_Truth.u (v : Bool) : Option (Val) := tariffref07_Truth v
def tariffref07_Truth.G : Ctx U := ⟨tyOf, bytesOf, fun f xs => none, fun f xs => none, fun d => false⟩
def tariffref07_Truth.H : Hint U := ⟨[], fun i => none, fun i => none, fun i => none⟩
theorem tariffref07_Truth.ev (v : Bool) : evFn (tariffref07_Truth.G) (tariffref07_Truth.H) tariffref07_Truth.S Tryz.f65 (encA tariffref07_Truth.P v) = tariffref07_Truth.u v := by kernel_rfl
theorem tariffref07_Truth.fns : Fns Tryz.prog 65 Tryz.f65 tariffref07_Truth.P := ⟨Tryz.func65, by kernel_rfl⟩
theorem tariffref07_Truth.loops : LoopsOk (tariffref07_Truth.G) (tariffref07_Truth.H) (bodyOf Tryz.f65) 1 := loops_of (ps := []) (by kernel_rfl) trivial
theorem tariffref07_Truth.call : FnC Tryz.prog U Lay 65 tariffref07_Truth.P tariffref07_Truth.S (tariffref07_Truth.u) := fnC hLay ulaw gok (fun f xs => (CallC.none : CallC Tryz.prog U Lay _ f xs)) (fun f xs => (CallC2.none : CallC2 Tryz.prog U Lay _ f xs)) tariffref07_Truth.fns (tariffref07_Truth.loops) (tariffref07_Truth.ev)
def tariffref02_Flip (a0 : Dec) : Option (Dec) :=
 ((if (!a0.neg) = true then
 some (!((a0.coef.hi == (0 : Int)) && ((a0.coef.lo == (0 : Int)) && true)))
 else some false) : Option Bool).bind fun b1 =>
 some (⟨b1, a0.coef, a0.scale⟩ : Dec)
def tariffref02_Flip.u (v : Dec) : Option (Dec) := tariffref02_Flip v
def tariffref02_Flip.G : Ctx U := ⟨tyOf, bytesOf, fun f xs => none, fun f xs => none, fun d => false⟩
def tariffref02_Flip.H : Hint U := ⟨[], fun i => none, fun i => none, fun i => none⟩
theorem tariffref02_Flip.ev (v : Dec) : evFn (tariffref02_Flip.G) (tariffref02_Flip.H) tariffref02_Flip.S Tryz.f82 (encA tariffref02_Flip.P v) = tariffref02_Flip.u v := by kernel_rfl
theorem tariffref02_Flip.fns : Fns Tryz.prog 82 Tryz.f82 tariffref02_Flip.P := ⟨Tryz.func82, by kernel_rfl⟩
theorem tariffref02_Flip.loops : LoopsOk (tariffref02_Flip.G) (tariffref02_Flip.H) (bodyOf Tryz.f82) 1 := loops_of (ps := []) (by kernel_rfl) trivial
theorem tariffref02_Flip.call : FnC Tryz.prog U Lay 82 tariffref02_Flip.P tariffref02_Flip.S (tariffref02_Flip.u) := fnC hLay ulaw gok (fun f xs => (CallC.none : CallC Tryz.prog U Lay _ f xs)) (fun f xs => (CallC2.none : CallC2 Tryz.prog U Lay _ f xs)) tariffref02_Flip.fns (tariffref02_Flip.loops) (tariffref02_Flip.ev)
def tariffref12_literal (a0 : List Node) (a1 : List (List Int)) (a2 : Int) : Option (Val × Bool) :=
 (idx a0 a2).bind fun e1 =>
 ((if (e1.op == (2 : Int)) = true then
 some (a0, a1, a2, e1.op, true, (⟨(0 : Int), false, (⟨false, (⟨(0 : Int), (0 : Int)⟩ : Wide), (0 : Int)⟩ : Dec), ByteArray.empty, (0 : Int), ([] : List Val), ([] : List ByteArray)⟩ : Val), e1)
 else
 some (a0, a1, a2, e1.op, (e1.op == (3 : Int)), (⟨(0 : Int), false, (⟨false, (⟨(0 : Int), (0 : Int)⟩ : Wide), (0 : Int)⟩ : Dec), ByteArray.empty, (0 : Int), ([] : List Val), ([] : List ByteArray)⟩ : Val), e1)) : Option ((List Node) × (List (List Int)) × Int × Int × Bool × Val × Node)).bind fun j2 =>
 if j2.2.2.2.2.1 = true then
 (tariffref07_Truth (j2.2.2.2.2.2.2.op == (2 : Int))).bind fun r3 =>
 some (r3, true)
 else
 if (j2.2.2.2.1 == (4 : Int)) = true then
 some ((⟨(2 : Int), false, j2.2.2.2.2.2.2.num, ByteArray.empty, (0 : Int), ([] : List Val), ([] : List ByteArray)⟩ : Val), true)
 else
 if (j2.2.2.2.1 == (5 : Int)) = true then
 some ((⟨(3 : Int), false, (⟨false, (⟨(0 : Int), (0 : Int)⟩ : Wide), (0 : Int)⟩ : Dec), j2.2.2.2.2.2.2.text, (0 : Int), ([] : List Val), ([] : List ByteArray)⟩ : Val), true)
 else
 if (j2.2.2.2.1 == (6 : Int)) = true then
 some ((⟨(4 : Int), false, (⟨false, (⟨(0 : Int), (0 : Int)⟩ : Wide), (0 : Int)⟩ : Dec), ByteArray.empty, j2.2.2.2.2.2.2.day, ([] : List Val), ([] : List ByteArray)⟩ : Val), true)
 else
 if (j2.2.2.2.1 == (8 : Int)) = true then
 (idx j2.2.1 j2.2.2.1).bind fun e4 =>
 (idx e4 (0 : Int)).bind fun e5 =>
 (idx j2.1 e5).bind fun e6 =>
 if (e6.op == (4 : Int)) = true then
 (idx j2.1 e5).bind fun e7 =>
 (tariffref02_Flip e7.num).bind fun r8 =>
 some ((⟨(2 : Int), false, r8, ByteArray.empty, (0 : Int), ([] : List Val), ([] : List ByteArray)⟩ : Val), true)
 else
 some ((⟨(0 : Int), false, (⟨false, (⟨(0 : Int), (0 : Int)⟩ : Wide), (0 : Int)⟩ : Dec), ByteArray.empty, (0 : Int), ([] : List Val), ([] : List ByteArray)⟩ : Val), false)
 else
 some ((⟨(0 : Int), false, (⟨false, (⟨(0 : Int), (0 : Int)⟩ : Wide), (0 : Int)⟩ : Dec), ByteArray.empty, (0 : Int), ([] : List Val), ([] : List ByteArray)⟩ : Val), false)
def tariffref12_literal.u (v : (List Node) × (List (List Int)) × Int) : Option (Val × Bool) := tariffref12_literal v.1 v.2.1 v.2.2
def tariffref12_literal.G : Ctx U := ⟨tyOf, bytesOf, fun f xs => if f == 65 then entry tariffref07_Truth.P tariffref07_Truth.S (tariffref07_Truth.u) xs else if f == 82 then entry tariffref02_Flip.P tariffref02_Flip.S (tariffref02_Flip.u) xs else none, fun f xs => none, fun d => false⟩
def tariffref12_literal.H : Hint U := ⟨[], fun i => none, fun i => none, fun i => if i == 233 then some ⟨[.slot 0 (.sl (.st 0)), .slot 1 (.sl (.sl (.int .i64))), .slot 2 (.int .i64), .ptr 6 6 [] (.st 3), .ptr 8 8 [] (.st 0), .slot 15 (.int .i64), .slot 16 .bool, .box 6 (.st 3) [[5], [6]], .box 8 (.st 0) []], none⟩ else none⟩
theorem tariffref12_literal.ev (v : (List Node) × (List (List Int)) × Int) : evFn (tariffref12_literal.G) (tariffref12_literal.H) tariffref12_literal.S Tryz.f53 (encA tariffref12_literal.P v) = tariffref12_literal.u v := by kernel_rfl
theorem tariffref12_literal.fns : Fns Tryz.prog 53 Tryz.f53 tariffref12_literal.P := ⟨Tryz.func53, by kernel_rfl⟩
theorem tariffref12_literal.loops : LoopsOk (tariffref12_literal.G) (tariffref12_literal.H) (bodyOf Tryz.f53) 1 := loops_of (ps := []) (by kernel_rfl) trivial
theorem tariffref12_literal.call : FnC Tryz.prog U Lay 53 tariffref12_literal.P tariffref12_literal.S (tariffref12_literal.u) := fnC hLay ulaw gok (fun f xs => (.ite (.entry (tariffref07_Truth.call)) (.ite (.entry (tariffref02_Flip.call)) (CallC.none)) : CallC Tryz.prog U Lay _ f xs)) (fun f xs => (CallC2.none : CallC2 Tryz.prog U Lay _ f xs)) tariffref12_literal.fns (tariffref12_literal.loops) (tariffref12_literal.ev)
def tariffref12_ends.l7 (k : Nat) (v0 : List Node) (v4 : List (List Int)) (v6 : Int) : Nat → (List Val) → Int → Option (Fl ((List Node) × (List (List Int)) × (List Val) × Int) ((List Val) × Bool))
 | 0, _, _ => none
 | n + 1, w5, v7 =>
 (idx v0 v6).bind fun e2 =>
 (tariffref12_isTest e2.op).bind fun r3 =>
 ((if r3 = true then
 (idx v4 v6).bind fun e4 =>
 some (decide (v7 < (e4.length : Int)))
 else some false) : Option Bool).bind fun b5 =>
 if b5 = true then
 (idx v4 v6).bind fun e6 =>
 (idx e6 v7).bind fun e7 =>
 (tariffref12_literal v0 v4 e7).bind fun r8 =>
 if (!r8.2) = true then
 some (Fl.ret (([] : List Val), false))
 else
 if room ((w5.length + ([r8.1] : List Val).length) * 120) then
 tariffref12_ends.l7 k v0 v4 v6 n (w5 ++ ([r8.1] : List Val)) (IntKind.wrap .i64 (v7 + (1 : Int)))
 else none
 else
 some (Fl.go (v0, v4, w5, v6))
def tariffref12_ends.l4 (k : Nat) : Nat → (List Node) → (List (List Int)) → (List Val) → Int → Option (Fl ((List Val)) ((List Val) × Bool))
 | 0, _, _, _, _ => none
 | n + 1, v0, v4, w5, v6 =>
 if (decide (v6 < (v0.length : Int))) = true then
 (tariffref12_ends.l7 k v0 v4 v6 k w5 (0 : Int)).bind fun o => (match o with
 | .go x9 =>
 tariffref12_ends.l4 k n x9.1 x9.2.1 x9.2.2.1 (IntKind.wrap .i64 (x9.2.2.2 + (1 : Int)))
 | .ret x10 =>
 some (Fl.ret (x10.1, x10.2)))
 else
 some (Fl.go w5)
def tariffref12_ends (k : Nat) (a0 : List Node) : Option ((List Val) × Bool) :=
 (tariffref10_Places k a0).bind fun r1 =>
 (tariffref12_ends.l4 k k a0 r1 ([] : List Val) (0 : Int)).bind fun o => (match o with
 | .go x11 =>
 some (x11, true)
 | .ret x12 =>
 some (x12.1, x12.2))
def tariffref12_ends.u (k : Nat) (v : (List Node)) : Option ((List Val) × Bool) := tariffref12_ends k v
def tariffref12_ends.G (k : Nat) : Ctx U := ⟨tyOf, bytesOf, fun f xs => if f == 43 then entry tariffref10_Places.P tariffref10_Places.S (tariffref10_Places.u k) xs else if f == 52 then entry tariffref12_isTest.P tariffref12_isTest.S (tariffref12_isTest.u) xs else if f == 53 then entry tariffref12_literal.P tariffref12_literal.S (tariffref12_literal.u) xs else none, fun f xs => none, fun d => false⟩
def tariffref12_ends.l7.L (k : Nat) : ELoopR U := ⟨[.slot 0 (.sl (.st 0)), .slot 4 (.sl (.sl (.int .i64))), .row 5 (.st 3), .slot 6 (.int .i64), .slot 7 (.int .i64)], 2, [.slot 0 (.sl (.st 0)), .slot 4 (.sl (.sl (.int .i64))), .row 5 (.st 3), .slot 6 (.int .i64)], [.slot 2 (.sl (.st 3)), .slot 3 .bool], fun (v : (List Node) × (List (List Int)) × (List Val) × Int × Int) => tariffref12_ends.l7 k v.1 v.2.1 v.2.2.2.1 k v.2.2.1 v.2.2.2.2⟩
def tariffref12_ends.l4.L (k : Nat) : ELoopR U := ⟨[.slot 0 (.sl (.st 0)), .slot 4 (.sl (.sl (.int .i64))), .row 5 (.st 3), .slot 6 (.int .i64)], 0, [.row 5 (.st 3)], [.slot 2 (.sl (.st 3)), .slot 3 .bool], fun (v : (List Node) × (List (List Int)) × (List Val) × Int) => tariffref12_ends.l4 k k v.1 v.2.1 v.2.2.1 v.2.2.2⟩
def tariffref12_ends.H (k : Nat) : Hint U := ⟨[], fun i => none, fun i => if i == 122 then some (tariffref12_ends.l4.L k) else if i == 7826 then some (tariffref12_ends.l7.L k) else none, fun i => none⟩
theorem tariffref12_ends.l7.ok (k n : Nat) (v : Vars U (tariffref12_ends.l7.L k).ks) : loopRT (tariffref12_ends.G k) (tariffref12_ends.H k) (pick [true, true, true, false, true, false, false, true, false, false, true, false, false] (bodyOf Tryz.f32)) 7826 (tariffref12_ends.l7.L k) n v = (fun (v : (List Node) × (List (List Int)) × (List Val) × Int × Int) => tariffref12_ends.l7 k v.1 v.2.1 v.2.2.2.1 n v.2.2.1 v.2.2.2.2) v :=
  loopRT_eq (tariffref12_ends.G k) (tariffref12_ends.H k) _ _ (tariffref12_ends.l7.L k) (fun n (v : (List Node) × (List (List Int)) × (List Val) × Int × Int) => tariffref12_ends.l7 k v.1 v.2.1 v.2.2.2.1 n v.2.2.1 v.2.2.2.2) (fun _ => rfl) (fun n v => by kernel_rfl) n v
theorem tariffref12_ends.l4.ok (k n : Nat) (v : Vars U (tariffref12_ends.l4.L k).ks) : loopRT (tariffref12_ends.G k) (tariffref12_ends.H k) (pick [true, true, true, false, true, false, false] (bodyOf Tryz.f32)) 122 (tariffref12_ends.l4.L k) n v = (fun (v : (List Node) × (List (List Int)) × (List Val) × Int) => tariffref12_ends.l4 k n v.1 v.2.1 v.2.2.1 v.2.2.2) v :=
  loopRT_eq (tariffref12_ends.G k) (tariffref12_ends.H k) _ _ (tariffref12_ends.l4.L k) (fun n (v : (List Node) × (List (List Int)) × (List Val) × Int) => tariffref12_ends.l4 k n v.1 v.2.1 v.2.2.1 v.2.2.2) (fun _ => rfl) (fun n v => by kernel_rfl) n v
theorem tariffref12_ends.ev (k : Nat) (v : (List Node)) : evFn (tariffref12_ends.G k) (tariffref12_ends.H k) tariffref12_ends.S Tryz.f32 (encA tariffref12_ends.P v) = tariffref12_ends.u k v := by kernel_rfl
theorem tariffref12_ends.fns : Fns Tryz.prog 32 Tryz.f32 tariffref12_ends.P := ⟨Tryz.func32, by kernel_rfl⟩
theorem tariffref12_ends.loops (k : Nat) : LoopsOk (tariffref12_ends.G k) (tariffref12_ends.H k) (bodyOf Tryz.f32) 1 := loops_of (ps := [(122, pick [true, true, true, false, true, false, false] (bodyOf Tryz.f32)), (7826, pick [true, true, true, false, true, false, false, true, false, false, true, false, false] (bodyOf Tryz.f32))]) (by kernel_rfl) ⟨loopR_ok rfl rfl fun v x hx => ⟨k, (tariffref12_ends.l4.ok k k v).trans hx⟩, ⟨loopR_ok rfl rfl fun v x hx => ⟨k, (tariffref12_ends.l7.ok k k v).trans hx⟩, trivial⟩⟩
theorem tariffref12_ends.call (k : Nat) : FnC Tryz.prog U Lay 32 tariffref12_ends.P tariffref12_ends.S (tariffref12_ends.u k) := fnC hLay ulaw gok (fun f xs => (.ite (.entry (tariffref10_Places.call k)) (.ite (.entry (tariffref12_isTest.call)) (.ite (.entry (tariffref12_literal.call)) (CallC.none))) : CallC Tryz.prog U Lay _ f xs)) (fun f xs => (CallC2.none : CallC2 Tryz.prog U Lay _ f xs)) tariffref12_ends.fns (tariffref12_ends.loops k) (tariffref12_ends.ev k)
def tariffref12_Plain (k : Nat) (a0 : List Node) : Option (Bool) :=
 (tariffref12_ends k a0).bind fun r1 =>
 some r1.2
def tariffref12_Plain.u (k : Nat) (v : (List Node)) : Option (Bool) := tariffref12_Plain k v
def tariffref12_Plain.G (k : Nat) : Ctx U := ⟨tyOf, bytesOf, fun f xs => if f == 32 then entry tariffref12_ends.P tariffref12_ends.S (tariffref12_ends.u k) xs else none, fun f xs => none, fun d => false⟩
def tariffref12_Plain.H (k : Nat) : Hint U := ⟨[], fun i => none, fun i => none, fun i => none⟩
theorem tariffref12_Plain.ev (k : Nat) (v : (List Node)) : evFn (tariffref12_Plain.G k) (tariffref12_Plain.H k) tariffref12_Plain.S Tryz.f25 (encA tariffref12_Plain.P v) = tariffref12_Plain.u k v := by kernel_rfl
theorem tariffref12_Plain.fns : Fns Tryz.prog 25 Tryz.f25 tariffref12_Plain.P := ⟨Tryz.func25, by kernel_rfl⟩
theorem tariffref12_Plain.loops (k : Nat) : LoopsOk (tariffref12_Plain.G k) (tariffref12_Plain.H k) (bodyOf Tryz.f25) 1 := loops_of (ps := []) (by kernel_rfl) trivial
theorem tariffref12_Plain.call (k : Nat) : FnC Tryz.prog U Lay 25 tariffref12_Plain.P tariffref12_Plain.S (tariffref12_Plain.u k) := fnC hLay ulaw gok (fun f xs => (.ite (.entry (tariffref12_ends.call k)) (CallC.none) : CallC Tryz.prog U Lay _ f xs)) (fun f xs => (CallC2.none : CallC2 Tryz.prog U Lay _ f xs)) tariffref12_Plain.fns (tariffref12_Plain.loops k) (tariffref12_Plain.ev k)
def tariffref12_DocPlain (k : Nat) (a0 : List Node) : Option (Bool × Int) :=
 (tariffref10_Check k a0 true).bind fun r1 =>
 if (r1 != (0 : Int)) = true then
 some (false, r1)
 else
 (tariffref12_Plain k a0).bind fun r2 =>
 some (r2, (0 : Int))
def tariffref12_DocPlain.u (k : Nat) (v : (List Node)) : Option (Bool × Int) := tariffref12_DocPlain k v
def tariffref12_DocPlain.G (k : Nat) : Ctx U := ⟨tyOf, bytesOf, fun f xs => if f == 24 then entry tariffref10_Check.P tariffref10_Check.S (tariffref10_Check.u k) xs else if f == 25 then entry tariffref12_Plain.P tariffref12_Plain.S (tariffref12_Plain.u k) xs else none, fun f xs => none, fun d => false⟩
def tariffref12_DocPlain.H (k : Nat) : Hint U := ⟨[], fun i => none, fun i => none, fun i => none⟩
theorem tariffref12_DocPlain.ev (k : Nat) (v : (List Node)) : evFn (tariffref12_DocPlain.G k) (tariffref12_DocPlain.H k) tariffref12_DocPlain.S Tryz.f16 (encA tariffref12_DocPlain.P v) = tariffref12_DocPlain.u k v := by kernel_rfl
theorem tariffref12_DocPlain.fns : Fns Tryz.prog 16 Tryz.f16 tariffref12_DocPlain.P := ⟨Tryz.func16, by kernel_rfl⟩
theorem tariffref12_DocPlain.loops (k : Nat) : LoopsOk (tariffref12_DocPlain.G k) (tariffref12_DocPlain.H k) (bodyOf Tryz.f16) 1 := loops_of (ps := []) (by kernel_rfl) trivial
theorem tariffref12_DocPlain.call (k : Nat) : FnC Tryz.prog U Lay 16 tariffref12_DocPlain.P tariffref12_DocPlain.S (tariffref12_DocPlain.u k) := fnC hLay ulaw gok (fun f xs => (.ite (.entry (tariffref10_Check.call k)) (.ite (.entry (tariffref12_Plain.call k)) (CallC.none)) : CallC Tryz.prog U Lay _ f xs)) (fun f xs => (CallC2.none : CallC2 Tryz.prog U Lay _ f xs)) tariffref12_DocPlain.fns (tariffref12_DocPlain.loops k) (tariffref12_DocPlain.ev k)
def unary_Plain (k : Nat) (a0 : List Node) : Option (Bool × Int) :=
 (unary_gathered k a0).bind fun o => o.elim (fun r1 =>
 some (r1.2.1, r1.2.2)) (fun r2 =>
 some (r2.1, r2.2))
def unary_Plain.u (k : Nat) (v : (List Node)) : Option (Bool × Int) := unary_Plain k v
def unary_Plain.G (k : Nat) : Ctx U := ⟨tyOf, bytesOf, fun f xs => none, fun f xs => if f == 31 then entry2 unary_gathered.P unary_gathered.S unary_gathered.S2 (unary_gathered.u k) xs else none, fun d => false⟩
def unary_Plain.H (k : Nat) : Hint U := ⟨[], fun i => none, fun i => none, fun i => none⟩
theorem unary_Plain.ev (k : Nat) (v : (List Node)) : evFn (unary_Plain.G k) (unary_Plain.H k) unary_Plain.S Tryz.f17 (encA unary_Plain.P v) = unary_Plain.u k v := by kernel_rfl
theorem unary_Plain.fns : Fns Tryz.prog 17 Tryz.f17 unary_Plain.P := ⟨Tryz.func17, by kernel_rfl⟩
theorem unary_Plain.loops (k : Nat) : LoopsOk (unary_Plain.G k) (unary_Plain.H k) (bodyOf Tryz.f17) 1 := loops_of (ps := []) (by kernel_rfl) trivial
theorem unary_Plain.call (k : Nat) : FnC Tryz.prog U Lay 17 unary_Plain.P unary_Plain.S (unary_Plain.u k) := fnC hLay ulaw gok (fun f xs => (CallC.none : CallC Tryz.prog U Lay _ f xs)) (fun f xs => (.ite (.entry (unary_gathered.call k)) (CallC2.none) : CallC2 Tryz.prog U Lay _ f xs)) unary_Plain.fns (unary_Plain.loops k) (unary_Plain.ev k)
def tariffref12_DocEnds (k : Nat) (a0 : List Node) : Option ((List Val) × Int) :=
 (tariffref10_Check k a0 true).bind fun r1 =>
 if (r1 != (0 : Int)) = true then
 some (([] : List Val), r1)
 else
 (tariffref12_ends k a0).bind fun r2 =>
 if (!r2.2) = true then
 some (([] : List Val), (18 : Int))
 else
 some (r2.1, (0 : Int))
def tariffref12_DocEnds.u (k : Nat) (v : (List Node)) : Option ((List Val) × Int) := tariffref12_DocEnds k v
def tariffref12_DocEnds.G (k : Nat) : Ctx U := ⟨tyOf, bytesOf, fun f xs => if f == 24 then entry tariffref10_Check.P tariffref10_Check.S (tariffref10_Check.u k) xs else if f == 32 then entry tariffref12_ends.P tariffref12_ends.S (tariffref12_ends.u k) xs else none, fun f xs => none, fun d => false⟩
def tariffref12_DocEnds.H (k : Nat) : Hint U := ⟨[], fun i => none, fun i => none, fun i => none⟩
theorem tariffref12_DocEnds.ev (k : Nat) (v : (List Node)) : evFn (tariffref12_DocEnds.G k) (tariffref12_DocEnds.H k) tariffref12_DocEnds.S Tryz.f13 (encA tariffref12_DocEnds.P v) = tariffref12_DocEnds.u k v := by kernel_rfl
theorem tariffref12_DocEnds.fns : Fns Tryz.prog 13 Tryz.f13 tariffref12_DocEnds.P := ⟨Tryz.func13, by kernel_rfl⟩
theorem tariffref12_DocEnds.loops (k : Nat) : LoopsOk (tariffref12_DocEnds.G k) (tariffref12_DocEnds.H k) (bodyOf Tryz.f13) 1 := loops_of (ps := []) (by kernel_rfl) trivial
theorem tariffref12_DocEnds.call (k : Nat) : FnC Tryz.prog U Lay 13 tariffref12_DocEnds.P tariffref12_DocEnds.S (tariffref12_DocEnds.u k) := fnC hLay ulaw gok (fun f xs => (.ite (.entry (tariffref10_Check.call k)) (.ite (.entry (tariffref12_ends.call k)) (CallC.none)) : CallC Tryz.prog U Lay _ f xs)) (fun f xs => (CallC2.none : CallC2 Tryz.prog U Lay _ f xs)) tariffref12_DocEnds.fns (tariffref12_DocEnds.loops k) (tariffref12_DocEnds.ev k)
def tariffref12_Only.l4 (k : Nat) (v0 : List Node) : Nat → Int → Option (Fl ((List Node)) ((List Val) × Bool))
 | 0, _ => none
 | n + 1, v4 =>
 if (decide (v4 < (v0.length : Int))) = true then
 (idx v0 v4).bind fun e2 =>
 (tariffref12_isTest e2.op).bind fun r3 =>
 ((if r3 = true then
 (idx v0 v4).bind fun e4 =>
 some (e4.op != (30 : Int))
 else some false) : Option Bool).bind fun b5 =>
 if b5 = true then
 some (Fl.ret (([] : List Val), false))
 else
 tariffref12_Only.l4 k v0 n (IntKind.wrap .i64 (v4 + (1 : Int)))
 else
 some (Fl.go v0)
def tariffref12_Only (k : Nat) (a0 : List Node) : Option ((List Val) × Bool) :=
 (idx a0 (IntKind.wrap .i64 ((a0.length : Int) - (1 : Int)))).bind fun e1 =>
 if (e1.op != (36 : Int)) = true then
 some (([] : List Val), false)
 else
 (tariffref12_Only.l4 k a0 k (0 : Int)).bind fun o => (match o with
 | .go x6 =>
 (tariffref12_ends k x6).bind fun r8 =>
 some (r8.1, r8.2)
 | .ret x7 =>
 some (x7.1, x7.2))
def tariffref12_Only.u (k : Nat) (v : (List Node)) : Option ((List Val) × Bool) := tariffref12_Only k v
def tariffref12_Only.G (k : Nat) : Ctx U := ⟨tyOf, bytesOf, fun f xs => if f == 52 then entry tariffref12_isTest.P tariffref12_isTest.S (tariffref12_isTest.u) xs else if f == 32 then entry tariffref12_ends.P tariffref12_ends.S (tariffref12_ends.u k) xs else none, fun f xs => none, fun d => false⟩
def tariffref12_Only.l4.L (k : Nat) : ELoopR U := ⟨[.slot 0 (.sl (.st 0)), .slot 4 (.int .i64)], 0, [.slot 0 (.sl (.st 0))], [.slot 2 (.sl (.st 3)), .slot 3 .bool], fun (v : (List Node) × Int) => tariffref12_Only.l4 k v.1 k v.2⟩
def tariffref12_Only.H (k : Nat) : Hint U := ⟨[], fun i => none, fun i => if i == 58 then some (tariffref12_Only.l4.L k) else none, fun i => none⟩
theorem tariffref12_Only.l4.ok (k n : Nat) (v : Vars U (tariffref12_Only.l4.L k).ks) : loopRT (tariffref12_Only.G k) (tariffref12_Only.H k) (pick [true, true, false, true, false, false] (bodyOf Tryz.f33)) 58 (tariffref12_Only.l4.L k) n v = (fun (v : (List Node) × Int) => tariffref12_Only.l4 k v.1 n v.2) v :=
  loopRT_eq (tariffref12_Only.G k) (tariffref12_Only.H k) _ _ (tariffref12_Only.l4.L k) (fun n (v : (List Node) × Int) => tariffref12_Only.l4 k v.1 n v.2) (fun _ => rfl) (fun n v => by kernel_rfl) n v
theorem tariffref12_Only.ev (k : Nat) (v : (List Node)) : evFn (tariffref12_Only.G k) (tariffref12_Only.H k) tariffref12_Only.S Tryz.f33 (encA tariffref12_Only.P v) = tariffref12_Only.u k v := by kernel_rfl
theorem tariffref12_Only.fns : Fns Tryz.prog 33 Tryz.f33 tariffref12_Only.P := ⟨Tryz.func33, by kernel_rfl⟩
theorem tariffref12_Only.loops (k : Nat) : LoopsOk (tariffref12_Only.G k) (tariffref12_Only.H k) (bodyOf Tryz.f33) 1 := loops_of (ps := [(58, pick [true, true, false, true, false, false] (bodyOf Tryz.f33))]) (by kernel_rfl) ⟨loopR_ok rfl rfl fun v x hx => ⟨k, (tariffref12_Only.l4.ok k k v).trans hx⟩, trivial⟩
theorem tariffref12_Only.call (k : Nat) : FnC Tryz.prog U Lay 33 tariffref12_Only.P tariffref12_Only.S (tariffref12_Only.u k) := fnC hLay ulaw gok (fun f xs => (.ite (.entry (tariffref12_isTest.call)) (.ite (.entry (tariffref12_ends.call k)) (CallC.none)) : CallC Tryz.prog U Lay _ f xs)) (fun f xs => (CallC2.none : CallC2 Tryz.prog U Lay _ f xs)) tariffref12_Only.fns (tariffref12_Only.loops k) (tariffref12_Only.ev k)
def tariffref12_DocOnly (k : Nat) (a0 : List Node) : Option ((List Val) × Bool × Int) :=
 (tariffref10_Check k a0 true).bind fun r1 =>
 if (r1 != (0 : Int)) = true then
 some (([] : List Val), false, r1)
 else
 (tariffref12_Plain k a0).bind fun r2 =>
 if (!r2) = true then
 some (([] : List Val), false, (18 : Int))
 else
 (tariffref12_Only k a0).bind fun r3 =>
 some (r3.1, r3.2, (0 : Int))
def tariffref12_DocOnly.u (k : Nat) (v : (List Node)) : Option ((List Val) × Bool × Int) := tariffref12_DocOnly k v
def tariffref12_DocOnly.G (k : Nat) : Ctx U := ⟨tyOf, bytesOf, fun f xs => if f == 24 then entry tariffref10_Check.P tariffref10_Check.S (tariffref10_Check.u k) xs else if f == 25 then entry tariffref12_Plain.P tariffref12_Plain.S (tariffref12_Plain.u k) xs else if f == 33 then entry tariffref12_Only.P tariffref12_Only.S (tariffref12_Only.u k) xs else none, fun f xs => none, fun d => false⟩
def tariffref12_DocOnly.H (k : Nat) : Hint U := ⟨[], fun i => none, fun i => none, fun i => none⟩
theorem tariffref12_DocOnly.ev (k : Nat) (v : (List Node)) : evFn (tariffref12_DocOnly.G k) (tariffref12_DocOnly.H k) tariffref12_DocOnly.S Tryz.f18 (encA tariffref12_DocOnly.P v) = tariffref12_DocOnly.u k v := by kernel_rfl
theorem tariffref12_DocOnly.fns : Fns Tryz.prog 18 Tryz.f18 tariffref12_DocOnly.P := ⟨Tryz.func18, by kernel_rfl⟩
theorem tariffref12_DocOnly.loops (k : Nat) : LoopsOk (tariffref12_DocOnly.G k) (tariffref12_DocOnly.H k) (bodyOf Tryz.f18) 1 := loops_of (ps := []) (by kernel_rfl) trivial
theorem tariffref12_DocOnly.call (k : Nat) : FnC Tryz.prog U Lay 18 tariffref12_DocOnly.P tariffref12_DocOnly.S (tariffref12_DocOnly.u k) := fnC hLay ulaw gok (fun f xs => (.ite (.entry (tariffref10_Check.call k)) (.ite (.entry (tariffref12_Plain.call k)) (.ite (.entry (tariffref12_Only.call k)) (CallC.none))) : CallC Tryz.prog U Lay _ f xs)) (fun f xs => (CallC2.none : CallC2 Tryz.prog U Lay _ f xs)) tariffref12_DocOnly.fns (tariffref12_DocOnly.loops k) (tariffref12_DocOnly.ev k)
def unary_Only (k : Nat) (a0 : List Node) : Option ((List Val) × Bool × Int) :=
 (unary_gathered k a0).bind fun o => o.elim (fun r1 =>
 if (r1.2.2 != (0 : Int)) = true then
 some (([] : List Val), false, r1.2.2)
 else
 if (!r1.2.1) = true then
 some (([] : List Val), false, (18 : Int))
 else
 ((if (!r1.1.is) = false then
 (idx a0 (IntKind.wrap .i64 ((a0.length : Int) - (1 : Int)))).bind fun e3 =>
 some (e3.op != (36 : Int))
 else some true) : Option Bool).bind fun b4 =>
 if b4 = true then
 some (([] : List Val), false, (0 : Int))
 else
 some (r1.1.ends, true, (0 : Int))) (fun r2 =>
 if (r2.2 != (0 : Int)) = true then
 some (([] : List Val), false, r2.2)
 else
 if (!r2.1) = true then
 some (([] : List Val), false, (18 : Int))
 else
 none)
def unary_Only.u (k : Nat) (v : (List Node)) : Option ((List Val) × Bool × Int) := unary_Only k v
def unary_Only.G (k : Nat) : Ctx U := ⟨tyOf, bytesOf, fun f xs => none, fun f xs => if f == 31 then entry2 unary_gathered.P unary_gathered.S unary_gathered.S2 (unary_gathered.u k) xs else none, fun d => false⟩
def unary_Only.H (k : Nat) : Hint U := ⟨[], fun i => none, fun i => none, fun i => none⟩
theorem unary_Only.ev (k : Nat) (v : (List Node)) : evFn (unary_Only.G k) (unary_Only.H k) unary_Only.S Tryz.f12 (encA unary_Only.P v) = unary_Only.u k v := by kernel_rfl
theorem unary_Only.fns : Fns Tryz.prog 12 Tryz.f12 unary_Only.P := ⟨Tryz.func12, by kernel_rfl⟩
theorem unary_Only.loops (k : Nat) : LoopsOk (unary_Only.G k) (unary_Only.H k) (bodyOf Tryz.f12) 1 := loops_of (ps := []) (by kernel_rfl) trivial
theorem unary_Only.call (k : Nat) : FnC Tryz.prog U Lay 12 unary_Only.P unary_Only.S (unary_Only.u k) := fnC hLay ulaw gok (fun f xs => (CallC.none : CallC Tryz.prog U Lay _ f xs)) (fun f xs => (.ite (.entry (unary_gathered.call k)) (CallC2.none) : CallC2 Tryz.prog U Lay _ f xs)) unary_Only.fns (unary_Only.loops k) (unary_Only.ev k)
end Go.EvT
end
section
set_option maxRecDepth 100000
namespace Go.EvT
open Go.Proofs Go.Ev
def tariffref10_Same.S : Sig := ⟨[.d .bool], []⟩
def tariffref10_Same.P : List PM := [.d (.sl (.st 0)), .d (.sl (.st 0))]
def tarifflaw12_UnaryApart.S : Sig := ⟨[.d .bool], []⟩
def tarifflaw12_UnaryApart.P : List PM := [.d (.sl (.st 0))]
def tariffref10_Same.l4 (k : Nat) (v0 : List Node) (v1 : List Node) : Nat → Int → Option (Fl (Unit) (Bool))
 | 0, _ => none
 | n + 1, v5 =>
 if (decide (v5 < (v0.length : Int))) = true then
 (idx v0 v5).bind fun e1 =>
 (idx v1 v5).bind fun e2 =>
 if (!((e1.op == e2.op) && ((e1.kids == e2.kids) && ((e1.text.data.toList == e2.text.data.toList) && (((e1.num.neg == e2.num.neg) && (((e1.num.coef.hi == e2.num.coef.hi) && ((e1.num.coef.lo == e2.num.coef.lo) && true)) && ((e1.num.scale == e2.num.scale) && true))) && ((e1.day == e2.day) && true)))))) = true then
 some (Fl.ret false)
 else
 tariffref10_Same.l4 k v0 v1 n (IntKind.wrap .i64 (v5 + (1 : Int)))
 else
 some (Fl.go ())
def tariffref10_Same (k : Nat) (a0 : List Node) (a1 : List Node) : Option (Bool) :=
 if ((a0.length : Int) != (a1.length : Int)) = true then
 some false
 else
 (tariffref10_Same.l4 k a0 a1 k (0 : Int)).bind fun o => (match o with
 | .go x3 =>
 some true
 | .ret x4 =>
 some x4)
def tariffref10_Same.u (k : Nat) (v : (List Node) × (List Node)) : Option (Bool) := tariffref10_Same k v.1 v.2
def tariffref10_Same.G (k : Nat) : Ctx U := ⟨tyOf, bytesOf, fun f xs => none, fun f xs => none, fun d => false⟩
def tariffref10_Same.l4.L (k : Nat) : ELoopR U := ⟨[.slot 0 (.sl (.st 0)), .slot 1 (.sl (.st 0)), .slot 5 (.int .i64)], 0, [], [.slot 4 .bool], fun (v : (List Node) × (List Node) × Int) => tariffref10_Same.l4 k v.1 v.2.1 k v.2.2⟩
def tariffref10_Same.H (k : Nat) : Hint U := ⟨[], fun i => none, fun i => if i == 58 then some (tariffref10_Same.l4.L k) else none, fun i => none⟩
theorem tariffref10_Same.l4.ok (k n : Nat) (v : Vars U (tariffref10_Same.l4.L k).ks) : loopRT (tariffref10_Same.G k) (tariffref10_Same.H k) (pick [true, true, false, true, false, false] (bodyOf Tryz.f15)) 58 (tariffref10_Same.l4.L k) n v = (fun (v : (List Node) × (List Node) × Int) => tariffref10_Same.l4 k v.1 v.2.1 n v.2.2) v :=
  loopRT_eq (tariffref10_Same.G k) (tariffref10_Same.H k) _ _ (tariffref10_Same.l4.L k) (fun n (v : (List Node) × (List Node) × Int) => tariffref10_Same.l4 k v.1 v.2.1 n v.2.2) (fun _ => rfl) (fun n v => by kernel_rfl) n v
theorem tariffref10_Same.ev (k : Nat) (v : (List Node) × (List Node)) : evFn (tariffref10_Same.G k) (tariffref10_Same.H k) tariffref10_Same.S Tryz.f15 (encA tariffref10_Same.P v) = tariffref10_Same.u k v := by kernel_rfl
theorem tariffref10_Same.fns : Fns Tryz.prog 15 Tryz.f15 tariffref10_Same.P := ⟨Tryz.func15, by kernel_rfl⟩
theorem tariffref10_Same.loops (k : Nat) : LoopsOk (tariffref10_Same.G k) (tariffref10_Same.H k) (bodyOf Tryz.f15) 1 := loops_of (ps := [(58, pick [true, true, false, true, false, false] (bodyOf Tryz.f15))]) (by kernel_rfl) ⟨loopR_ok rfl rfl fun v x hx => ⟨k, (tariffref10_Same.l4.ok k k v).trans hx⟩, trivial⟩
theorem tariffref10_Same.call (k : Nat) : FnC Tryz.prog U Lay 15 tariffref10_Same.P tariffref10_Same.S (tariffref10_Same.u k) := fnC hLay ulaw gok (fun f xs => (CallC.none : CallC Tryz.prog U Lay _ f xs)) (fun f xs => (CallC2.none : CallC2 Tryz.prog U Lay _ f xs)) tariffref10_Same.fns (tariffref10_Same.loops k) (tariffref10_Same.ev k)
def tarifflaw12_UnaryApart.l9 (k : Nat) (v0 : List Node) (w3 : List Node) (c3 : Int) (v6 : List Val) (w8 : List Val) (v11 : List Val) : Nat → (List Val) → Int → Option ((List Node) × (List Node) × Int × (List Val) × (List Val) × (List Val))
 | 0, _, _ => none
 | n + 1, w4, v13 =>
 if (decide (v13 < (w4.length : Int))) = true then
 (tarifflaw12_num (77 : Int)).bind fun r6 =>
 if 0 ≤ v13 ∧ v13 < (w4.length : Int) then
 (idx w4 v13).bind fun e7 =>
 tarifflaw12_UnaryApart.l9 k v0 w3 c3 v6 w8 v11 n (w4.set (v13).toNat r6) (IntKind.wrap .i64 (v13 + (1 : Int)))
 else none
 else
 some (v0, w3, c3, v6, w8, v11)
def tarifflaw12_UnaryApart.l13 (k : Nat) (v0 : List Node) (w3 : List Node) (c3 : Int) (v6 : List Val) (v11 : List Val) : Nat → (List Val) → Int → Option ((List Node) × (List Node) × Int × (List Val) × (List Val))
 | 0, _, _ => none
 | n + 1, w8, v14 =>
 if (decide (v14 < (w8.length : Int))) = true then
 (tarifflaw12_num (78 : Int)).bind fun r9 =>
 if 0 ≤ v14 ∧ v14 < (w8.length : Int) then
 (idx w8 v14).bind fun e10 =>
 tarifflaw12_UnaryApart.l13 k v0 w3 c3 v6 v11 n (w8.set (v14).toNat r9) (IntKind.wrap .i64 (v14 + (1 : Int)))
 else none
 else
 some (v0, w3, c3, v6, v11)
def tarifflaw12_UnaryApart.l18 (k : Nat) (v0 : List Node) (w3 : List Node) (c3 : Int) (v6 : List Val) (v11 : List Val) (v15 : List Node) : Nat → Int → Option (Fl ((List Node) × (List Node) × Int × (List Val) × (List Val)) (Bool))
 | 0, _ => none
 | n + 1, v16 =>
 if (decide (v16 < (v15.length : Int))) = true then
 (idx v15 v16).bind fun e12 =>
 if (!((e12.op == (0 : Int)) && ((e12.kids == (0 : Int)) && ((e12.text.data.toList == ByteArray.empty.data.toList) && (((e12.num.neg == false) && (((e12.num.coef.hi == (0 : Int)) && ((e12.num.coef.lo == (0 : Int)) && true)) && ((e12.num.scale == (0 : Int)) && true))) && ((e12.day == (0 : Int)) && true)))))) = true then
 some (Fl.ret false)
 else
 tarifflaw12_UnaryApart.l18 k v0 w3 c3 v6 v11 v15 n (IntKind.wrap .i64 (v16 + (1 : Int)))
 else
 some (Fl.go (v0, w3, c3, v6, v11))
def tarifflaw12_UnaryApart (k : Nat) (a0 : List Node) : Option (Bool) :=
 (tarifflaw12_known k).bind fun r1 =>
 if (!r1) = true then
 some false
 else
 if 0 ≤ (0 : Int) ∧ (0 : Int) ≤ (IntKind.wrap .i64 ((a0.length : Int) + (3 : Int))) ∧ room (((IntKind.wrap .i64 ((a0.length : Int) + (3 : Int)))).toNat * 72) then
 if (0 : Int) + (a0.length : Int) ≤ ((List.replicate ((IntKind.wrap .i64 ((a0.length : Int) + (3 : Int)))).toNat (⟨(0 : Int), (0 : Int), ByteArray.empty, (⟨false, (⟨(0 : Int), (0 : Int)⟩ : Wide), (0 : Int)⟩ : Dec), (0 : Int)⟩ : Node)).length : Int) then
 (unary_Ends k (((List.replicate ((IntKind.wrap .i64 ((a0.length : Int) + (3 : Int)))).toNat (⟨(0 : Int), (0 : Int), ByteArray.empty, (⟨false, (⟨(0 : Int), (0 : Int)⟩ : Wide), (0 : Int)⟩ : Dec), (0 : Int)⟩ : Node)).take ((0 : Int)).toNat ++ a0 ++ (List.replicate ((IntKind.wrap .i64 ((a0.length : Int) + (3 : Int)))).toNat (⟨(0 : Int), (0 : Int), ByteArray.empty, (⟨false, (⟨(0 : Int), (0 : Int)⟩ : Wide), (0 : Int)⟩ : Dec), (0 : Int)⟩ : Node)).drop ((0 : Int) + (a0.length : Int)).toNat).take (((0 : Int) + (a0.length : Int))).toNat)).bind fun r2 =>
 (unary_Ends k (((List.replicate ((IntKind.wrap .i64 ((a0.length : Int) + (3 : Int)))).toNat (⟨(0 : Int), (0 : Int), ByteArray.empty, (⟨false, (⟨(0 : Int), (0 : Int)⟩ : Wide), (0 : Int)⟩ : Dec), (0 : Int)⟩ : Node)).take ((0 : Int)).toNat ++ a0 ++ (List.replicate ((IntKind.wrap .i64 ((a0.length : Int) + (3 : Int)))).toNat (⟨(0 : Int), (0 : Int), ByteArray.empty, (⟨false, (⟨(0 : Int), (0 : Int)⟩ : Wide), (0 : Int)⟩ : Dec), (0 : Int)⟩ : Node)).drop ((0 : Int) + (a0.length : Int)).toNat).take (((0 : Int) + (a0.length : Int))).toNat)).bind fun r3 =>
 (unary_Only k (((List.replicate ((IntKind.wrap .i64 ((a0.length : Int) + (3 : Int)))).toNat (⟨(0 : Int), (0 : Int), ByteArray.empty, (⟨false, (⟨(0 : Int), (0 : Int)⟩ : Wide), (0 : Int)⟩ : Dec), (0 : Int)⟩ : Node)).take ((0 : Int)).toNat ++ a0 ++ (List.replicate ((IntKind.wrap .i64 ((a0.length : Int) + (3 : Int)))).toNat (⟨(0 : Int), (0 : Int), ByteArray.empty, (⟨false, (⟨(0 : Int), (0 : Int)⟩ : Wide), (0 : Int)⟩ : Dec), (0 : Int)⟩ : Node)).drop ((0 : Int) + (a0.length : Int)).toNat).take (((0 : Int) + (a0.length : Int))).toNat)).bind fun r4 =>
 (tariffref12_DocEnds k a0).bind fun r5 =>
 (tarifflaw12_UnaryApart.l9 k a0 ((List.replicate ((IntKind.wrap .i64 ((a0.length : Int) + (3 : Int)))).toNat (⟨(0 : Int), (0 : Int), ByteArray.empty, (⟨false, (⟨(0 : Int), (0 : Int)⟩ : Wide), (0 : Int)⟩ : Dec), (0 : Int)⟩ : Node)).take ((0 : Int)).toNat ++ a0 ++ (List.replicate ((IntKind.wrap .i64 ((a0.length : Int) + (3 : Int)))).toNat (⟨(0 : Int), (0 : Int), ByteArray.empty, (⟨false, (⟨(0 : Int), (0 : Int)⟩ : Wide), (0 : Int)⟩ : Dec), (0 : Int)⟩ : Node)).drop ((0 : Int) + (a0.length : Int)).toNat) ((0 : Int) + (a0.length : Int)) r3.1 r4.1 r5.1 k r2.1 (0 : Int)).bind fun x8 =>
 (tarifflaw12_UnaryApart.l13 k x8.1 x8.2.1 x8.2.2.1 x8.2.2.2.1 x8.2.2.2.2.2 k x8.2.2.2.2.1 (0 : Int)).bind fun x11 =>
 if (x11.2.1.length : Int) = (x11.2.1.length : Int) then
 (tarifflaw12_UnaryApart.l18 k x11.1 x11.2.1 x11.2.2.1 x11.2.2.2.1 x11.2.2.2.2 x11.2.1 k x11.2.2.1).bind fun o => (match o with
 | .go x13 =>
 (tariffref12_SameAll k x13.2.2.2.1 x13.2.2.2.2).bind fun r15 =>
 ((if r15 = true then
 (tariffref10_Same k (x13.2.1.take (x13.2.2.1).toNat) x13.1).bind fun r16 =>
 some r16
 else some false) : Option Bool).bind fun b17 =>
 some b17
 | .ret x14 =>
 some x14)
 else none
 else none
 else none
def tarifflaw12_UnaryApart.u (k : Nat) (v : (List Node)) : Option (Bool) := tarifflaw12_UnaryApart k v
def tarifflaw12_UnaryApart.G (k : Nat) : Ctx U := ⟨tyOf, bytesOf, fun f xs => if f == 7 then entry tarifflaw12_known.P tarifflaw12_known.S (tarifflaw12_known.u k) xs else if f == 11 then entry unary_Ends.P unary_Ends.S (unary_Ends.u k) xs else if f == 12 then entry unary_Only.P unary_Only.S (unary_Only.u k) xs else if f == 13 then entry tariffref12_DocEnds.P tariffref12_DocEnds.S (tariffref12_DocEnds.u k) xs else if f == 14 then entry tarifflaw12_num.P tarifflaw12_num.S (tarifflaw12_num.u) xs else if f == 10 then entry tariffref12_SameAll.P tariffref12_SameAll.S (tariffref12_SameAll.u k) xs else if f == 15 then entry tariffref10_Same.P tariffref10_Same.S (tariffref10_Same.u k) xs else none, fun f xs => none, fun d => d == 22⟩
def tarifflaw12_UnaryApart.l9.L (k : Nat) : ELoop U := ⟨[.slot 0 (.sl (.st 0)), .rowF 3 (.st 0), .row 4 (.st 3), .slot 6 (.sl (.st 3)), .row 8 (.st 3), .slot 11 (.sl (.st 3)), .slot 13 (.int .i64)], 0, [.slot 0 (.sl (.st 0)), .rowF 3 (.st 0), .slot 6 (.sl (.st 3)), .row 8 (.st 3), .slot 11 (.sl (.st 3))], fun (v : (List Node) × (List Node) × Int × (List Val) × (List Val) × (List Val) × (List Val) × Int) => tarifflaw12_UnaryApart.l9 k v.1 v.2.1 v.2.2.1 v.2.2.2.2.1 v.2.2.2.2.2.1 v.2.2.2.2.2.2.1 k v.2.2.2.1 v.2.2.2.2.2.2.2⟩
def tarifflaw12_UnaryApart.l13.L (k : Nat) : ELoop U := ⟨[.slot 0 (.sl (.st 0)), .rowF 3 (.st 0), .slot 6 (.sl (.st 3)), .row 8 (.st 3), .slot 11 (.sl (.st 3)), .slot 14 (.int .i64)], 2, [.slot 0 (.sl (.st 0)), .rowF 3 (.st 0), .slot 6 (.sl (.st 3)), .slot 11 (.sl (.st 3))], fun (v : (List Node) × (List Node) × Int × (List Val) × (List Val) × (List Val) × Int) => tarifflaw12_UnaryApart.l13 k v.1 v.2.1 v.2.2.1 v.2.2.2.1 v.2.2.2.2.2.1 k v.2.2.2.2.1 v.2.2.2.2.2.2⟩
def tarifflaw12_UnaryApart.l18.L (k : Nat) : ELoopR U := ⟨[.slot 0 (.sl (.st 0)), .rowF 3 (.st 0), .slot 6 (.sl (.st 3)), .slot 11 (.sl (.st 3)), .slot 15 (.sl (.st 0)), .slot 16 (.int .i64)], 4, [.slot 0 (.sl (.st 0)), .rowF 3 (.st 0), .slot 6 (.sl (.st 3)), .slot 11 (.sl (.st 3))], [.slot 2 .bool], fun (v : (List Node) × (List Node) × Int × (List Val) × (List Val) × (List Node) × Int) => tarifflaw12_UnaryApart.l18 k v.1 v.2.1 v.2.2.1 v.2.2.2.1 v.2.2.2.2.1 v.2.2.2.2.2.1 k v.2.2.2.2.2.2⟩
def tarifflaw12_UnaryApart.H (k : Nat) : Hint U := ⟨[], fun i => if i == 4090 then some (tarifflaw12_UnaryApart.l13.L k) else if i == 2042 then some (tarifflaw12_UnaryApart.l9.L k) else none, fun i => if i == 16378 then some (tarifflaw12_UnaryApart.l18.L k) else none, fun i => none⟩
theorem tarifflaw12_UnaryApart.l9.ok (k n : Nat) (v : Vars U (tarifflaw12_UnaryApart.l9.L k).ks) : loopT (tarifflaw12_UnaryApart.G k) (tarifflaw12_UnaryApart.H k) (pick [true, true, true, true, true, true, true, false, true, false, false] (bodyOf Tryz.f4)) 2042 (tarifflaw12_UnaryApart.l9.L k) n v = (fun (v : (List Node) × (List Node) × Int × (List Val) × (List Val) × (List Val) × (List Val) × Int) => tarifflaw12_UnaryApart.l9 k v.1 v.2.1 v.2.2.1 v.2.2.2.2.1 v.2.2.2.2.2.1 v.2.2.2.2.2.2.1 n v.2.2.2.1 v.2.2.2.2.2.2.2) v :=
  loopT_eq (tarifflaw12_UnaryApart.G k) (tarifflaw12_UnaryApart.H k) _ _ (tarifflaw12_UnaryApart.l9.L k) (fun n (v : (List Node) × (List Node) × Int × (List Val) × (List Val) × (List Val) × (List Val) × Int) => tarifflaw12_UnaryApart.l9 k v.1 v.2.1 v.2.2.1 v.2.2.2.2.1 v.2.2.2.2.2.1 v.2.2.2.2.2.2.1 n v.2.2.2.1 v.2.2.2.2.2.2.2) (fun _ => rfl) (fun n v => by kernel_rfl) n v
theorem tarifflaw12_UnaryApart.l13.ok (k n : Nat) (v : Vars U (tarifflaw12_UnaryApart.l13.L k).ks) : loopT (tarifflaw12_UnaryApart.G k) (tarifflaw12_UnaryApart.H k) (pick [true, true, true, true, true, true, true, true, false, true, false, false] (bodyOf Tryz.f4)) 4090 (tarifflaw12_UnaryApart.l13.L k) n v = (fun (v : (List Node) × (List Node) × Int × (List Val) × (List Val) × (List Val) × Int) => tarifflaw12_UnaryApart.l13 k v.1 v.2.1 v.2.2.1 v.2.2.2.1 v.2.2.2.2.2.1 n v.2.2.2.2.1 v.2.2.2.2.2.2) v :=
  loopT_eq (tarifflaw12_UnaryApart.G k) (tarifflaw12_UnaryApart.H k) _ _ (tarifflaw12_UnaryApart.l13.L k) (fun n (v : (List Node) × (List Node) × Int × (List Val) × (List Val) × (List Val) × Int) => tarifflaw12_UnaryApart.l13 k v.1 v.2.1 v.2.2.1 v.2.2.2.1 v.2.2.2.2.2.1 n v.2.2.2.2.1 v.2.2.2.2.2.2) (fun _ => rfl) (fun n v => by kernel_rfl) n v
theorem tarifflaw12_UnaryApart.l18.ok (k n : Nat) (v : Vars U (tarifflaw12_UnaryApart.l18.L k).ks) : loopRT (tarifflaw12_UnaryApart.G k) (tarifflaw12_UnaryApart.H k) (pick [true, true, true, true, true, true, true, true, true, true, false, true, false, false] (bodyOf Tryz.f4)) 16378 (tarifflaw12_UnaryApart.l18.L k) n v = (fun (v : (List Node) × (List Node) × Int × (List Val) × (List Val) × (List Node) × Int) => tarifflaw12_UnaryApart.l18 k v.1 v.2.1 v.2.2.1 v.2.2.2.1 v.2.2.2.2.1 v.2.2.2.2.2.1 n v.2.2.2.2.2.2) v :=
  loopRT_eq (tarifflaw12_UnaryApart.G k) (tarifflaw12_UnaryApart.H k) _ _ (tarifflaw12_UnaryApart.l18.L k) (fun n (v : (List Node) × (List Node) × Int × (List Val) × (List Val) × (List Node) × Int) => tarifflaw12_UnaryApart.l18 k v.1 v.2.1 v.2.2.1 v.2.2.2.1 v.2.2.2.2.1 v.2.2.2.2.2.1 n v.2.2.2.2.2.2) (fun _ => rfl) (fun n v => by kernel_rfl) n v
theorem tarifflaw12_UnaryApart.ev (k : Nat) (v : (List Node)) : evFn (tarifflaw12_UnaryApart.G k) (tarifflaw12_UnaryApart.H k) tarifflaw12_UnaryApart.S Tryz.f4 (encA tarifflaw12_UnaryApart.P v) = tarifflaw12_UnaryApart.u k v := by kernel_rfl
theorem tarifflaw12_UnaryApart.fns : Fns Tryz.prog 4 Tryz.f4 tarifflaw12_UnaryApart.P := ⟨Tryz.func4, by kernel_rfl⟩
theorem tarifflaw12_UnaryApart.loops (k : Nat) : LoopsOk (tarifflaw12_UnaryApart.G k) (tarifflaw12_UnaryApart.H k) (bodyOf Tryz.f4) 1 := loops_of (ps := [(2042, pick [true, true, true, true, true, true, true, false, true, false, false] (bodyOf Tryz.f4)), (4090, pick [true, true, true, true, true, true, true, true, false, true, false, false] (bodyOf Tryz.f4)), (16378, pick [true, true, true, true, true, true, true, true, true, true, false, true, false, false] (bodyOf Tryz.f4))]) (by kernel_rfl) ⟨loopT_ok rfl fun v x hx => ⟨k, (tarifflaw12_UnaryApart.l9.ok k k v).trans hx⟩, ⟨loopT_ok rfl fun v x hx => ⟨k, (tarifflaw12_UnaryApart.l13.ok k k v).trans hx⟩, ⟨loopR_ok rfl rfl fun v x hx => ⟨k, (tarifflaw12_UnaryApart.l18.ok k k v).trans hx⟩, trivial⟩⟩⟩
theorem tarifflaw12_UnaryApart.call (k : Nat) : FnC Tryz.prog U Lay 4 tarifflaw12_UnaryApart.P tarifflaw12_UnaryApart.S (tarifflaw12_UnaryApart.u k) := fnC hLay ulaw gok (fun f xs => (.ite (.entry (tarifflaw12_known.call k)) (.ite (.entry (unary_Ends.call k)) (.ite (.entry (unary_Only.call k)) (.ite (.entry (tariffref12_DocEnds.call k)) (.ite (.entry (tarifflaw12_num.call)) (.ite (.entry (tariffref12_SameAll.call k)) (.ite (.entry (tariffref10_Same.call k)) (CallC.none))))))) : CallC Tryz.prog U Lay _ f xs)) (fun f xs => (CallC2.none : CallC2 Tryz.prog U Lay _ f xs)) tarifflaw12_UnaryApart.fns (tarifflaw12_UnaryApart.loops k) (tarifflaw12_UnaryApart.ev k)
end Go.EvT
end
section
set_option maxRecDepth 100000
namespace Go.EvT
open Go.Ev Go
theorem p32 : (2 : Int) ^ min ((32 : Int)).toNat (IntKind.bits .u64) = 4294967296 := by decide
theorem wrapId {n : Int} (h0 : 0 ≤ n) (h1 : n < 18446744073709551616) : IntKind.u64.wrap n = n := by
  rw [IntKind.wrap_u64]
  omega
theorem bvNat {n : Int} (h0 : 0 ≤ n) (h1 : n < 18446744073709551616) : (BitVec.ofInt (IntKind.bits .u64) n).toNat = n.toNat := by
  obtain ⟨m, rfl⟩ := Int.eq_ofNat_of_zero_le h0
  have hm : m < 18446744073709551616 := by omega
  show (BitVec.ofInt 64 (m : Int)).toNat = m
  rw [BitVec.ofInt_natCast, BitVec.toNat_ofNat]
  exact Nat.mod_eq_of_lt hm
theorem and32 {n : Int} (h0 : 0 ≤ n) (h1 : n < 18446744073709551616) : ((BitVec.ofInt (IntKind.bits .u64) n &&& BitVec.ofInt (IntKind.bits .u64) (4294967295 : Int)).toNat : Int) = n % 4294967296 := by
  rw [BitVec.toNat_and, bvNat h0 h1, bvNat (by decide) (by decide)]
  obtain ⟨m, rfl⟩ := Int.eq_ofNat_of_zero_le h0
  have : m &&& 4294967295 = m % 4294967296 := Nat.and_two_pow_sub_one_eq_mod m 32
  show ((m &&& 4294967295 : Nat) : Int) = _
  rw [this]
  omega
theorem or60 {a b : Int} (h0 : 0 ≤ a) (h1 : a < 16) (h2 : 0 ≤ b) (h3 : b < 1152921504606846976) : ((BitVec.ofInt (IntKind.bits .u64) (a * 1152921504606846976) ||| BitVec.ofInt (IntKind.bits .u64) b).toNat : Int) = a * 1152921504606846976 + b := by
  rw [BitVec.toNat_or, bvNat (by omega) (by omega), bvNat h2 (by omega)]
  obtain ⟨x, rfl⟩ := Int.eq_ofNat_of_zero_le h0
  obtain ⟨y, rfl⟩ := Int.eq_ofNat_of_zero_le h2
  have e1 : ((x : Int) * 1152921504606846976).toNat = 2 ^ 60 * x := by omega
  have e2 : ((y : Int)).toNat = y := rfl
  rw [e1, e2, ← Nat.two_pow_add_eq_or_of_lt (by omega : y < 2 ^ 60)]
  omega
theorem wrap0 (n : Int) : 0 ≤ IntKind.u64.wrap n := by rw [IntKind.wrap_u64]; omega
theorem l17_once (K : Nat) (v2 v8 v9 v11 v13 v14 q r : Int) (n : Nat) (h : q < 4294967296) : bits_Div64.l17 K v2 v8 v9 0 v11 v13 v14 (n + 1) q r = some (v2, v8, v9, 0, v11, v13, v14, q) := by
  unfold bits_Div64.l17
  have e1 : decide (q ≥ (4294967296 : Int)) = false := by simpa using h
  have e2 : decide (IntKind.u64.wrap (q * 0) > IntKind.u64.wrap (IntKind.u64.wrap (4294967296 * r) + v13)) = false := by
    have := wrap0 (IntKind.u64.wrap (4294967296 * r) + v13)
    rw [Int.mul_zero, show IntKind.u64.wrap 0 = 0 by decide]
    simpa using this
  rw [e1, e2]
  rfl
theorem l24_once (K : Nat) (v2 v8 v9 v14 v15 v17 q r : Int) (n : Nat) (h : q < 4294967296) : bits_Div64.l24 K v2 v8 v9 0 v14 v15 v17 (n + 1) r q = some (v2, v8, v14, v15, v17, q) := by
  unfold bits_Div64.l24
  have e1 : decide (q ≥ (4294967296 : Int)) = false := by simpa using h
  have e2 : decide (IntKind.u64.wrap (q * 0) > IntKind.u64.wrap (IntKind.u64.wrap (4294967296 * r) + v14)) = false := by
    have := wrap0 (IntKind.u64.wrap (4294967296 * r) + v14)
    rw [Int.mul_zero, show IntKind.u64.wrap 0 = 0 by decide]
    simpa using this
  rw [e1, e2]
  rfl
theorem div64_10 (k : Nat) (hi lo : Int) (h0 : 0 ≤ hi) (h1 : hi < 10) (l0 : 0 ≤ lo) (l1 : lo < 18446744073709551616) :
    bits_Div64 (k + 1) hi lo 10 = some ((hi * 18446744073709551616 + lo) / 10, (hi * 18446744073709551616 + lo) % 10) := by
  unfold bits_Div64
  rw [if_neg (by decide : ¬ ((10 : Int) == 0) = true)]
  simp only [Option.bind_some]
  rw [if_neg (by simpa using h1 : ¬ decide ((10 : Int) ≤ hi) = true)]
  simp only [Option.bind_some]
  by_cases hz : hi = 0
  · subst hz
    rw [if_pos (by decide), if_pos (by decide), if_pos (by decide), Int.tdiv_eq_ediv_of_nonneg l0, Int.tmod_eq_emod_of_nonneg l0, wrapId (by omega) (by omega)]
    simp
  · rw [if_neg (by simpa using hz)]
    have e60 : bits_LeadingZeros64 10 = some 60 := by kernel_rfl
    have w60 : IntKind.u64.wrap 60 = 60 := by decide
    have w4 : IntKind.u64.wrap (64 - 60) = 4 := by decide
    have q60 : (2 : Int) ^ min ((60 : Int)).toNat (IntKind.bits .u64) = 1152921504606846976 := by decide
    have q4 : (2 : Int) ^ min ((4 : Int)).toNat (IntKind.bits .u64) = 16 := by decide
    have y1 : IntKind.u64.wrap (10 * 1152921504606846976) = 11529215046068469760 := by decide
    have yf : Int.fdiv 11529215046068469760 4294967296 = 2684354560 := by decide
    have ym : IntKind.u64.wrap ((BitVec.ofInt (IntKind.bits .u64) 11529215046068469760 &&& BitVec.ofInt (IntKind.bits .u64) (4294967295 : Int)).toNat : Int) = 0 := by decide
    simp only [e60, Option.bind_some, w60, w4, q60, q4, p32, y1, yf, ym]
    have hw : IntKind.u64.wrap (hi * 1152921504606846976) = hi * 1152921504606846976 := wrapId (by omega) (by omega)
    have hf : Int.fdiv lo 16 = lo / 16 := Int.fdiv_eq_ediv_of_nonneg _ (by decide)
    have hor := or60 (a := hi) (b := lo / 16) h0 (by omega) (by omega) (by omega)
    obtain ⟨u, hu⟩ : ∃ u, u = hi * 1152921504606846976 + lo / 16 := ⟨_, rfl⟩
    rw [← hu] at hor
    have hu0 : 0 ≤ u := by omega
    have hu1 : u < 11529215046068469760 := by omega
    have huw : IntKind.u64.wrap u = u := wrapId hu0 (by omega)
    obtain ⟨t, ht⟩ : ∃ t, t = lo % 16 := ⟨_, rfl⟩
    have hl : IntKind.u64.wrap (lo * 1152921504606846976) = t * 1152921504606846976 := by rw [IntKind.wrap_u64]; omega
    have hlf : Int.fdiv (t * 1152921504606846976) 4294967296 = t * 268435456 := by rw [Int.fdiv_eq_ediv_of_nonneg _ (by decide)]; omega
    have hla : ((BitVec.ofInt (IntKind.bits .u64) (t * 1152921504606846976) &&& BitVec.ofInt (IntKind.bits .u64) (4294967295 : Int)).toNat : Int) = 0 := by rw [and32 (by omega) (by omega)]; omega
    have hla' : IntKind.u64.wrap 0 = 0 := by decide
    have td1 : Int.tdiv u 2684354560 = u / 2684354560 := Int.tdiv_eq_ediv_of_nonneg hu0
    obtain ⟨q, hq⟩ : ∃ q, q = u / 2684354560 := ⟨_, rfl⟩
    have hqw : IntKind.u64.wrap q = q := wrapId (by omega) (by omega)
    have hqm : IntKind.u64.wrap (q * 2684354560) = q * 2684354560 := wrapId (by omega) (by omega)
    have hr : IntKind.u64.wrap (u - q * 2684354560) = u - q * 2684354560 := wrapId (by omega) (by omega)
    simp only [hw, hf, hor, huw, hl, hlf, hla, hla', td1, ← hq, hqw, hqm, hr]
    rw [if_pos (by decide), if_pos (by decide), if_pos (by decide), if_pos (by decide), if_pos (by decide), if_pos (by decide), if_pos (by decide), l17_once _ _ _ _ _ _ _ _ _ _ (by omega)]
    simp only [Option.bind_some]
    obtain ⟨s, hs⟩ : ∃ s, s = (u - q * 2684354560) * 4294967296 + t * 268435456 := ⟨_, rfl⟩
    have hs0 : 0 ≤ s := by omega
    have hs1 : s < 11529215046068469760 := by omega
    have e1 : IntKind.u64.wrap (IntKind.u64.wrap (IntKind.u64.wrap (u * 4294967296) + t * 268435456) - IntKind.u64.wrap (q * 11529215046068469760)) = s := by
      simp only [IntKind.wrap_u64]
      omega
    have td2 : Int.tdiv s 2684354560 = s / 2684354560 := Int.tdiv_eq_ediv_of_nonneg hs0
    obtain ⟨p, hp⟩ : ∃ p, p = s / 2684354560 := ⟨_, rfl⟩
    have hpw : IntKind.u64.wrap p = p := wrapId (by omega) (by omega)
    simp only [e1, td2, ← hp, hpw]
    rw [if_pos (by decide), l24_once _ _ _ _ _ _ _ _ _ _ (by omega)]
    simp only [Option.bind_some]
    rw [if_pos (by decide), q60]
    have e2 : IntKind.u64.wrap (IntKind.u64.wrap (q * 4294967296) + p) = (hi * 18446744073709551616 + lo) / 10 := by
      simp only [IntKind.wrap_u64]
      omega
    have e3 : IntKind.u64.wrap (IntKind.u64.wrap (IntKind.u64.wrap (s * 4294967296) + 0) - IntKind.u64.wrap (p * 11529215046068469760)) = (s - p * 2684354560) * 4294967296 := by
      simp only [IntKind.wrap_u64]
      omega
    rw [e2, e3, Int.fdiv_eq_ediv_of_nonneg _ (by decide)]
    have e4 : (s - p * 2684354560) * 4294967296 / 1152921504606846976 = (hi * 18446744073709551616 + lo) % 10 := by omega
    rw [e4]
end Go.EvT
end
section
set_option maxRecDepth 100000
namespace Go.EvT
open Go.Ev Go
def u64 (n : Int) : Prop := 0 ≤ n ∧ n < 18446744073709551616
def Wide.val (w : Wide) : Int := w.hi * 18446744073709551616 + w.lo
def Wide.Ok (w : Wide) : Prop := u64 w.hi ∧ u64 w.lo
theorem i64_small {n : Int} (h0 : -9223372036854775808 ≤ n) (h1 : n < 9223372036854775808) : IntKind.i64.wrap n = n := by
  rw [IntKind.wrap_i64]
  omega
theorem tenth_step (K : Nat) (b2 : List Int) (n : Nat) (left i e : Int) (l : List Int) (hi0 : 0 ≤ i) (hi1 : i < 4) (hl : 0 ≤ left) (hl1 : left < 10) (he : u64 e) (hx : idx l i = some e) :
    wide_tenth.l3 (K + 1) b2 (n + 1) left i l = wide_tenth.l3 (K + 1) b2 n ((left * 18446744073709551616 + e) % 10) (i - 1) (l.set i.toNat ((left * 18446744073709551616 + e) / 10)) := by
  conv => lhs; unfold wide_tenth.l3
  have h1 : decide (i ≥ (0 : Int)) = true := by simpa using hi0
  rw [h1, if_pos rfl, if_pos ⟨hi0, hi1⟩, hx]
  simp only [Option.bind_some]
  rw [div64_10 K left e hl hl1 he.1 he.2]
  simp only [Option.bind_some]
  rw [if_pos ⟨hi0, hi1⟩, i64_small (by omega) (by omega)]
theorem tenth_end (K : Nat) (b2 : List Int) (n : Nat) (left i : Int) (l : List Int) (hi : i < 0) : wide_tenth.l3 K b2 (n + 1) left i l = some (left, l, b2) := by
  conv => lhs; unfold wide_tenth.l3
  have h1 : decide (i ≥ (0 : Int)) = false := by simpa using hi
  rw [h1]
  rfl
theorem tenth2 (K : Nat) (lo hi : Int) (h0 : u64 lo) (h1 : u64 hi) : wide_tenth (K + 5) [lo, hi, 0, 0] = some ([((hi % 10) * 18446744073709551616 + lo) / 10, hi / 10, 0, 0], (hi * 18446744073709551616 + lo) % 10) := by
  unfold wide_tenth
  rw [tenth_step (K + 4) _ (K + 4) 0 3 0 _ (by decide) (by decide) (by decide) (by decide) ⟨by decide, by decide⟩ rfl]
  rw [tenth_step (K + 4) _ (K + 3) _ _ 0 _ (by decide) (by decide) (by decide) (by decide) ⟨by decide, by decide⟩ rfl]
  rw [tenth_step (K + 4) _ (K + 2) _ _ hi _ (by decide) (by decide) (by decide) (by decide) h1 rfl]
  rw [tenth_step (K + 4) _ (K + 1) _ _ lo _ (by decide) (by decide) (by omega) (by omega) h0 rfl]
  rw [tenth_end _ _ _ _ _ _ (by decide)]
  simp only [Option.bind_some, Option.some.injEq, Prod.mk.injEq]
  refine ⟨?_, by omega⟩
  show [_, _, _, _] = [_, _, _, _]
  simp only [List.cons.injEq, and_true]
  refine ⟨by omega, by omega, by decide, by decide⟩
theorem trim_loop (K : Nat) (b2 : Wide) : ∀ (m n : Nat) (lo hi v : Int), m ≤ n → u64 lo → u64 hi → 0 < hi * 18446744073709551616 + lo → hi * 18446744073709551616 + lo < 10 ^ m → 0 ≤ v → v + m < 1000000 →
    ∃ (j : Nat) (w : Wide), wide_Trim.l6 (K + 5) b2 n v [lo, hi, 0, 0] = some (.ret (v + j, w)) ∧ w.Ok ∧ w.val * 10 ^ j = hi * 18446744073709551616 + lo ∧ w.val % 10 ≠ 0
  | 0, _, lo, hi, v, _, h0, h1, hp, hn, _, _ => by
    rw [show ((10 : Int) ^ 0) = 1 from rfl] at hn
    omega
  | m + 1, 0, _, _, _, hmn, _, _, _, _, _, _ => by omega
  | m + 1, n + 1, lo, hi, v, hmn, h0, h1, hp, hn, hv, hvn => by
    unfold wide_Trim.l6
    rw [tenth2 K lo hi h0 h1]
    simp only [Option.bind_some]
    by_cases hr : (hi * 18446744073709551616 + lo) % 10 = 0
    · have e1 : ((hi * 18446744073709551616 + lo) % 10 != 0) = false := by simp [hr]
      rw [e1]
      simp only [Bool.false_eq_true, if_false]
      have a0 := h0.1
      have a1 := h0.2
      have b0 := h1.1
      have b1 := h1.2
      rw [i64_small (by omega) (by omega)]
      have hval : hi / 10 * 18446744073709551616 + (hi % 10 * 18446744073709551616 + lo) / 10 = (hi * 18446744073709551616 + lo) / 10 := by omega
      have hpow : (10 : Int) ^ (m + 1) = 10 ^ m * 10 := Int.pow_succ 10 m
      obtain ⟨j, w, g1, g2, g3, g4⟩ := trim_loop K b2 m n ((hi % 10 * 18446744073709551616 + lo) / 10) (hi / 10) (v + 1) (by omega) ⟨by omega, by omega⟩ ⟨by omega, by omega⟩ (by omega) (by rw [hval]; omega) (by omega) (by omega)
      refine ⟨j + 1, w, ?_, g2, ?_, g4⟩
      · rw [g1]
        simp only [Option.some.injEq, Fl.ret.injEq, Prod.mk.injEq, and_true]
        omega
      · rw [Int.pow_succ, ← Int.mul_assoc, g3, hval]
        omega
    · have e1 : ((hi * 18446744073709551616 + lo) % 10 != 0) = true := by simp [hr]
      rw [e1, if_pos rfl, if_pos (by decide), show idx [lo, hi, 0, 0] (1 : Int) = some hi from rfl]
      simp only [Option.bind_some]
      rw [if_pos (by decide), show idx [lo, hi, 0, 0] (0 : Int) = some lo from rfl]
      exact ⟨0, ⟨hi, lo⟩, by simp, ⟨h1, h0⟩, by simp [Wide.val], hr⟩
theorem trim_eq (k : Nat) (a : Wide) (ha : a.Ok) (hk : 45 ≤ k) (hp : 0 < a.val) : ∃ (j : Nat) (w : Wide), wide_Trim k a = some (w, (j : Int)) ∧ w.Ok ∧ w.val * 10 ^ j = a.val ∧ w.val % 10 ≠ 0 := by
  obtain ⟨K, rfl⟩ : ∃ K, k = K + 5 := ⟨k - 5, by omega⟩
  obtain ⟨⟨h0, h1⟩, h2, h3⟩ := ha
  unfold wide_Trim
  have hz : ((a.hi == (0 : Int)) && ((a.lo == (0 : Int)) && true)) = false := by
    rw [Bool.eq_false_iff]
    intro e
    simp at e
    unfold Wide.val at hp
    omega
  rw [hz]
  simp only [Bool.false_eq_true, if_false]
  have hlt : a.val < 10 ^ 39 := by
    unfold Wide.val
    rw [show ((10 : Int) ^ 39) = 1000000000000000000000000000000000000000 by decide]
    omega
  obtain ⟨j, w, g1, g2, g3, g4⟩ := trim_loop K ⟨0, 0⟩ 39 (K + 5) a.lo a.hi 0 (by omega) ⟨h2, h3⟩ ⟨h0, h1⟩ hp hlt (by decide) (by decide)
  refine ⟨j, w, ?_, g2, g3, g4⟩
  rw [g1]
  simp
theorem bound_eq (k : Nat) : dec_bound (k + 40) = some ⟨542101086242752, 4003012203950112768⟩ := by kernel_rfl
def Dec.form (d : Dec) : Bool := decide (d.coef.val < 10000000000000000000000000000000000) && decide (0 ≤ d.scale) && decide (d.scale ≤ 18) && (if d.coef.val = 0 then !d.neg && d.scale == 0 else d.scale == 0 || d.coef.val % 10 != 0)
theorem cmp_ge (a b : Wide) (ha : a.Ok) (hb : b.Ok) : ∃ r, wide_Cmp a b = some r ∧ (decide (r ≥ 0) = decide (b.val ≤ a.val)) := by
  obtain ⟨⟨a0, a1⟩, a2, a3⟩ := ha
  obtain ⟨⟨b0, b1⟩, b2, b3⟩ := hb
  unfold wide_Cmp Wide.val
  by_cases e1 : a.hi = b.hi
  · by_cases e2 : a.lo = b.lo
    · simp [e1, e2]
    · by_cases e3 : a.lo < b.lo
      · simp [e1, e2, e3]
      · simp [e1, e2, e3]; omega
  · by_cases e3 : a.hi < b.hi
    · simp [e1, e3]; omega
    · simp [e1, e3]; omega
theorem form_eq (k : Nat) (hk : 45 ≤ k) (d : Dec) (hd : d.coef.Ok) : dec_Form k d = some d.form := by
  obtain ⟨K, rfl⟩ : ∃ K, k = K + 40 := ⟨k - 40, by omega⟩
  obtain ⟨r, hr, hc⟩ := cmp_ge d.coef ⟨542101086242752, 4003012203950112768⟩ hd ⟨⟨by decide, by decide⟩, by decide, by decide⟩
  have hv : Wide.val ⟨542101086242752, 4003012203950112768⟩ = 10000000000000000000000000000000000 := by decide
  rw [hv] at hc
  obtain ⟨⟨h0, h1⟩, h2, h3⟩ := hd
  have hval0 : 0 ≤ d.coef.val := by unfold Wide.val; omega
  unfold dec_Form
  rw [bound_eq]
  simp only [Option.bind_some, hr, hc]
  unfold Dec.form
  by_cases c1 : 10000000000000000000000000000000000 ≤ d.coef.val
  · have : ¬ d.coef.val < 10000000000000000000000000000000000 := by omega
    simp [c1, this]
  · have c1' : d.coef.val < 10000000000000000000000000000000000 := by omega
    by_cases c2 : d.scale < 0
    · have : ¬ 0 ≤ d.scale := by omega
      simp [c1, c1', c2, this]
    · have c2' : 0 ≤ d.scale := by omega
      by_cases c3 : d.scale > 18
      · have : ¬ d.scale ≤ 18 := by omega
        simp [c1, c1', c2, c2', c3, this]
      · have c3' : d.scale ≤ 18 := by omega
        have hz : dec_zero d = some (decide (d.coef.val = 0)) := by
          unfold dec_zero Wide.val
          simp only [Option.some.injEq]
          rw [Bool.eq_iff_iff]
          simp
          omega
        rw [hz]
        by_cases c4 : d.coef.val = 0
        · cases hn : d.neg <;> simp [c1, c1', c2, c2', c3, c3', c4, hn]
        · obtain ⟨j, w, t1, t2, t3, t4⟩ := trim_eq (K + 40) d.coef ⟨⟨h0, h1⟩, h2, h3⟩ hk (by omega)
          rw [t1]
          have hj : ((j : Int) == 0) = (d.coef.val % 10 != 0) := by
            cases j with
            | zero =>
              rw [Int.pow_zero, Int.mul_one] at t3
              rw [← t3]
              simp [t4]
            | succ j =>
              have : d.coef.val % 10 = 0 := by
                rw [← t3, Int.pow_succ, ← Int.mul_assoc]
                omega
              simp [this]
              omega
          simp only [Option.bind_some]
          rw [hj]
          by_cases c5 : d.scale = 0
          · simp [c1, c1', c2, c2', c3, c3', c4, c5]
          · simp [c1, c1', c2, c2', c3, c3', c4, c5]
end Go.EvT
end
section
set_option maxRecDepth 100000
namespace Go.EvT
open Go.Ev Go
def dval : List Int → Int
  | [] => 0
  | x :: r => x + 10 * dval r
def AllD (l : List Int) : Prop := ∀ x ∈ l, 0 ≤ x ∧ x ≤ 9
def Nz : List Int → Prop
  | [] => True
  | x :: r => 0 < dval (x :: r) ∧ Nz r
def tw : List Int → Int → List Int
  | [], b => if b > 0 then [b] else []
  | x :: r, b => (2 * x + b) % 10 :: tw r ((2 * x + b) / 10)
theorem AllD.head {x : Int} {r : List Int} (h : AllD (x :: r)) : 0 ≤ x ∧ x ≤ 9 := h x List.mem_cons_self
theorem AllD.tail {x : Int} {r : List Int} (h : AllD (x :: r)) : AllD r := fun y hy => h y (List.mem_cons_of_mem _ hy)
theorem tw_val : ∀ (l : List Int) (b : Int), AllD l → 0 ≤ b → b ≤ 1 → dval (tw l b) = 2 * dval l + b
  | [], b, _, h0, h1 => by
    unfold tw
    split
    · simp [dval]
    · simp [dval]; omega
  | x :: r, b, h, h0, h1 => by
    have hx := h.head
    have := tw_val r ((2 * x + b) / 10) h.tail (by omega) (by omega)
    simp only [tw, dval, this]
    omega
theorem tw_all : ∀ (l : List Int) (b : Int), AllD l → 0 ≤ b → b ≤ 1 → AllD (tw l b)
  | [], b, _, h0, h1 => by
    unfold tw
    split
    · intro x hx
      simp at hx
      omega
    · intro x hx
      cases hx
  | x :: r, b, h, h0, h1 => by
    have hx := h.head
    have := tw_all r ((2 * x + b) / 10) h.tail (by omega) (by omega)
    intro y hy
    simp only [tw, List.mem_cons] at hy
    rcases hy with rfl | hy
    · omega
    · exact this y hy
theorem tw_nz : ∀ (l : List Int) (b : Int), AllD l → Nz l → 0 ≤ b → b ≤ 1 → Nz (tw l b)
  | [], b, _, _, h0, h1 => by
    unfold tw
    split
    · simp [Nz, dval]; omega
    · trivial
  | x :: r, b, h, hn, h0, h1 => by
    have hx := h.head
    have hv := tw_val (x :: r) b h h0 h1
    refine ⟨?_, tw_nz r _ h.tail hn.2 (by omega) (by omega)⟩
    have := hn.1
    show 0 < dval (tw (x :: r) b)
    omega
theorem tw_len : ∀ (l : List Int) (b : Int), (tw l b).length ≤ l.length + 1
  | [], b => by unfold tw; split <;> simp
  | x :: r, b => by simp only [tw, List.length_cons]; have := tw_len r ((2 * x + b) / 10); omega
theorem dval_lt : ∀ {l : List Int}, AllD l → dval l < 10 ^ l.length
  | [], _ => by simp [dval]
  | x :: r, h => by
    have := dval_lt h.tail
    have := h.head
    simp only [dval, List.length_cons, Int.pow_succ]
    omega
theorem dval_ge : ∀ {l : List Int}, AllD l → Nz l → ∀ n, n < l.length → (10 : Int) ^ n ≤ dval l
  | [], _, _, n, hn => by simp at hn
  | x :: r, h, hz, 0, _ => by
    have := hz.1
    simp
    omega
  | x :: r, h, hz, n + 1, hn => by
    have := dval_ge h.tail hz.2 n (by simpa using hn)
    have := h.head
    simp only [dval, Int.pow_succ]
    omega
theorem twice_loop (K : Nat) (v0 : List Int) (h : AllD v0) (hl : v0.length ≤ 1000) : ∀ (m n : Nat) (i : Nat) (b : Int) (w : List Int), m = v0.length - i → m < n → 0 ≤ b → b ≤ 1 → w.length = i → i ≤ v0.length →
    ∃ c u, tariffref01_twice.l3 K v0 n b w (i : Int) = some (c, u) ∧ u.length ≤ 1000 ∧ (if c > 0 then u ++ [c] else u) = w ++ tw (v0.drop i) b
  | _, 0, _, _, _, _, hmn, _, _, _, _ => by omega
  | 0, n + 1, i, b, w, hm, _, h0, h1, hw, hi => by
    have : i = v0.length := by omega
    subst this
    unfold tariffref01_twice.l3
    refine ⟨b, w, by simp, by omega, ?_⟩
    simp only [List.drop_length, tw]
    split <;> simp
  | m + 1, n + 1, i, b, w, hm, hmn, h0, h1, hw, hi => by
    have hlt : i < v0.length := by omega
    obtain ⟨x, hx⟩ : ∃ x, v0[i]? = some x := ⟨v0[i], by simp [hlt]⟩
    have hxa := h x (List.mem_of_getElem? hx)
    have hd : v0.drop i = x :: v0.drop (i + 1) := by
      rw [List.getElem?_eq_getElem hlt] at hx
      rw [List.drop_eq_getElem_cons hlt]
      rw [Option.some.inj hx]
    unfold tariffref01_twice.l3
    have e1 : decide ((i : Int) < (v0.length : Int)) = true := by simpa using hlt
    have e2 : idx v0 (i : Int) = some x := by unfold idx; simp [hx]
    rw [e1, if_pos rfl, e2]
    simp only [Option.bind_some]
    have w1 : IntKind.i64.wrap (2 * x) = 2 * x := i64_small (by omega) (by omega)
    have w2 : IntKind.i64.wrap (2 * x + b) = 2 * x + b := i64_small (by omega) (by omega)
    have w3 : Int.tmod (2 * x + b) 10 = (2 * x + b) % 10 := Int.tmod_eq_emod_of_nonneg (by omega)
    have w4 : Int.tdiv (2 * x + b) 10 = (2 * x + b) / 10 := Int.tdiv_eq_ediv_of_nonneg (by omega)
    have w5 : IntKind.i64.wrap ((2 * x + b) / 10) = (2 * x + b) / 10 := i64_small (by omega) (by omega)
    have w6 : IntKind.i64.wrap ((i : Int) + 1) = ((i + 1 : Nat) : Int) := by rw [i64_small (by omega) (by omega)]; omega
    simp only [w1, w2, w3, w4, w5, w6]
    rw [if_pos (by decide), if_pos ((room_iff _).2 (by simp; omega)), if_pos (by decide)]
    obtain ⟨c, u, g1, g2, g3⟩ := twice_loop K v0 h hl m n (i + 1) ((2 * x + b) / 10) (w ++ [(2 * x + b) % 10]) (by omega) (by omega) (by omega) (by omega) (by simp [hw]) hlt
    refine ⟨c, u, g1, g2, ?_⟩
    rw [g3, hd]
    simp [tw]
theorem twice_eq (k : Nat) (l : List Int) (b : Int) (h : AllD l) (hl : l.length ≤ 900) (hk : l.length < k) (h0 : 0 ≤ b) (h1 : b ≤ 1) : tariffref01_twice k l b = some (tw l b) := by
  obtain ⟨c, u, g1, g2, g3⟩ := twice_loop k l h (by omega) l.length k 0 b [] rfl hk h0 h1 rfl (Nat.zero_le _)
  unfold tariffref01_twice
  rw [show (0 : Int) = ((0 : Nat) : Int) from rfl, g1]
  simp only [Option.bind_some]
  simp only [List.nil_append, List.drop_zero] at g3
  rw [← g3]
  by_cases hc : c > 0
  · rw [if_pos (by simpa using hc), if_pos ((room_iff _).2 (by simp; omega)), if_pos hc]
  · rw [if_neg (by simpa using hc), if_neg hc]
end Go.EvT
end
section
set_option maxRecDepth 100000
namespace Go.EvT
open Go.Ev Go
theorem and1 {n : Int} (h0 : 0 ≤ n) (h1 : n < 18446744073709551616) : ((BitVec.ofInt (IntKind.bits .u64) n &&& BitVec.ofInt (IntKind.bits .u64) (1 : Int)).toNat : Int) = n % 2 := by
  rw [BitVec.toNat_and, bvNat h0 h1, bvNat (by decide) (by decide)]
  obtain ⟨m, rfl⟩ := Int.eq_ofNat_of_zero_le h0
  have : m &&& 1 = m % 2 := Nat.and_two_pow_sub_one_eq_mod m 1
  show ((m &&& 1 : Nat) : Int) = _
  rw [this]
  omega
theorem bit_eq (e : Int) (he : u64 e) (j : Nat) (hj : j < 64) :
    IntKind.i64.wrap (IntKind.u64.wrap ((BitVec.ofInt (IntKind.bits .u64) (Int.fdiv e (2 ^ min ((j : Int)).toNat (IntKind.bits .u64))) &&& BitVec.ofInt (IntKind.bits .u64) (1 : Int)).toNat : Int)) = e / 2 ^ j % 2 := by
  have hm : min ((j : Int)).toNat (IntKind.bits .u64) = j := by show min j 64 = j; omega
  have hp : (0 : Int) < 2 ^ j := Int.pow_pos (by decide)
  have hq0 : 0 ≤ e / 2 ^ j := Int.ediv_nonneg he.1 (Int.le_of_lt hp)
  have hq1 : e / 2 ^ j ≤ e := Int.ediv_le_self _ he.1
  have := he.2
  rw [hm, Int.fdiv_eq_ediv_of_nonneg _ (Int.le_of_lt hp), and1 hq0 (by omega), wrapId (by omega) (by omega), i64_small (by omega) (by omega)]
theorem mod_pow_step (e : Int) (h : 0 ≤ e) (j : Nat) : e % 2 ^ (j + 1) = e / 2 ^ j % 2 * 2 ^ j + e % 2 ^ j := by
  obtain ⟨m, rfl⟩ := Int.eq_ofNat_of_zero_le h
  have := Nat.mod_pow_succ (x := m) (b := 2) (k := j)
  have e1 : ((m % 2 ^ (j + 1) : Nat) : Int) = (m : Int) % 2 ^ (j + 1) := by simp
  have e2 : ((m % 2 ^ j : Nat) : Int) = (m : Int) % 2 ^ j := by simp
  have e3 : ((2 ^ j * (m / 2 ^ j % 2) : Nat) : Int) = (m : Int) / 2 ^ j % 2 * 2 ^ j := by simp [Int.mul_comm]
  rw [← e1, ← e2, ← e3, this]
  omega
theorem words_bits (K : Nat) (hK : 1000 ≤ K) (v0 : List Int) (v4 e : Int) (hx : idx v0 v4 = some e) (he : u64 e) : ∀ (j n : Nat) (l : List Int), j < n → j ≤ 64 → AllD l → Nz l → l.length + j ≤ 800 →
    ∃ u, tariffref01_words.l6 K v0 v4 n l ((j : Int) - 1) = some (v0, u, v4) ∧ AllD u ∧ Nz u ∧ u.length ≤ l.length + j ∧ dval u = dval l * 2 ^ j + e % 2 ^ j
  | _, 0, _, hn, _, _, _, _ => by omega
  | 0, n + 1, l, _, _, ha, hz, hl => by
    unfold tariffref01_words.l6
    exact ⟨l, by simp, ha, hz, Nat.le_refl _, by simp⟩
  | j + 1, n + 1, l, hn, hj, ha, hz, hl => by
    unfold tariffref01_words.l6
    have e0 : ((j + 1 : Nat) : Int) - 1 = (j : Int) := by omega
    rw [e0]
    have e1 : decide ((j : Int) ≥ 0) = true := by simp
    rw [e1, if_pos rfl, hx]
    simp only [Option.bind_some]
    rw [if_pos (by omega), bit_eq e he j (by omega), twice_eq K l (e / 2 ^ j % 2) ha (by omega) (by omega) (by omega) (by omega)]
    simp only [Option.bind_some]
    rw [i64_small (by omega) (by omega)]
    have hb0 : 0 ≤ e / 2 ^ j % 2 := by omega
    have hb1 : e / 2 ^ j % 2 ≤ 1 := by omega
    have hlen := tw_len l (e / 2 ^ j % 2)
    obtain ⟨u, g1, g2, g3, g4, g5⟩ := words_bits K hK v0 v4 e hx he j n (tw l (e / 2 ^ j % 2)) (by omega) (by omega) (tw_all _ _ ha hb0 hb1) (tw_nz _ _ ha hz hb0 hb1) (by omega)
    refine ⟨u, g1, g2, g3, by omega, ?_⟩
    rw [g5, tw_val _ _ ha hb0 hb1, mod_pow_step e he.1 j, Int.pow_succ, Int.add_mul, Int.mul_comm 2 (dval l), Int.mul_assoc (dval l) 2, Int.mul_comm 2 (2 ^ j), Int.add_assoc]
theorem of_eq (k : Nat) (hk : 1000 ≤ k) (a : Wide) (ha : a.Ok) : ∃ l, tariffref01_Of k a = some l ∧ AllD l ∧ Nz l ∧ dval l = a.val := by
  obtain ⟨u, g1, g2, g3, g4, g5⟩ := words_bits k hk [a.lo, a.hi] 1 a.hi rfl ha.1 64 k [] (by omega) (by omega) (fun x h => by cases h) trivial (by simp)
  obtain ⟨w, h1, h2, h3, h4, h5⟩ := words_bits k hk [a.lo, a.hi] 0 a.lo rfl ha.2 64 k u (by omega) (by omega) g2 g3 (by simp at g4; omega)
  obtain ⟨K, rfl⟩ : ∃ K, k = K + 3 := ⟨k - 3, by omega⟩
  refine ⟨w, ?_, h2, h3, ?_⟩
  · unfold tariffref01_Of tariffref01_words
    have s1 : IntKind.i64.wrap ((([a.lo, a.hi] : List Int).length : Int) - 1) = 1 := rfl
    have s2 : IntKind.i64.wrap ((1 : Int) - 1) = 0 := by decide
    have s3 : IntKind.i64.wrap ((0 : Int) - 1) = -1 := by decide
    have s64 : ((64 : Nat) : Int) - 1 = 63 := by decide
    rw [s64] at g1 h1
    rw [s1]
    unfold tariffref01_words.l3
    rw [show decide ((1 : Int) ≥ 0) = true by decide, if_pos rfl, g1]
    simp only [Option.bind_some]
    rw [s2]
    unfold tariffref01_words.l3
    rw [show decide ((0 : Int) ≥ 0) = true by decide, if_pos rfl, h1]
    simp only [Option.bind_some]
    rw [s3]
    unfold tariffref01_words.l3
    rw [show decide ((-1 : Int) ≥ 0) = false by decide]
    simp
  · rw [h5, g5]
    obtain ⟨⟨a0, a1⟩, a2, a3⟩ := ha
    have p64 : (2 : Int) ^ 64 = 18446744073709551616 := by decide
    rw [p64]
    unfold Wide.val
    simp only [dval]
    omega
theorem pow10_mono (m : Nat) : ∀ n, m ≤ n → (10 : Int) ^ m ≤ 10 ^ n := by
  intro n h
  induction h with
  | refl => exact Int.le_refl _
  | step _ ih =>
    rw [Int.pow_succ]
    have : (0 : Int) < 10 ^ m := Int.pow_pos (by decide)
    omega
theorem rform_eq (k : Nat) (hk : 1000 ≤ k) (d : Dec) (hd : d.coef.Ok) : tariffref02_Form k d = some d.form := by
  obtain ⟨l, h1, h2, h3, h4⟩ := of_eq k hk d.coef hd
  unfold tariffref02_Form
  rw [h1]
  simp only [Option.bind_some]
  unfold Dec.form
  rw [← h4]
  have hlt := dval_lt h2
  have hlen : ((l.length : Int) > 34) ↔ ¬ dval l < 10000000000000000000000000000000000 := by
    constructor
    · intro h
      have := dval_ge h2 h3 34 (by omega)
      rw [show ((10 : Int) ^ 34) = 10000000000000000000000000000000000 by decide] at this
      omega
    · intro h
      rcases Nat.lt_or_ge 34 l.length with hh | hh
      · omega
      · exfalso
        apply h
        refine Int.lt_of_lt_of_le hlt ?_
        rw [show (10000000000000000000000000000000000 : Int) = 10 ^ 34 by decide]
        exact pow10_mono _ _ hh
  have hzero : (l.length : Int) = 0 ↔ dval l = 0 := by
    cases l with
    | nil => simp [dval]
    | cons x r =>
      have := h3.1
      simp
      omega
  generalize hL : (l.length : Int) = L at *
  by_cases c1 : L > 34
  · have := hlen.1 c1
    simp [c1, this]
  · have c1' : dval l < 10000000000000000000000000000000000 := by
      rcases Decidable.em (dval l < 10000000000000000000000000000000000) with h | h
      · exact h
      · exact absurd (hlen.2 h) c1
    by_cases c2 : d.scale < 0
    · have : ¬ 0 ≤ d.scale := by omega
      simp [c1, c1', c2, this]
    · have c2' : 0 ≤ d.scale := by omega
      by_cases c3 : d.scale > 18
      · have : ¬ d.scale ≤ 18 := by omega
        simp [c1, c1', c2, c2', c3, this]
      · have c3' : d.scale ≤ 18 := by omega
        by_cases c4 : L = 0
        · have c4' := hzero.1 c4
          cases hn : d.neg <;> simp [c1, c1', c2, c2', c3, c3', c4, c4', hn]
        · have c4' : ¬ dval l = 0 := fun h => c4 (hzero.2 h)
          obtain ⟨x, r, rfl⟩ : ∃ x r, l = x :: r := by
            cases l with
            | nil => exact absurd (by rw [← hL]; rfl) c4
            | cons x r => exact ⟨x, r, rfl⟩
          have hx := h2.head
          have e5 : idx (x :: r) (0 : Int) = some x := rfl
          have e6 : (x != 0) = (dval (x :: r) % 10 != 0) := by
            have : dval (x :: r) % 10 = x := by simp only [dval]; omega
            rw [this]
          rw [e5]
          simp only [Option.bind_some]
          rw [e6]
          by_cases c5 : d.scale = 0
          · simp [c1, c1', c2, c2', c3, c3', c4, c4', c5]
          · simp [c1, c1', c2, c2', c3, c3', c4, c4', c5]
end Go.EvT
end
section
set_option maxRecDepth 100000
namespace Go.EvT
open Go.Ev Go
def lett (c : Int) : Bool := (decide (97 ≤ c) && decide (c ≤ 122)) || (decide (65 ≤ c) && decide (c ≤ 90)) || c == 95
def digt (c : Int) : Bool := decide (48 ≤ c) && decide (c ≤ 57)
def ldAll (l : List UInt8) : Bool := l.all fun b => lett (b.toNat : Int) || digt (b.toNat : Int)
theorem letter_eq (c : Int) : tariffref04_Letter c = some (lett c) := by
  unfold tariffref04_Letter lett
  by_cases h1 : 97 ≤ c <;> by_cases h2 : c ≤ 122 <;> by_cases h3 : 65 ≤ c <;> by_cases h4 : c ≤ 90 <;> simp [h1, h2, h3, h4]
theorem digit_eq (c : Int) : tariffref04_Digit c = some (digt c) := by
  unfold tariffref04_Digit digt
  by_cases h1 : 48 ≤ c <;> by_cases h2 : c ≤ 57 <;> simp [h1, h2]
def wordB (s : ByteArray) : Bool := (chars_Word s).getD false
theorem word_eq (s : ByteArray) : chars_Word s = some (wordB s) := by
  have ite_some : ∀ (c : Bool) (X : Option Bool), (∃ b, X = some b) → ∃ b, (if c = true then some true else X) = some b := by
    intro c X h
    cases c
    · simpa using h
    · exact ⟨true, rfl⟩
  have : ∃ b, chars_Word s = some b := by
    unfold chars_Word
    iterate 11 refine ite_some _ _ ?_
    exact ⟨false, rfl⟩
  obtain ⟨b, hb⟩ := this
  unfold wordB
  rw [hb]
  rfl
theorem word_same (s : ByteArray) : tariffref04_Word s = chars_Word s := rfl
theorem drop_cons {α : Type} {l : List α} {i : Nat} {x : α} (h : l[i]? = some x) : l.drop i = x :: l.drop (i + 1) := by
  have hlt := getElem?_lt h
  rw [List.getElem?_eq_getElem hlt] at h
  rw [List.drop_eq_getElem_cons hlt, Option.some.inj h]
theorem size_list (s : ByteArray) : s.size = s.data.toList.length := by
  show s.data.size = _
  simp
theorem name_step (c : Int) (X : Option (Fl Unit Bool)) (i : Int) (hi : ¬ i = 0) :
    (((if (decide ((97 : Int) ≤ c)) = true then some (decide (c ≤ (122 : Int))) else some false) : Option Bool).bind fun b5 =>
    ((if b5 = false then ((if (decide ((65 : Int) ≤ c)) = true then some (decide (c ≤ (90 : Int))) else some false) : Option Bool).bind fun b6 => some b6 else some true) : Option Bool).bind fun b7 =>
    ((if b7 = false then some (c == (95 : Int)) else some true) : Option Bool).bind fun b8 =>
    ((if (!b8) = true then
      ((if (i == (0 : Int)) = false then some (decide (c < (48 : Int))) else some true) : Option Bool).bind fun b9 =>
      ((if b9 = false then some (decide (c > (57 : Int))) else some true) : Option Bool).bind fun b10 => some b10
      else some false) : Option Bool).bind fun b11 => if b11 = true then some (Fl.ret false) else X) = if lett c || digt c then X else some (Fl.ret false) := by
  unfold lett digt
  by_cases h1 : 97 ≤ c <;> by_cases h2 : c ≤ 122 <;> by_cases h3 : 65 ≤ c <;> by_cases h4 : c ≤ 90 <;> by_cases h5 : c = 95 <;> by_cases h6 : c < 48 <;> by_cases h7 : c > 57 <;> first | (exfalso; omega) | (simp [h1, h2, h3, h4, h5, h6, h7, hi]; done) | (simp [h1, h2, h3, h4, h5, h6, h7, hi]; intros; exfalso; omega) | simp [h1, h2, h3, h4, h5, h6, h7, hi, (show (48 : Int) ≤ c by omega), (show c ≤ 57 by omega)]
theorem name_loop (k : Nat) (s : ByteArray) (hs : s.size ≤ 1000) : ∀ (m n i : Nat), m = s.size - i → m < n → 1 ≤ i → i ≤ s.size →
    chars_Name.l4 k s (s.size : Int) n (i : Int) = if ldAll (s.data.toList.drop i) then some (.go ()) else some (.ret false)
  | _, 0, _, _, h, _, _ => by omega
  | 0, n + 1, i, hm, _, _, hi => by
    have : i = s.size := by omega
    subst this
    unfold chars_Name.l4
    have e0 : s.data.toList.drop s.size = [] := List.drop_eq_nil_of_le (by rw [size_list]; exact Nat.le_refl _)
    rw [e0]
    simp [ldAll]
  | m + 1, n + 1, i, hm, hmn, h1, hi => by
    have hlt : i < s.data.toList.length := by rw [← size_list]; omega
    obtain ⟨x, hx⟩ : ∃ x, s.data.toList[i]? = some x := ⟨_, List.getElem?_eq_getElem hlt⟩
    unfold chars_Name.l4
    have e1 : decide ((i : Int) < (s.size : Int)) = true := by simp; omega
    have e2 : idx s.data.toList (i : Int) = some x := by unfold idx; simp [hx]
    rw [e1, if_pos rfl, e2]
    simp only [Option.bind_some]
    rw [name_step _ _ _ (by omega), i64_small (by omega) (by omega), show (i : Int) + 1 = ((i + 1 : Nat) : Int) by omega, name_loop k s hs m n (i + 1) (by omega) (by omega) (by omega) (by omega), drop_cons hx]
    simp only [ldAll, List.all_cons]
    rcases Bool.eq_false_or_eq_true (lett (x.toNat : Int)) with q1 | q1 <;> rcases Bool.eq_false_or_eq_true (digt (x.toNat : Int)) with q2 | q2 <;> simp [q1, q2]
theorem rname_loop (k : Nat) (s : ByteArray) (hs : s.size ≤ 1000) : ∀ (m n i : Nat), m = s.size - i → m < n → i ≤ s.size →
    tariffref04_Name.l4 k s n (i : Int) = if ldAll (s.data.toList.drop i) then some (.go ()) else some (.ret false)
  | _, 0, _, _, h, _ => by omega
  | 0, n + 1, i, hm, _, hi => by
    have : i = s.size := by omega
    subst this
    unfold tariffref04_Name.l4
    have e0 : s.data.toList.drop s.size = [] := List.drop_eq_nil_of_le (by rw [size_list]; exact Nat.le_refl _)
    rw [e0]
    simp [ldAll]
  | m + 1, n + 1, i, hm, hmn, hi => by
    have hlt : i < s.data.toList.length := by rw [← size_list]; omega
    obtain ⟨x, hx⟩ : ∃ x, s.data.toList[i]? = some x := ⟨_, List.getElem?_eq_getElem hlt⟩
    unfold tariffref04_Name.l4
    have e1 : decide ((i : Int) < (s.size : Int)) = true := by simp; omega
    have e2 : idx s.data.toList (i : Int) = some x := by unfold idx; simp [hx]
    rw [e1, if_pos rfl, e2]
    simp only [Option.bind_some, letter_eq, digit_eq]
    rw [i64_small (by omega) (by omega), show (i : Int) + 1 = ((i + 1 : Nat) : Int) by omega, rname_loop k s hs m n (i + 1) (by omega) (by omega) (by omega), drop_cons hx]
    simp only [ldAll, List.all_cons]
    rcases Bool.eq_false_or_eq_true (lett (x.toNat : Int)) with q1 | q1 <;> rcases Bool.eq_false_or_eq_true (digt (x.toNat : Int)) with q2 | q2 <;> simp [q1, q2]
def nameB (s : ByteArray) : Bool := match s.data.toList with
  | [] => false
  | x :: r => decide (s.size ≤ 64) && lett (x.toNat : Int) && !wordB s && ldAll r
theorem rname_eq (k : Nat) (hk : 100 ≤ k) (s : ByteArray) : tariffref04_Name k s = some (nameB s) := by
  unfold tariffref04_Name nameB
  cases hl : s.data.toList with
  | nil => simp
  | cons x r =>
    have e0 : ((x :: r) == (ByteArray.mk #[]).data.toList) = false := rfl
    rw [e0]
    by_cases h64 : s.size ≤ 64
    · have e1 : decide ((s.size : Int) > 64) = false := by simp; omega
      have hlp := rname_loop k s (by omega) (s.size - 1) k 1 rfl (by omega) (by rw [size_list, hl]; simp)
      rw [show ((1 : Nat) : Int) = (1 : Int) from rfl, hl] at hlp
      have e2 : idx (x :: r) (0 : Int) = some x := rfl
      simp only [if_true, e1, Option.bind_some, e2, letter_eq, word_same, word_eq, hlp, List.drop_succ_cons, List.drop_zero, h64, decide_true, Bool.true_and]
      rcases Bool.eq_false_or_eq_true (lett (x.toNat : Int)) with q1 | q1 <;> rcases Bool.eq_false_or_eq_true (wordB s) with q2 | q2 <;> rcases Bool.eq_false_or_eq_true (ldAll r) with q3 | q3 <;> simp [q1, q2, q3]
    · have e1 : decide ((s.size : Int) > 64) = true := by simp; omega
      simp [e1, h64]
theorem name_eq (k : Nat) (hk : 100 ≤ k) (s : ByteArray) : chars_Name k s = some (nameB s) := by
  unfold chars_Name nameB
  cases hl : s.data.toList with
  | nil => simp
  | cons x r =>
    have e0 : ((x :: r) == (ByteArray.mk #[]).data.toList) = false := rfl
    rw [e0]
    by_cases h64 : s.size ≤ 64
    · have e1 : decide ((s.size : Int) > 64) = false := by simp; omega
      obtain ⟨K, rfl⟩ : ∃ K, k = K + 1 := ⟨k - 1, by omega⟩
      have hlp := name_loop (K + 1) s (by omega) (s.size - 1) K 1 rfl (by omega) (Nat.le_refl _) (by rw [size_list, hl]; simp)
      rw [show ((1 : Nat) : Int) = (1 : Int) from rfl, hl] at hlp
      have hfirst : chars_Name.l4 (K + 1) s (s.size : Int) (K + 1) (0 : Int) = if lett (x.toNat : Int) then chars_Name.l4 (K + 1) s (s.size : Int) K (1 : Int) else some (.ret false) := by
        conv => lhs; unfold chars_Name.l4
        have e2 : decide ((0 : Int) < (s.size : Int)) = true := by
          have : 0 < s.size := by rw [size_list, hl]; simp
          simp; omega
        rw [e2, if_pos rfl, hl, show idx (x :: r) (0 : Int) = some x from rfl]
        simp only [Option.bind_some]
        rw [show IntKind.i64.wrap ((0 : Int) + 1) = 1 by decide]
        unfold lett
        generalize (x.toNat : Int) = c
        by_cases h1 : 97 ≤ c <;> by_cases h2 : c ≤ 122 <;> by_cases h3 : 65 ≤ c <;> by_cases h4 : c ≤ 90 <;> by_cases h5 : c = 95 <;> simp [h1, h2, h3, h4, h5]
      simp only [if_true, e1, Option.bind_some, word_eq, hfirst, hlp, List.drop_succ_cons, List.drop_zero, h64, decide_true, Bool.true_and]
      rcases Bool.eq_false_or_eq_true (lett (x.toNat : Int)) with q1 | q1 <;> rcases Bool.eq_false_or_eq_true (wordB s) with q2 | q2 <;> rcases Bool.eq_false_or_eq_true (ldAll r) with q3 | q3 <;> simp [q1, q2, q3]
    · have e1 : decide ((s.size : Int) > 64) = true := by simp; omega
      simp [e1, h64]
end Go.EvT
end
section
set_option maxRecDepth 100000
namespace Go.EvT
open Go.Ev Go Go.Lib
def byt (s : ByteArray) (i : Nat) : Nat := (s.get! i).toNat
theorem byt_lt (s : ByteArray) (i : Nat) : byt s i < 256 := (s.get! i).toNat_lt
theorem idx_get (s : ByteArray) (i : Nat) (h : i < s.size) : idx s.data.toList (i : Int) = some (s.get! i) := by
  unfold idx
  rw [if_pos (by omega), show ((i : Int)).toNat = i from rfl, ← getD_get!', List.getD_eq_getElem?_getD]
  have : i < s.data.toList.length := by rw [← size_list]; exact h
  rw [List.getElem?_eq_getElem this]
  rfl
theorem decodeL_drop (s : ByteArray) (i : Nat) : decodeL (s.data.toList.drop i) = decodeN (s.size - i) (byt s i) (byt s (i + 1)) (byt s (i + 2)) (byt s (i + 3)) := by
  have g : ∀ j, (s.data.toList.drop i).getD j 0 = s.get! (i + j) := by
    intro j
    rw [← getD_get!', List.getD_eq_getElem?_getD, List.getD_eq_getElem?_getD, List.getElem?_drop]
  rw [decodeL_N, g, g, g, g, List.length_drop, ← size_list]
  rfl
theorem decode_N (s : ByteArray) (i : Nat) : Utf8.decode s i = decodeN (s.size - i) (byt s i) (byt s (i + 1)) (byt s (i + 2)) (byt s (i + 3)) := decode_at s i
def vAll (s : ByteArray) : Nat → Nat → Bool
  | 0, _ => true
  | b + 1, i => if i < s.size then (if (Utf8.decode s i).1 = 65533 ∧ (Utf8.decode s i).2 = 1 then false else charB ((Utf8.decode s i).1 : Int) && vAll s b (i + (Utf8.decode s i).2)) else true
theorem vAll_eq (s : ByteArray) : ∀ (b i : Nat), s.size ≤ i + b → (validD (s.data.toList.drop i) && runesAll charB s b i) = vAll s b i
  | 0, i, h => by
    have : s.data.toList.drop i = [] := List.drop_eq_nil_of_le (by rw [← size_list]; omega)
    rw [this]
    rfl
  | b + 1, i, h => by
    simp only [vAll, runesAll]
    by_cases hi : i < s.size
    · simp only [hi, if_true]
      have hne : s.data.toList.drop i ≠ [] := by
        intro e
        have := congrArg List.length e
        rw [List.length_drop, ← size_list] at this
        simp at this
        omega
      have e1 : decodeL (s.data.toList.drop i) = Utf8.decode s i := by rw [decodeL_drop, decode_N]
      rw [validD_step _ hne, e1]
      by_cases hb : (Utf8.decode s i).1 = 65533 ∧ (Utf8.decode s i).2 = 1
      · simp [hb]
      · rw [if_neg hb, if_neg hb, List.drop_drop]
        have hw := width_pos s i hi
        have := vAll_eq s b (i + (Utf8.decode s i).2) (by omega)
        rw [← this]
        cases charB ((Utf8.decode s i).1 : Int) <;> simp
    · have : s.data.toList.drop i = [] := List.drop_eq_nil_of_le (by rw [← size_list]; omega)
      rw [this]
      simp [hi, validD_nil]
theorem valid_vAll (s : ByteArray) : validText s = vAll s s.size 0 := by
  have := vAll_eq s s.size 0 (by omega)
  rw [← this, List.drop_zero]
  rfl
theorem c0_eq : ∀ b : Fin 256, ((IntKind.wrap .u8 ((BitVec.ofInt (IntKind.bits .u8) (b.val : Int) &&& BitVec.ofInt (IntKind.bits .u8) (192 : Int)).toNat : Int)) != (128 : Int)) = !(decide (b.val / 64 = 2)) := by decide +kernel
theorem m63_eq : ∀ b : Fin 256, (IntKind.wrap .i64 (IntKind.wrap .u8 ((BitVec.ofInt (IntKind.bits .u8) (b.val : Int) &&& BitVec.ofInt (IntKind.bits .u8) (63 : Int)).toNat : Int))) = ((b.val % 64 : Nat) : Int) := by decide +kernel
theorem m31_eq : ∀ b : Fin 256, (IntKind.wrap .i64 ((BitVec.ofInt (IntKind.bits .i64) (b.val : Int) &&& BitVec.ofInt (IntKind.bits .i64) (31 : Int)).toNat : Int)) = ((b.val % 32 : Nat) : Int) := by decide +kernel
theorem m15_eq : ∀ b : Fin 256, (IntKind.wrap .i64 ((BitVec.ofInt (IntKind.bits .i64) (b.val : Int) &&& BitVec.ofInt (IntKind.bits .i64) (15 : Int)).toNat : Int)) = ((b.val % 16 : Nat) : Int) := by decide +kernel
theorem m7_eq : ∀ b : Fin 256, (IntKind.wrap .i64 ((BitVec.ofInt (IntKind.bits .i64) (b.val : Int) &&& BitVec.ofInt (IntKind.bits .i64) (7 : Int)).toNat : Int)) = ((b.val % 8 : Nat) : Int) := by decide +kernel
def contB (s : ByteArray) (j : Nat) : Bool := decide (j < s.size) && decide (byt s j / 64 = 2)
theorem tail_eq (s : ByteArray) (j : Nat) : tariffref04_tail s (j : Int) = if contB s j then some (((byt s j % 64 : Nat) : Int), true) else some (0, false) := by
  unfold tariffref04_tail contB
  by_cases h : j < s.size
  · have e1 : decide ((j : Int) ≥ (s.size : Int)) = false := by simp; omega
    rw [e1, idx_get s j h]
    have e2 := c0_eq ⟨byt s j, byt_lt s j⟩
    have e3 := m63_eq ⟨byt s j, byt_lt s j⟩
    simp only [byt] at e2 e3 ⊢
    simp only [if_true, Option.bind_some, e2, e3, h, decide_true, Bool.true_and]
    by_cases hb : (s.get! j).toNat / 64 = 2 <;> simp [hb]
  · have e1 : decide ((j : Int) ≥ (s.size : Int)) = true := by simp; omega
    simp [e1, h]
end Go.EvT
end
section
set_option maxRecDepth 100000
namespace Go.EvT
open Go.Ev Go Go.Lib
theorem l13_step (K : Nat) (s : ByteArray) (i j : Nat) (v8 v9 c : Int) (n : Nat) (hj : (j : Int) < v8) (hi : i + j < 100000000) (hc0 : 0 ≤ c) (hc1 : c < 100000000) :
    tariffref04_one.l13 K s (i : Int) v8 v9 (n + 1) c (j : Int) = if contB s (i + j) then tariffref04_one.l13 K s (i : Int) v8 v9 n (c * 64 + ((byt s (i + j) % 64 : Nat) : Int)) ((j + 1 : Nat) : Int) else some (.ret (0, 0, false)) := by
  conv => lhs; unfold tariffref04_one.l13
  have e1 : decide ((j : Int) < v8) = true := by simpa using hj
  have e2 : IntKind.i64.wrap ((i : Int) + (j : Int)) = ((i + j : Nat) : Int) := by rw [i64_small (by omega) (by omega)]; omega
  rw [e1, if_pos rfl, e2, tail_eq]
  have hb : byt s (i + j) % 64 < 64 := Nat.mod_lt _ (by decide)
  have e3 : IntKind.i64.wrap (IntKind.i64.wrap (c * 64) + ((byt s (i + j) % 64 : Nat) : Int)) = c * 64 + ((byt s (i + j) % 64 : Nat) : Int) := by
    rw [i64_small (n := c * 64) (by omega) (by omega), i64_small (by omega) (by omega)]
  have e4 : IntKind.i64.wrap ((j : Int) + 1) = ((j + 1 : Nat) : Int) := by rw [i64_small (by omega) (by omega)]; omega
  by_cases hcb : contB s (i + j) = true
  · rw [if_pos hcb, if_pos hcb]
    simp only [Option.bind_some, e3, e4]
    rfl
  · rw [if_neg hcb, if_neg hcb]
    rfl
theorem l13_end (K : Nat) (s : ByteArray) (i j : Nat) (v8 v9 c : Int) (n : Nat) (hj : ¬ (j : Int) < v8) : tariffref04_one.l13 K s (i : Int) v8 v9 (n + 1) c (j : Int) = some (.go (c, v8, v9)) := by
  conv => lhs; unfold tariffref04_one.l13
  have e1 : decide ((j : Int) < v8) = false := by simpa using hj
  rw [e1]
  rfl
def one' (s : ByteArray) (i : Nat) : Int × Int × Bool :=
  if byt s i < 128 then ((byt s i : Int), 1, true)
  else if byt s i / 32 = 6 then (if contB s (i + 1) then
    ((((byt s i % 32 : Nat) : Int) * 64 + ((byt s (i + 1) % 64 : Nat) : Int)), 2, decide ((((byt s i % 32 : Nat) : Int) * 64 + ((byt s (i + 1) % 64 : Nat) : Int)) ≥ 128)) else (0, 0, false))
  else if byt s i / 16 = 14 then (if contB s (i + 1) then (if contB s (i + 2) then
    ((((byt s i % 16 : Nat) : Int) * 64 + ((byt s (i + 1) % 64 : Nat) : Int)) * 64 + ((byt s (i + 2) % 64 : Nat) : Int), 3, decide ((((byt s i % 16 : Nat) : Int) * 64 + ((byt s (i + 1) % 64 : Nat) : Int)) * 64 + ((byt s (i + 2) % 64 : Nat) : Int) ≥ 2048)) else (0, 0, false)) else (0, 0, false))
  else if byt s i / 8 = 30 then (if contB s (i + 1) then (if contB s (i + 2) then (if contB s (i + 3) then
    (((((byt s i % 8 : Nat) : Int) * 64 + ((byt s (i + 1) % 64 : Nat) : Int)) * 64 + ((byt s (i + 2) % 64 : Nat) : Int)) * 64 + ((byt s (i + 3) % 64 : Nat) : Int), 4, decide (((((byt s i % 8 : Nat) : Int) * 64 + ((byt s (i + 1) % 64 : Nat) : Int)) * 64 + ((byt s (i + 2) % 64 : Nat) : Int)) * 64 + ((byt s (i + 3) % 64 : Nat) : Int) ≥ 65536)) else (0, 0, false)) else (0, 0, false)) else (0, 0, false))
  else (0, 0, false)
theorem one_eq (K : Nat) (s : ByteArray) (i : Nat) (hi : i < s.size) (hs : s.size ≤ 2000000) : tariffref04_one (K + 5) s (i : Int) = some (one' s i) := by
  have hb := byt_lt s i
  unfold tariffref04_one
  rw [idx_get s i hi]
  simp only [Option.bind_some]
  have ew : IntKind.i64.wrap ((s.get! i).toNat : Int) = (byt s i : Int) := i64_small (by omega) (by unfold byt at hb; omega)
  have m31 := m31_eq ⟨byt s i, hb⟩
  have m15 := m15_eq ⟨byt s i, hb⟩
  have m7 := m7_eq ⟨byt s i, hb⟩
  simp only [] at m31 m15 m7
  simp only [ew, m31, m15, m7]
  have h1 : (1 : Int) = ((1 : Nat) : Int) := rfl
  unfold one'
  by_cases c1 : byt s i < 128
  · have : decide ((byt s i : Int) < 128) = true := by simp; omega
    rw [this, if_pos c1]
    rfl
  · have d1 : decide ((byt s i : Int) < 128) = false := by simp; omega
    rw [d1, if_neg c1]
    simp only [Bool.false_eq_true, if_false]
    by_cases c2 : byt s i / 32 = 6
    · have d2 : decide ((byt s i : Int) ≥ 192) = true := by simp; omega
      have d3 : decide ((byt s i : Int) < 224) = true := by simp; omega
      rw [d2, d3, if_pos c2]
      simp only [if_true, Option.bind_some]
      rw [h1, l13_step _ _ _ 1 _ _ _ _ (by decide) (by omega) (by omega) (by omega)]
      by_cases k1 : contB s (i + 1) = true
      · rw [if_pos k1, if_pos k1, l13_end _ _ _ 2 _ _ _ _ (by decide)]
        rfl
      · rw [if_neg k1, if_neg k1]
        rfl
    · by_cases c3 : byt s i / 16 = 14
      · have d2 : decide ((byt s i : Int) ≥ 192) = true := by simp; omega
        have d3 : decide ((byt s i : Int) < 224) = false := by simp; omega
        have d4 : decide ((byt s i : Int) ≥ 224) = true := by simp; omega
        have d5 : decide ((byt s i : Int) < 240) = true := by simp; omega
        rw [d2, d3, d4, d5, if_neg c2, if_pos c3]
        simp only [if_true, Option.bind_some, Bool.false_eq_true, if_false]
        have hm : byt s i % 16 < 16 := Nat.mod_lt _ (by decide)
        have hm1 : byt s (i + 1) % 64 < 64 := Nat.mod_lt _ (by decide)
        rw [h1, l13_step _ _ _ 1 _ _ _ _ (by decide) (by omega) (by omega) (by omega)]
        by_cases k1 : contB s (i + 1) = true
        · rw [if_pos k1, if_pos k1, l13_step _ _ _ 2 _ _ _ _ (by decide) (by omega) (by omega) (by omega)]
          by_cases k2 : contB s (i + 2) = true
          · rw [if_pos k2, if_pos k2, l13_end _ _ _ 3 _ _ _ _ (by decide)]
            rfl
          · rw [if_neg k2, if_neg k2]
            rfl
        · rw [if_neg k1, if_neg k1]
          rfl
      · by_cases c4 : byt s i / 8 = 30
        · have d2 : decide ((byt s i : Int) ≥ 192) = true := by simp; omega
          have d3 : decide ((byt s i : Int) < 224) = false := by simp; omega
          have d4 : decide ((byt s i : Int) ≥ 224) = true := by simp; omega
          have d5 : decide ((byt s i : Int) < 240) = false := by simp; omega
          have d6 : decide ((byt s i : Int) ≥ 240) = true := by simp; omega
          have d7 : decide ((byt s i : Int) < 248) = true := by simp; omega
          rw [d2, d3, d4, d5, d6, d7, if_neg c2, if_neg c3, if_pos c4]
          simp only [if_true, Option.bind_some, Bool.false_eq_true, if_false]
          have hm : byt s i % 8 < 8 := Nat.mod_lt _ (by decide)
          have hm1 : byt s (i + 1) % 64 < 64 := Nat.mod_lt _ (by decide)
          have hm2 : byt s (i + 2) % 64 < 64 := Nat.mod_lt _ (by decide)
          rw [h1, l13_step _ _ _ 1 _ _ _ _ (by decide) (by omega) (by omega) (by omega)]
          by_cases k1 : contB s (i + 1) = true
          · rw [if_pos k1, if_pos k1, l13_step _ _ _ 2 _ _ _ _ (by decide) (by omega) (by omega) (by omega)]
            by_cases k2 : contB s (i + 2) = true
            · rw [if_pos k2, if_pos k2, l13_step _ _ _ 3 _ _ _ _ (by decide) (by omega) (by omega) (by omega)]
              by_cases k3 : contB s (i + 3) = true
              · rw [if_pos k3, if_pos k3, l13_end _ _ _ 4 _ _ _ _ (by decide)]
                rfl
              · rw [if_neg k3, if_neg k3]
                rfl
            · rw [if_neg k2, if_neg k2]
              rfl
          · rw [if_neg k1, if_neg k1]
            rfl
        · rw [if_neg c2, if_neg c3, if_neg c4]
          have hlow : byt s i < 192 ∨ 248 ≤ byt s i := by omega
          rcases hlow with h | h
          · have d2 : decide ((byt s i : Int) ≥ 192) = false := by simp; omega
            have d4 : decide ((byt s i : Int) ≥ 224) = false := by simp; omega
            have d6 : decide ((byt s i : Int) ≥ 240) = false := by simp; omega
            rw [d2, d4, d6]
            rfl
          · have d2 : decide ((byt s i : Int) < 224) = false := by simp; omega
            have d4 : decide ((byt s i : Int) < 240) = false := by simp; omega
            have d6 : decide ((byt s i : Int) < 248) = false := by simp; omega
            have d3 : decide ((byt s i : Int) ≥ 192) = true := by simp; omega
            have d5 : decide ((byt s i : Int) ≥ 224) = true := by simp; omega
            have d7 : decide ((byt s i : Int) ≥ 240) = true := by simp; omega
            rw [d2, d4, d6, d3, d5, d7]
            rfl
end Go.EvT
end
section
set_option maxRecDepth 100000
namespace Go.EvT
open Go.Ev Go Go.Lib
theorem rchar_eq (c : Int) : tariffref04_Char c = some (charB c) := by
  unfold tariffref04_Char charB
  by_cases h1 : c = 9
  · subst h1; rfl
  by_cases h2 : c = 10
  · subst h2; rfl
  by_cases h3 : c = 13
  · subst h3; rfl
  have e1 : (c == 9) = false := by simpa using h1
  have e2 : (c == 10) = false := by simpa using h2
  have e3 : (c == 13) = false := by simpa using h3
  rw [e1, e2, e3]
  by_cases h4 : c < 32
  · have a1 : decide (c ≥ 32) = false := by simp; omega
    have a2 : decide (c ≥ 57344) = false := by simp; omega
    have a3 : decide (c ≥ 65536) = false := by simp; omega
    rw [a1, a2, a3]
    simp [h4]
  · have a1 : decide (c ≥ 32) = true := by simp; omega
    have a4 : decide (c < 32) = false := by simp; omega
    rw [a1, a4]
    by_cases h5 : c < 55296
    · have b1 : decide (c ≤ 55295) = true := by simp; omega
      have b2 : decide (c ≥ 55296) = false := by simp; omega
      have b3 : (c == 65534) = false := by simp; omega
      have b4 : (c == 65535) = false := by simp; omega
      have b5 : decide (c ≤ 1114111) = true := by simp; omega
      rw [b1, b2, b3, b4, b5]
      simp
    · have b1 : decide (c ≤ 55295) = false := by simp; omega
      have b2 : decide (c ≥ 55296) = true := by simp; omega
      rw [b1, b2]
      by_cases h6 : c < 57344
      · have g1 : decide (c ≥ 57344) = false := by simp; omega
        have g2 : decide (c < 57344) = true := by simp; omega
        have g3 : decide (c ≥ 65536) = false := by simp; omega
        rw [g1, g2, g3]
        simp
      · have g1 : decide (c ≥ 57344) = true := by simp; omega
        have g2 : decide (c < 57344) = false := by simp; omega
        rw [g1, g2]
        by_cases h7 : c ≤ 65533
        · have q1 : decide (c ≤ 65533) = true := by simp; omega
          have q2 : (c == 65534) = false := by simp; omega
          have q3 : (c == 65535) = false := by simp; omega
          have q4 : decide (c ≤ 1114111) = true := by simp; omega
          rw [q1, q2, q3, q4]
          simp
        · have q1 : decide (c ≤ 65533) = false := by simp; omega
          rw [q1]
          by_cases h8 : c ≥ 65536
          · have q2 : (c == 65534) = false := by simp; omega
            have q3 : (c == 65535) = false := by simp; omega
            have q5 : decide (c ≥ 65536) = true := by simp; omega
            rw [q2, q3, q5]
            simp
          · have q5 : decide (c ≥ 65536) = false := by simp; omega
            have : c = 65534 ∨ c = 65535 := by omega
            rw [q5]
            rcases this with h | h <;> simp [h]
theorem charB_surr {c : Int} (h1 : 55296 ≤ c) (h2 : c < 57344 ∨ 1114111 < c) : charB c = false := by
  unfold charB
  have e1 : (c == 9) = false := by simp; omega
  have e2 : (c == 10) = false := by simp; omega
  have e3 : (c == 13) = false := by simp; omega
  rw [e1, e2, e3]
  rcases h2 with h | h
  · have b1 : decide (c ≥ 55296) = true := by simp; omega
    have b2 : decide (c < 57344) = true := by simp; omega
    rw [b1, b2]
    simp
  · have b1 : decide (c ≤ 1114111) = false := by simp; omega
    rw [b1]
    simp
theorem decodeN_1 {N b0 b1 b2 b3 : Nat} (h : b0 < 128) : decodeN N b0 b1 b2 b3 = (b0, 1) := by unfold decodeN; rw [if_pos h]
theorem decodeN_2 {N b0 b1 b2 b3 C : Nat} (h : b0 / 32 = 6) (hC : C = b0 % 32 * 64 + b1 % 64) : decodeN N b0 b1 b2 b3 = if 1 < N ∧ b1 / 64 = 2 then (if C ≥ 128 then (C, 2) else (65533, 1)) else (65533, 1) := by
  unfold decodeN
  rw [if_neg (by omega), ← hC]
  by_cases k : 1 < N ∧ b1 / 64 = 2
  · rw [if_pos ⟨h, k⟩, if_pos k]
  · rw [if_neg (fun q => k q.2), if_neg k, if_neg (fun q => by omega), if_neg (fun q => by omega)]
theorem decodeN_3 {N b0 b1 b2 b3 C : Nat} (h : b0 / 16 = 14) (hC : C = b0 % 16 * 4096 + b1 % 64 * 64 + b2 % 64) : decodeN N b0 b1 b2 b3 = if (1 < N ∧ b1 / 64 = 2) ∧ (2 < N ∧ b2 / 64 = 2) then (if C ≥ 2048 ∧ (C < 55296 ∨ (57344 ≤ C ∧ C ≤ 1114111)) then (C, 3) else (65533, 1)) else (65533, 1) := by
  unfold decodeN
  rw [if_neg (by omega), if_neg (fun q => by omega), ← hC]
  by_cases k : (1 < N ∧ b1 / 64 = 2) ∧ (2 < N ∧ b2 / 64 = 2)
  · rw [if_pos ⟨h, k⟩, if_pos k]
  · rw [if_neg (fun q => k q.2), if_neg k, if_neg (fun q => by omega)]
theorem decodeN_4 {N b0 b1 b2 b3 C : Nat} (h : b0 / 8 = 30) (hC : C = b0 % 8 * 262144 + b1 % 64 * 4096 + b2 % 64 * 64 + b3 % 64) : decodeN N b0 b1 b2 b3 = if (1 < N ∧ b1 / 64 = 2) ∧ (2 < N ∧ b2 / 64 = 2) ∧ (3 < N ∧ b3 / 64 = 2) then (if C ≥ 65536 ∧ (C < 55296 ∨ (57344 ≤ C ∧ C ≤ 1114111)) then (C, 4) else (65533, 1)) else (65533, 1) := by
  unfold decodeN
  rw [if_neg (by omega), if_neg (fun q => by omega), if_neg (fun q => by omega), ← hC]
  by_cases k : (1 < N ∧ b1 / 64 = 2) ∧ (2 < N ∧ b2 / 64 = 2) ∧ (3 < N ∧ b3 / 64 = 2)
  · rw [if_pos ⟨h, k⟩, if_pos k]
  · rw [if_neg (fun q => k q.2), if_neg k]
theorem decodeN_0 {N b0 b1 b2 b3 : Nat} (h1 : ¬ b0 < 128) (h2 : ¬ b0 / 32 = 6) (h3 : ¬ b0 / 16 = 14) (h4 : ¬ b0 / 8 = 30) : decodeN N b0 b1 b2 b3 = (65533, 1) := by
  unfold decodeN
  rw [if_neg h1, if_neg (fun q => h2 q.1), if_neg (fun q => h3 q.1), if_neg (fun q => h4 q.1)]
def Agree (o : Int × Int × Bool) (d : Nat × Nat) : Prop := ((o.2.2 && charB o.1) = (if d.1 = 65533 ∧ d.2 = 1 then false else charB (d.1 : Int))) ∧ (o.2.2 = true → charB o.1 = true → o.2.1 = (d.2 : Int))
theorem agree_bad {c n : Int} : Agree (c, n, false) (65533, 1) := ⟨by simp, by simp⟩
theorem agree_go {C n : Nat} (hn : n ≠ 1) : Agree ((C : Int), (n : Int), true) (C, n) := ⟨by simp [hn], fun _ _ => rfl⟩
theorem agree_surr {c n : Int} {b : Bool} (h : charB c = false) : Agree (c, n, b) (65533, 1) := ⟨by simp [h], fun _ h2 => by rw [h] at h2; cases h2⟩
theorem contB_eq (s : ByteArray) (i j : Nat) (h : i < s.size) : contB s (i + j) = true ↔ (j < s.size - i ∧ byt s (i + j) / 64 = 2) := by
  unfold contB
  simp only [Bool.and_eq_true, decide_eq_true_eq]
  constructor
  · rintro ⟨a, b⟩; exact ⟨by omega, b⟩
  · rintro ⟨a, b⟩; exact ⟨by omega, b⟩
theorem one_decode (s : ByteArray) (i : Nat) (hi : i < s.size) : Agree (one' s i) (Utf8.decode s i) := by
  rw [decode_N]
  have c1 := contB_eq s i 1 hi
  have c2 := contB_eq s i 2 hi
  have c3 := contB_eq s i 3 hi
  unfold one'
  by_cases h1 : byt s i < 128
  · rw [if_pos h1, decodeN_1 h1]
    refine ⟨?_, fun _ _ => rfl⟩
    rw [if_neg (by intro q; have := q.1; simp only at this; omega)]
    simp
  rw [if_neg h1]
  by_cases h2 : byt s i / 32 = 6
  · rw [if_pos h2]
    obtain ⟨C, hC⟩ : ∃ C, C = byt s i % 32 * 64 + byt s (i + 1) % 64 := ⟨_, rfl⟩
    rw [decodeN_2 h2 hC]
    have e : ((byt s i % 32 : Nat) : Int) * 64 + ((byt s (i + 1) % 64 : Nat) : Int) = (C : Int) := by omega
    rw [e]
    by_cases k1 : contB s (i + 1) = true
    · rw [if_pos k1, if_pos (c1.1 k1)]
      by_cases k : C ≥ 128
      · rw [if_pos k, decide_eq_true (by omega : ((C : Nat) : Int) ≥ 128)]
        exact agree_go (n := 2) (by decide)
      · rw [if_neg k, decide_eq_false (by omega : ¬ ((C : Nat) : Int) ≥ 128)]
        exact agree_bad
    · rw [if_neg k1, if_neg (fun q => k1 (c1.2 q))]
      exact agree_bad
  rw [if_neg h2]
  by_cases h3 : byt s i / 16 = 14
  · rw [if_pos h3]
    obtain ⟨C, hC⟩ : ∃ C, C = byt s i % 16 * 4096 + byt s (i + 1) % 64 * 64 + byt s (i + 2) % 64 := ⟨_, rfl⟩
    rw [decodeN_3 h3 hC]
    have e : (((byt s i % 16 : Nat) : Int) * 64 + ((byt s (i + 1) % 64 : Nat) : Int)) * 64 + ((byt s (i + 2) % 64 : Nat) : Int) = (C : Int) := by omega
    rw [e]
    by_cases k1 : contB s (i + 1) = true
    · rw [if_pos k1]
      by_cases k2 : contB s (i + 2) = true
      · rw [if_pos k2, if_pos ⟨c1.1 k1, c2.1 k2⟩]
        by_cases k : C ≥ 2048
        · rw [decide_eq_true (by omega : ((C : Nat) : Int) ≥ 2048)]
          by_cases kv : C < 55296 ∨ (57344 ≤ C ∧ C ≤ 1114111)
          · rw [if_pos ⟨k, kv⟩]
            exact agree_go (n := 3) (by decide)
          · rw [if_neg (fun q => kv q.2)]
            exact agree_surr (charB_surr (by omega) (by omega))
        · rw [if_neg (fun q => k q.1), decide_eq_false (by omega : ¬ ((C : Nat) : Int) ≥ 2048)]
          exact agree_bad
      · rw [if_neg k2, if_neg (fun q => k2 (c2.2 q.2))]
        exact agree_bad
    · rw [if_neg k1, if_neg (fun q => k1 (c1.2 q.1))]
      exact agree_bad
  rw [if_neg h3]
  by_cases h4 : byt s i / 8 = 30
  · rw [if_pos h4]
    obtain ⟨C, hC⟩ : ∃ C, C = byt s i % 8 * 262144 + byt s (i + 1) % 64 * 4096 + byt s (i + 2) % 64 * 64 + byt s (i + 3) % 64 := ⟨_, rfl⟩
    rw [decodeN_4 h4 hC]
    have e : ((((byt s i % 8 : Nat) : Int) * 64 + ((byt s (i + 1) % 64 : Nat) : Int)) * 64 + ((byt s (i + 2) % 64 : Nat) : Int)) * 64 + ((byt s (i + 3) % 64 : Nat) : Int) = (C : Int) := by omega
    rw [e]
    by_cases k1 : contB s (i + 1) = true
    · rw [if_pos k1]
      by_cases k2 : contB s (i + 2) = true
      · rw [if_pos k2]
        by_cases k3 : contB s (i + 3) = true
        · rw [if_pos k3, if_pos ⟨c1.1 k1, c2.1 k2, c3.1 k3⟩]
          by_cases k : C ≥ 65536
          · rw [decide_eq_true (by omega : ((C : Nat) : Int) ≥ 65536)]
            by_cases kv : C < 55296 ∨ (57344 ≤ C ∧ C ≤ 1114111)
            · rw [if_pos ⟨k, kv⟩]
              exact agree_go (n := 4) (by decide)
            · rw [if_neg (fun q => kv q.2)]
              exact agree_surr (charB_surr (by omega) (by omega))
          · rw [if_neg (fun q => k q.1), decide_eq_false (by omega : ¬ ((C : Nat) : Int) ≥ 65536)]
            exact agree_bad
        · rw [if_neg k3, if_neg (fun q => k3 (c3.2 q.2.2))]
          exact agree_bad
      · rw [if_neg k2, if_neg (fun q => k2 (c2.2 q.2.1))]
        exact agree_bad
    · rw [if_neg k1, if_neg (fun q => k1 (c1.2 q.1))]
      exact agree_bad
  rw [if_neg h4, decodeN_0 h1 h2 h3 h4]
  exact agree_bad
end Go.EvT
end
section
set_option maxRecDepth 100000
namespace Go.EvT
open Go.Ev Go Go.Lib
theorem width_le (s : ByteArray) (i : Nat) : (Utf8.decode s i).2 ≤ 4 := by
  rw [decode_N]
  unfold decodeN
  repeat' split
  all_goals simp
theorem chars_loop (K : Nat) (s : ByteArray) (hs : s.size ≤ 2000000) : ∀ (b n i : Nat) (w : List Int), b < n → s.size ≤ i + b → i ≤ s.size + 4 → w.length ≤ i →
    if vAll s b i then ∃ w' v', tariffref04_Chars.l3 (K + 5) s n w (i : Int) = some (.go (w', v')) ∧ w'.length ≤ 2000010 else tariffref04_Chars.l3 (K + 5) s n w (i : Int) = some (.ret ([], false))
  | _, 0, _, _, h, _, _, _ => by omega
  | 0, n + 1, i, w, _, hb, hi, hw => by
    have : vAll s 0 i = true := rfl
    rw [if_pos this]
    unfold tariffref04_Chars.l3
    have e1 : decide ((i : Int) < (s.size : Int)) = false := by simp; omega
    rw [e1]
    exact ⟨w, _, rfl, by omega⟩
  | b + 1, n + 1, i, w, hbn, hb, hi, hw => by
    unfold tariffref04_Chars.l3
    by_cases h : i < s.size
    · have e1 : decide ((i : Int) < (s.size : Int)) = true := by simp; omega
      obtain ⟨a1, a2⟩ := one_decode s i h
      have hwp := width_pos s i h
      have hwl := width_le s i
      rw [e1, if_pos rfl, one_eq K s i h hs]
      simp only [Option.bind_some, rchar_eq]
      simp only [vAll, h, if_true]
      have key : ((if (!(one' s i).2.2) = false then some (!charB (one' s i).1) else some true) : Option Bool) = some (!((one' s i).2.2 && charB (one' s i).1)) := by
        rcases Bool.eq_false_or_eq_true (one' s i).2.2 with q | q <;> simp [q]
      rw [key, a1]
      simp only [Option.bind_some]
      by_cases hbad : (Utf8.decode s i).1 = 65533 ∧ (Utf8.decode s i).2 = 1
      · rw [if_pos hbad, if_pos hbad]
        simp
      · rw [if_neg hbad, if_neg hbad]
        rw [if_neg hbad] at a1
        rcases Bool.eq_false_or_eq_true (charB ((Utf8.decode s i).1 : Int)) with q | q
        · rw [q] at a1
          simp only [Bool.and_eq_true] at a1
          have hn := a2 a1.1 a1.2
          rw [q, hn]
          simp only [Bool.not_true, Bool.false_eq_true, if_false, Bool.true_and]
          rw [if_pos ((room_iff _).2 (by simp; omega)), i64_small (by omega) (by omega), show (i : Int) + ((Utf8.decode s i).2 : Int) = ((i + (Utf8.decode s i).2 : Nat) : Int) by omega]
          exact chars_loop K s hs b n (i + (Utf8.decode s i).2) (w ++ [(i : Int)]) (by omega) (by omega) (by omega) (by simp; omega)
        · rw [q]
          simp
    · have e1 : decide ((i : Int) < (s.size : Int)) = false := by simp; omega
      have : vAll s (b + 1) i = true := by simp [vAll, h]
      rw [if_pos this, e1]
      exact ⟨w, _, rfl, by omega⟩
theorem rvalid_eq (k : Nat) (s : ByteArray) (hs : s.size ≤ 2000000) (hk : s.size + 10 ≤ k) : tariffref04_Valid k s = some (validText s) := by
  obtain ⟨K, rfl⟩ : ∃ K, k = K + 5 := ⟨k - 5, by omega⟩
  have h := chars_loop K s hs s.size (K + 5) 0 [] (by omega) (by omega) (by omega) (by simp)
  rw [valid_vAll]
  unfold tariffref04_Valid tariffref04_Chars
  rw [show ((0 : Nat) : Int) = (0 : Int) from rfl] at h
  rcases Bool.eq_false_or_eq_true (vAll s s.size 0) with q | q
  · rw [if_pos q] at h
    obtain ⟨w', v', h1, h2⟩ := h
    rw [h1, q]
    simp only [Option.bind_some]
    rw [if_pos ((room_iff _).2 (by simp; omega))]
    rfl
  · rw [if_neg (by rw [q]; decide)] at h
    rw [h, q]
    rfl
end Go.EvT
end
section
set_option maxRecDepth 100000
namespace Go.EvT
open Go.Ev Go Go.Lib
theorem in37 {op : Int} (h1 : 1 ≤ op) (h2 : op ≤ 37) : op = 1 ∨ op = 2 ∨ op = 3 ∨ op = 4 ∨ op = 5 ∨ op = 6 ∨ op = 7 ∨ op = 8 ∨ op = 9 ∨ op = 10 ∨ op = 11 ∨ op = 12 ∨ op = 13 ∨ op = 14 ∨ op = 15 ∨ op = 16 ∨ op = 17 ∨ op = 18 ∨ op = 19 ∨ op = 20 ∨ op = 21 ∨ op = 22 ∨ op = 23 ∨ op = 24 ∨ op = 25 ∨ op = 26 ∨ op = 27 ∨ op = 28 ∨ op = 29 ∨ op = 30 ∨ op = 31 ∨ op = 32 ∨ op = 33 ∨ op = 34 ∨ op = 35 ∨ op = 36 ∨ op = 37 := by omega
def fitB (lo hi kids : Int) : Bool := decide (kids ≥ lo) && (hi == -1 || decide (kids ≤ hi))
def arity (op : Int) : Int × Int := (expr_arity op).getD (0, -2)
theorem arity_eq (op : Int) : expr_arity op = some (arity op) := by
  have ite_some : ∀ (c : Bool) (a b : Int) (X : Option (Int × Int)), (∃ y, X = some y) → ∃ y, (if c = true then some (a, b) else X) = some y := by
    intro c a b X h
    cases c
    · simpa using h
    · exact ⟨_, rfl⟩
  have : ∃ y, expr_arity op = some y := by
    unfold expr_arity
    iterate 37 refine ite_some _ _ _ _ ?_
    exact ⟨_, rfl⟩
  obtain ⟨y, hy⟩ := this
  unfold arity
  rw [hy]
  rfl
def fitsB (op kids : Int) : Bool := (arity op).2 != -2 && fitB (arity op).1 (arity op).2 kids
theorem fits_eq (a : Node) : expr_fits a = some (fitsB a.op a.kids) := by
  unfold expr_fits fitsB fitB
  rw [arity_eq]
  simp only [Option.bind_some]
  generalize arity a.op = r
  by_cases h1 : r.2 = -2
  · simp [h1]
  · by_cases h2 : a.kids ≥ r.1
    · by_cases h3 : r.2 = -1
      · simp [h2, h3]
      · have e1 : (r.2 == -1) = false := by simpa using h3
        have e2 : (r.2 != -2) = true := by simpa using h1
        simp [e1, e2, h2]
    · have e2 : (r.2 != -2) = true := by simpa using h1
      simp [e2, h2]
theorem kids_out (op kids : Int) (h : ¬ (1 ≤ op ∧ op ≤ 37)) : tariffref10_kids op kids = some false := by
  unfold tariffref10_kids
  have e1 : (decide (op ≥ 1) && decide (op ≤ 7)) = false := by
    rw [Bool.eq_false_iff]
    intro q
    simp at q
    omega
  have ne : ∀ c : Int, 1 ≤ c → c ≤ 37 → (op == c) = false := by
    intro c c1 c2
    simp
    omega
  have d1 : (if decide (op ≥ (1 : Int)) = true then some (decide (op ≤ (7 : Int))) else some false) = some false := by
    by_cases a : op ≥ 1
    · have : ¬ op ≤ 7 := by omega
      simp [a, this]
    · simp [a]
  have d2 : (if decide (op ≥ (28 : Int)) = true then some (decide (op ≤ (34 : Int))) else some false) = some false := by
    by_cases a : op ≥ 28
    · have : ¬ op ≤ 34 := by omega
      simp [a, this]
    · simp [a]
  have d3 : (if decide (op ≥ (9 : Int)) = true then some (decide (op ≤ (20 : Int))) else some false) = some false := by
    by_cases a : op ≥ 9
    · have : ¬ op ≤ 20 := by omega
      simp [a, this]
    · simp [a]
  rw [d1, d2, d3]
  simp only [ne 29 (by decide) (by decide), ne 8 (by decide) (by decide), ne 24 (by decide) (by decide), ne 37 (by decide) (by decide), ne 23 (by decide) (by decide), ne 35 (by decide) (by decide), ne 21 (by decide) (by decide), ne 22 (by decide) (by decide), ne 25 (by decide) (by decide), ne 26 (by decide) (by decide), ne 27 (by decide) (by decide), ne 36 (by decide) (by decide)]
  rfl
theorem arity_out (op : Int) (h : ¬ (1 ≤ op ∧ op ≤ 37)) : arity op = (0, -2) := by
  have ne : ∀ c : Int, 1 ≤ c → c ≤ 37 → (op == c) = false := by
    intro c c1 c2
    simp
    omega
  unfold arity expr_arity
  simp only [ne 1 (by decide) (by decide), ne 2 (by decide) (by decide), ne 3 (by decide) (by decide), ne 4 (by decide) (by decide), ne 5 (by decide) (by decide), ne 6 (by decide) (by decide), ne 7 (by decide) (by decide), ne 8 (by decide) (by decide), ne 9 (by decide) (by decide), ne 10 (by decide) (by decide), ne 11 (by decide) (by decide), ne 12 (by decide) (by decide), ne 13 (by decide) (by decide), ne 14 (by decide) (by decide), ne 15 (by decide) (by decide), ne 16 (by decide) (by decide), ne 17 (by decide) (by decide), ne 18 (by decide) (by decide), ne 19 (by decide) (by decide), ne 20 (by decide) (by decide), ne 21 (by decide) (by decide), ne 22 (by decide) (by decide), ne 23 (by decide) (by decide), ne 24 (by decide) (by decide), ne 25 (by decide) (by decide), ne 26 (by decide) (by decide), ne 27 (by decide) (by decide), ne 28 (by decide) (by decide), ne 29 (by decide) (by decide), ne 30 (by decide) (by decide), ne 31 (by decide) (by decide), ne 32 (by decide) (by decide), ne 33 (by decide) (by decide), ne 34 (by decide) (by decide), ne 35 (by decide) (by decide), ne 36 (by decide) (by decide), ne 37 (by decide) (by decide)]
  rfl
theorem kids_eq (op kids : Int) : tariffref10_kids op kids = some (fitsB op kids) := by
  by_cases h : 1 ≤ op ∧ op ≤ 37
  · have f0 : fitB 0 0 kids = (kids == 0) := by unfold fitB; rw [Bool.eq_iff_iff]; simp; omega
    have f1 : fitB 1 1 kids = (kids == 1) := by unfold fitB; rw [Bool.eq_iff_iff]; simp; omega
    have f2 : fitB 2 2 kids = (kids == 2) := by unfold fitB; rw [Bool.eq_iff_iff]; simp; omega
    have f3 : fitB 3 3 kids = (kids == 3) := by unfold fitB; rw [Bool.eq_iff_iff]; simp; omega
    have f8 : (if decide (kids ≥ (0 : Int)) = true then some (decide (kids ≤ (8 : Int))) else some false) = some (fitB 0 8 kids) := by
      unfold fitB
      by_cases a : kids ≥ 0 <;> simp [a]
    have fm : fitB 0 (-1) kids = decide (kids ≥ 0) := by unfold fitB; simp
    have fs : fitB 1 (-1) kids = decide (kids ≥ 1) := by unfold fitB; simp
    rcases in37 h.1 h.2 with rfl | rfl | rfl | rfl | rfl | rfl | rfl | rfl | rfl | rfl | rfl | rfl | rfl | rfl | rfl | rfl | rfl | rfl | rfl | rfl | rfl | rfl | rfl | rfl | rfl | rfl | rfl | rfl | rfl | rfl | rfl | rfl | rfl | rfl | rfl | rfl | rfl
    all_goals first
      | exact congrArg some f0.symm
      | exact congrArg some f1.symm
      | exact congrArg some f2.symm
      | exact congrArg some f3.symm
      | exact congrArg some fm.symm
      | exact congrArg some fs.symm
      | (show ((if decide (kids ≥ (0 : Int)) = true then some (decide (kids ≤ (8 : Int))) else some false) : Option Bool).bind (fun b11 => some b11) = _
         rw [f8]
         rfl)
  · rw [kids_out _ _ h]
    unfold fitsB
    rw [arity_out _ h]
    rfl
theorem wants_eq (op i : Int) : expr_wanted op i = tariffref10_wants op i := by
  unfold expr_wanted tariffref10_wants
  by_cases h1 : op = 27
  · simp [h1]
  · by_cases h2 : op = 36
    · simp [h2]
    · by_cases h3 : op = 37
      · simp [h3]
      · by_cases h4 : op = 23
        · simp [h4]
        · simp [h1, h2, h3, h4]
theorem sorts_eq (op : Int) (h1 : 1 ≤ op) (h2 : op ≤ 37) : expr_sortOf op = tariffref10_sort op := by
  rcases in37 h1 h2 with rfl | rfl | rfl | rfl | rfl | rfl | rfl | rfl | rfl | rfl | rfl | rfl | rfl | rfl | rfl | rfl | rfl | rfl | rfl | rfl | rfl | rfl | rfl | rfl | rfl | rfl | rfl | rfl | rfl | rfl | rfl | rfl | rfl | rfl | rfl | rfl | rfl
  all_goals rfl
end Go.EvT
end
section
set_option maxRecDepth 100000
namespace Go.EvT
open Go.Ev Go Go.Lib
def decZ (d : Dec) : Bool := (d.neg == false) && (((d.coef.hi == (0 : Int)) && ((d.coef.lo == (0 : Int)) && true)) && ((d.scale == (0 : Int)) && true))
def txtZ (s : ByteArray) : Bool := s.data.toList == (ByteArray.mk #[]).data.toList
def spanB (s : ByteArray) : Bool := s.data.toList == (ByteArray.mk #[91, 93]).data.toList || s.data.toList == (ByteArray.mk #[91, 41]).data.toList || s.data.toList == (ByteArray.mk #[40, 93]).data.toList || s.data.toList == (ByteArray.mk #[40, 41]).data.toList
structure NodeOk (n : Node) : Prop where
  coef : n.num.coef.Ok
  text : n.text.size ≤ 2000000
def restB (t : ByteArray) (d : Dec) (day : Int) : Bool := txtZ t && decZ d && day == 0
def fieldsB (n : Node) : Bool :=
  if n.op = 4 then n.num.form && !n.num.neg && restB n.text ⟨false, ⟨0, 0⟩, 0⟩ n.day
  else if n.op = 5 then validText n.text && decide ((n.text.size : Int) ≤ 1000) && restB (ByteArray.mk #[]) n.num n.day
  else if n.op = 6 then decide (n.day ≥ 1) && decide (n.day ≤ 3652059) && restB n.text n.num 0
  else if n.op = 7 ∨ n.op = 24 ∨ n.op = 25 ∨ n.op = 28 then nameB n.text && restB (ByteArray.mk #[]) n.num n.day
  else if n.op = 35 then spanB n.text && restB (ByteArray.mk #[]) n.num n.day
  else restB n.text n.num n.day
theorem rest_eq (t : ByteArray) (d : Dec) (day : Int) : ((((if (t.data.toList == (ByteArray.mk #[]).data.toList) = true then some ((d.neg == false) && (((d.coef.hi == (0 : Int)) && ((d.coef.lo == (0 : Int)) && true)) && ((d.scale == (0 : Int)) && true))) else some false) : Option Bool).bind fun b13 =>
    ((if b13 = true then some (day == (0 : Int)) else some false) : Option Bool).bind fun b14 => some b14)) = some (restB t d day) := by
  unfold restB txtZ decZ
  rcases Bool.eq_false_or_eq_true (t.data.toList == (ByteArray.mk #[]).data.toList) with q | q <;> rw [q]
  · simp only [if_true, Option.bind_some, Bool.true_and]
    generalize ((d.neg == false) && (((d.coef.hi == (0 : Int)) && ((d.coef.lo == (0 : Int)) && true)) && ((d.scale == (0 : Int)) && true))) = b
    cases b <;> simp
  · simp
theorem fields_eq (k : Nat) (n : Node) (hn : NodeOk n) (hk : n.text.size + 1000 ≤ k) : tariffref10_fields k n = some (fieldsB n) := by
  unfold tariffref10_fields fieldsB
  by_cases h4 : n.op = 4
  · have e : (n.op == (4 : Int)) = true := by simpa using h4
    rw [e, if_pos rfl, if_pos h4, rform_eq k (by omega) n.num hn.coef]
    simp only [Option.bind_some]
    cases hf : n.num.form <;> cases hg : n.num.neg <;> simp only [Bool.not_true, Bool.not_false, if_true, Bool.false_eq_true, if_false, Option.bind_some, Bool.true_and, Bool.false_and]
    all_goals first | rfl | exact rest_eq n.text ⟨false, ⟨0, 0⟩, 0⟩ n.day
  have e4 : (n.op == (4 : Int)) = false := by simpa using h4
  rw [e4, if_neg h4]
  simp only [Bool.false_eq_true, if_false]
  by_cases h5 : n.op = 5
  · have e : (n.op == (5 : Int)) = true := by simpa using h5
    rw [e, if_pos rfl, if_pos h5, rvalid_eq k n.text hn.text (by omega)]
    simp only [Option.bind_some]
    have e2 : decide ((n.text.size : Int) > 1000) = !decide ((n.text.size : Int) ≤ 1000) := by
      by_cases q : (n.text.size : Int) ≤ 1000
      · simp [q]
      · simp [q]; omega
    rw [e2]
    cases hv : validText n.text <;> rcases Bool.eq_false_or_eq_true (decide ((n.text.size : Int) ≤ 1000)) with q | q <;> rw [q] <;> simp only [Bool.not_true, Bool.not_false, if_true, Bool.false_eq_true, if_false, Option.bind_some, Bool.true_and, Bool.false_and]
    all_goals first | rfl | exact rest_eq (ByteArray.mk #[]) n.num n.day
  have e5 : (n.op == (5 : Int)) = false := by simpa using h5
  rw [e5, if_neg h5]
  simp only [Bool.false_eq_true, if_false]
  by_cases h6 : n.op = 6
  · have e : (n.op == (6 : Int)) = true := by simpa using h6
    rw [e, if_pos rfl, if_pos h6]
    unfold tariffref03_Is
    rcases Bool.eq_false_or_eq_true (decide (n.day ≥ 1)) with q | q <;> rcases Bool.eq_false_or_eq_true (decide (n.day ≤ 3652059)) with q' | q' <;> rw [q, q'] <;> simp only [Bool.not_true, Bool.not_false, if_true, Bool.false_eq_true, if_false, Option.bind_some, Bool.true_and, Bool.false_and]
    all_goals first | rfl | exact rest_eq n.text n.num 0
  have e6 : (n.op == (6 : Int)) = false := by simpa using h6
  rw [e6, if_neg h6]
  simp only [Bool.false_eq_true, if_false]
  by_cases hN : n.op = 7 ∨ n.op = 24 ∨ n.op = 25 ∨ n.op = 28
  · rw [if_pos hN]
    have ej : (if (n.op == (7 : Int)) = true then some (n.text, n.day, n.op, true, n.num) else if (n.op == (24 : Int)) = true then some (n.text, n.day, n.op, true, n.num) else if (n.op == (25 : Int)) = true then some (n.text, n.day, n.op, true, n.num) else some (n.text, n.day, n.op, (n.op == (28 : Int)), n.num)) = some (n.text, n.day, n.op, true, n.num) := by
      rcases hN with h | h | h | h <;> simp [h]
    rw [ej]
    simp only [Option.bind_some, if_true]
    rw [rname_eq k (by omega)]
    simp only [Option.bind_some]
    rcases Bool.eq_false_or_eq_true (nameB n.text) with q | q <;> rw [q] <;> simp only [Bool.not_true, Bool.not_false, if_true, Bool.false_eq_true, if_false, Option.bind_some, Bool.true_and, Bool.false_and]
    exact rest_eq (ByteArray.mk #[]) n.num n.day
  · rw [if_neg hN]
    have a7 : (n.op == (7 : Int)) = false := by simp; omega
    have a24 : (n.op == (24 : Int)) = false := by simp; omega
    have a25 : (n.op == (25 : Int)) = false := by simp; omega
    have a28 : (n.op == (28 : Int)) = false := by simp; omega
    rw [a7, a24, a25, a28]
    simp only [Option.bind_some, Bool.false_eq_true, if_false]
    by_cases h35 : n.op = 35
    · have e : (n.op == (35 : Int)) = true := by simpa using h35
      rw [e, if_pos rfl, if_pos h35]
      unfold spanB
      generalize (n.text.data.toList == (ByteArray.mk #[91, 93]).data.toList) = q1
      generalize (n.text.data.toList == (ByteArray.mk #[91, 41]).data.toList) = q2
      generalize (n.text.data.toList == (ByteArray.mk #[40, 93]).data.toList) = q3
      generalize (n.text.data.toList == (ByteArray.mk #[40, 41]).data.toList) = q4
      cases q1 <;> cases q2 <;> cases q3 <;> cases q4 <;> first | rfl | exact rest_eq (ByteArray.mk #[]) n.num n.day
    · have e : (n.op == (35 : Int)) = false := by simpa using h35
      rw [e, if_neg h35]
      exact rest_eq n.text n.num n.day
end Go.EvT
end
section
set_option maxRecDepth 100000
namespace Go.EvT
open Go.Ev Go Go.Lib
theorem plain_eq (k : Nat) (n : Node) (hn : NodeOk n) (hk : n.text.size + 1000 ≤ k) : ∃ p b, expr_plain k n = some (p, b) ∧ (b && restB p.text p.num p.day) = fieldsB n := by
  unfold expr_plain fieldsB
  by_cases h4 : n.op = 4
  · have e : (n.op == (4 : Int)) = true := by simpa using h4
    rw [e, if_pos rfl, if_pos h4, form_eq k (by omega) n.num hn.coef]
    refine ⟨⟨n.op, n.kids, n.text, ⟨false, ⟨0, 0⟩, 0⟩, n.day⟩, n.num.form && !n.num.neg, ?_, rfl⟩
    cases n.num.form <;> rfl
  have e4 : (n.op == (4 : Int)) = false := by simpa using h4
  rw [e4, if_neg h4]
  simp only [Bool.false_eq_true, if_false]
  by_cases h5 : n.op = 5
  · have e : (n.op == (5 : Int)) = true := by simpa using h5
    rw [e, if_pos rfl, if_pos h5]
    refine ⟨⟨n.op, n.kids, ByteArray.mk #[], n.num, n.day⟩, validText n.text && decide ((n.text.size : Int) ≤ 1000), ?_, rfl⟩
    unfold chars_Valid
    rcases Bool.eq_false_or_eq_true (decide ((n.text.size : Int) ≤ 1000)) with q | q <;> rw [q]
    · simp
    · simp
  have e5 : (n.op == (5 : Int)) = false := by simpa using h5
  rw [e5, if_neg h5]
  simp only [Bool.false_eq_true, if_false]
  by_cases h6 : n.op = 6
  · have e : (n.op == (6 : Int)) = true := by simpa using h6
    rw [e, if_pos rfl, if_pos h6]
    refine ⟨⟨n.op, n.kids, n.text, n.num, 0⟩, decide (n.day ≥ 1) && decide (n.day ≤ 3652059), ?_, rfl⟩
    rcases Bool.eq_false_or_eq_true (decide (n.day ≥ 1)) with q | q <;> rw [q] <;> simp
  have e6 : (n.op == (6 : Int)) = false := by simpa using h6
  rw [e6, if_neg h6]
  simp only [Bool.false_eq_true, if_false]
  by_cases hN : n.op = 7 ∨ n.op = 24 ∨ n.op = 25 ∨ n.op = 28
  · rw [if_pos hN]
    refine ⟨⟨n.op, n.kids, ByteArray.mk #[], n.num, n.day⟩, nameB n.text, ?_, rfl⟩
    rcases hN with h | h | h | h <;> simp [h, name_eq k (by omega)]
  · rw [if_neg hN]
    have a7 : (n.op == (7 : Int)) = false := by simp; omega
    have a24 : (n.op == (24 : Int)) = false := by simp; omega
    have a25 : (n.op == (25 : Int)) = false := by simp; omega
    have a28 : (n.op == (28 : Int)) = false := by simp; omega
    rw [a7, a24, a25, a28]
    simp only [Option.bind_some, Bool.false_eq_true, if_false]
    by_cases h35 : n.op = 35
    · have e : (n.op == (35 : Int)) = true := by simpa using h35
      rw [e, if_pos rfl, if_pos h35]
      refine ⟨⟨n.op, n.kids, ByteArray.mk #[], n.num, n.day⟩, spanB n.text, ?_, rfl⟩
      unfold spanB
      generalize (n.text.data.toList == (ByteArray.mk #[91, 93]).data.toList) = q1
      generalize (n.text.data.toList == (ByteArray.mk #[91, 41]).data.toList) = q2
      generalize (n.text.data.toList == (ByteArray.mk #[40, 93]).data.toList) = q3
      generalize (n.text.data.toList == (ByteArray.mk #[40, 41]).data.toList) = q4
      cases q1 <;> cases q2 <;> cases q3 <;> cases q4 <;> rfl
    · have e : (n.op == (35 : Int)) = false := by simpa using h35
      rw [e, if_neg h35]
      exact ⟨n, true, rfl, by simp⟩
end Go.EvT
end
section
set_option maxRecDepth 100000
namespace Go.EvT
open Go.Ev Go Go.Lib
def txtAt (nodes : List Node) (p : Int) : List UInt8 := match idx nodes p with
  | some n => n.text.data.toList
  | none => []
def InAt (nodes : List Node) (p : Int) : Prop := ∃ n, idx nodes p = some n
theorem txtAt_eq {nodes : List Node} {p : Int} {n : Node} (h : idx nodes p = some n) : n.text.data.toList = txtAt nodes p := by
  unfold txtAt
  rw [h]
theorem idx_nat {α : Type} (l : List α) (i : Nat) : idx l (i : Int) = l[i]? := by
  unfold idx
  rw [if_pos (by omega)]
  rfl
theorem unlike_inner (K : Nat) (v0 : List Node) (v1 v9 : List expr_thing) (v10 v11 : Int) (l : List expr_thing) (b : expr_thing) (hl : l.length ≤ 1000) (hb : InAt v0 b.at_) (hin : ∀ a ∈ l, InAt v0 a.at_) : ∀ (m n j : Nat), m = l.length - j → m < n → j ≤ l.length →
    expr_unlike.l5 K v0 v1 v9 v10 v11 l (l.length : Int) b n (j : Int) = if (l.drop j).any (fun a => txtAt v0 b.at_ == txtAt v0 a.at_) then some (.ret false) else some (.go (v0, v1, v9, v10, v11))
  | _, 0, _, _, h, _ => by omega
  | 0, n + 1, j, hm, _, hj => by
    have : j = l.length := by omega
    subst this
    unfold expr_unlike.l5
    simp
  | m + 1, n + 1, j, hm, hmn, hj => by
    have hlt : j < l.length := by omega
    obtain ⟨x, hx⟩ : ∃ x, l[j]? = some x := ⟨_, List.getElem?_eq_getElem hlt⟩
    obtain ⟨nb, hnb⟩ := hb
    obtain ⟨nx, hnx⟩ := hin x (List.mem_of_getElem? hx)
    unfold expr_unlike.l5
    have e1 : decide ((j : Int) < (l.length : Int)) = true := by simpa using hlt
    rw [e1, if_pos rfl, idx_nat, hx]
    simp only [Option.bind_some]
    rw [hnb]
    simp only [Option.bind_some]
    rw [hnx]
    simp only [Option.bind_some]
    rw [txtAt_eq hnb, txtAt_eq hnx, i64_small (by omega) (by omega), show (j : Int) + 1 = ((j + 1 : Nat) : Int) by omega, unlike_inner K v0 v1 v9 v10 v11 l b hl ⟨nb, hnb⟩ hin m n (j + 1) (by omega) (by omega) (by omega), drop_cons hx, List.any_cons]
    rcases Bool.eq_false_or_eq_true (txtAt v0 b.at_ == txtAt v0 x.at_) with q | q <;> rw [q] <;> simp
def dupFrom (ts : List (List UInt8)) : Nat → Nat → Bool
  | 0, _ => false
  | b + 1, i => match ts[i]? with
    | some t => (ts.take i).any (fun u => t == u) || dupFrom ts b (i + 1)
    | none => false
theorem unlike_outer (K : Nat) (v0 : List Node) (l : List expr_thing) (hl : l.length ≤ 1000) (hin : ∀ a ∈ l, InAt v0 a.at_) (hK : l.length < K) : ∀ (b n i : Nat), b = l.length - i → b < n → i ≤ l.length →
    expr_unlike.l2 K n v0 l l (l.length : Int) (i : Int) = if dupFrom (l.map fun a => txtAt v0 a.at_) b i then some (.ret false) else some (.go ())
  | _, 0, _, _, h, _ => by omega
  | 0, n + 1, i, hb, _, hi => by
    have : i = l.length := by omega
    subst this
    unfold expr_unlike.l2
    simp [dupFrom]
  | b + 1, n + 1, i, hb, hbn, hi => by
    have hlt : i < l.length := by omega
    obtain ⟨x, hx⟩ : ∃ x, l[i]? = some x := ⟨_, List.getElem?_eq_getElem hlt⟩
    unfold expr_unlike.l2
    have e1 : decide ((i : Int) < (l.length : Int)) = true := by simpa using hlt
    rw [e1, if_pos rfl, idx_nat, hx]
    simp only [Option.bind_some]
    rw [if_pos ⟨by omega, by omega, by omega⟩]
    have ht : ((i : Int)).toNat = i := rfl
    rw [ht]
    have hi' := unlike_inner K v0 l l (l.length : Int) (i : Int) (l.take i) x (by simp; omega) (hin x (List.mem_of_getElem? hx)) (fun a ha => hin a (List.mem_of_mem_take ha)) (l.take i).length K 0 rfl (by simp; omega) (Nat.zero_le _)
    rw [show ((0 : Nat) : Int) = (0 : Int) from rfl, List.drop_zero] at hi'
    rw [hi']
    have hm : (l.map fun a => txtAt v0 a.at_)[i]? = some (txtAt v0 x.at_) := by rw [List.getElem?_map, hx]; rfl
    simp only [dupFrom, hm]
    have hany : ((l.map fun a => txtAt v0 a.at_).take i).any (fun u => txtAt v0 x.at_ == u) = (l.take i).any (fun a => txtAt v0 x.at_ == txtAt v0 a.at_) := by
      rw [← List.map_take, List.any_map]
      rfl
    rw [hany]
    rcases Bool.eq_false_or_eq_true ((l.take i).any (fun a => txtAt v0 x.at_ == txtAt v0 a.at_)) with q | q <;> rw [q]
    · simp
    · simp only [Bool.false_eq_true, if_false, Option.bind_some, Bool.false_or]
      rw [i64_small (by omega) (by omega), show (i : Int) + 1 = ((i + 1 : Nat) : Int) by omega]
      exact unlike_outer K v0 l hl hin hK b n (i + 1) (by omega) (by omega) (by omega)
theorem unlike_eq (K : Nat) (v0 : List Node) (l : List expr_thing) (hl : l.length ≤ 1000) (hin : ∀ a ∈ l, InAt v0 a.at_) (hK : l.length < K) : expr_unlike K v0 l = some (!dupFrom (l.map fun a => txtAt v0 a.at_) l.length 0) := by
  have h := unlike_outer K v0 l hl hin hK l.length K 0 rfl hK (Nat.zero_le _)
  unfold expr_unlike
  rw [show (0 : Int) = ((0 : Nat) : Int) from rfl, h]
  cases dupFrom (l.map fun a => txtAt v0 a.at_) l.length 0 <;> rfl
end Go.EvT
end
section
set_option maxRecDepth 100000
namespace Go.EvT
open Go.Ev Go Go.Lib
theorem twice_inner (K : Nat) (v0 : List Node) (l : List Int) (i : Nat) (x : Int) (hx : l[i]? = some x) (hl : l.length ≤ 1000) (hin : ∀ p ∈ l, InAt v0 p) : ∀ (m n j : Nat), m = i - j → m < n → j ≤ i →
    tariffref10_twice.l5 K v0 l (i : Int) n (j : Int) = if ((l.take i).drop j).any (fun p => txtAt v0 x == txtAt v0 p) then some (.ret true) else some (.go (v0, l, (i : Int)))
  | _, 0, _, _, h, _ => by omega
  | 0, n + 1, j, hm, _, hj => by
    have : j = i := by omega
    subst this
    unfold tariffref10_twice.l5
    have e0 : (l.take j).drop j = [] := List.drop_eq_nil_of_le (by simp; omega)
    rw [e0]
    simp
  | m + 1, n + 1, j, hm, hmn, hj => by
    have hlt : j < i := by omega
    have hil : i < l.length := getElem?_lt hx
    obtain ⟨y, hy⟩ : ∃ y, l[j]? = some y := ⟨_, List.getElem?_eq_getElem (by omega)⟩
    obtain ⟨nx, hnx⟩ := hin x (List.mem_of_getElem? hx)
    obtain ⟨ny, hny⟩ := hin y (List.mem_of_getElem? hy)
    have hy' : (l.take i)[j]? = some y := by rw [List.getElem?_take_of_lt hlt, hy]
    unfold tariffref10_twice.l5
    have e1 : decide ((j : Int) < (i : Int)) = true := by simpa using hlt
    rw [e1, if_pos rfl, idx_nat, hx]
    simp only [Option.bind_some]
    rw [hnx]
    simp only [Option.bind_some]
    rw [idx_nat, hy]
    simp only [Option.bind_some]
    rw [hny]
    simp only [Option.bind_some]
    rw [txtAt_eq hnx, txtAt_eq hny, i64_small (by omega) (by omega), show (j : Int) + 1 = ((j + 1 : Nat) : Int) by omega, twice_inner K v0 l i x hx hl hin m n (j + 1) (by omega) (by omega) (by omega), drop_cons hy', List.any_cons]
    rcases Bool.eq_false_or_eq_true (txtAt v0 x == txtAt v0 y) with q | q <;> rw [q] <;> simp
theorem twice_outer (K : Nat) (v0 : List Node) (l : List Int) (hl : l.length ≤ 1000) (hin : ∀ p ∈ l, InAt v0 p) (hK : l.length < K) : ∀ (b n i : Nat), b = l.length - i → b < n → i ≤ l.length →
    tariffref10_twice.l2 K n v0 l (i : Int) = if dupFrom (l.map (txtAt v0)) b i then some (.ret true) else some (.go ())
  | _, 0, _, _, h, _ => by omega
  | 0, n + 1, i, hb, _, hi => by
    have : i = l.length := by omega
    subst this
    unfold tariffref10_twice.l2
    simp [dupFrom]
  | b + 1, n + 1, i, hb, hbn, hi => by
    have hlt : i < l.length := by omega
    obtain ⟨x, hx⟩ : ∃ x, l[i]? = some x := ⟨_, List.getElem?_eq_getElem hlt⟩
    unfold tariffref10_twice.l2
    have e1 : decide ((i : Int) < (l.length : Int)) = true := by simpa using hlt
    rw [e1, if_pos rfl]
    have hi' := twice_inner K v0 l i x hx hl hin i K 0 rfl (by omega) (Nat.zero_le _)
    rw [show ((0 : Nat) : Int) = (0 : Int) from rfl, List.drop_zero] at hi'
    rw [hi']
    have hm : (l.map (txtAt v0))[i]? = some (txtAt v0 x) := by rw [List.getElem?_map, hx]; rfl
    simp only [dupFrom, hm]
    have hany : ((l.map (txtAt v0)).take i).any (fun u => txtAt v0 x == u) = (l.take i).any (fun p => txtAt v0 x == txtAt v0 p) := by
      rw [← List.map_take, List.any_map]
      rfl
    rw [hany]
    rcases Bool.eq_false_or_eq_true ((l.take i).any (fun p => txtAt v0 x == txtAt v0 p)) with q | q <;> rw [q]
    · simp
    · simp only [Bool.false_eq_true, if_false, Option.bind_some, Bool.false_or]
      rw [i64_small (by omega) (by omega), show (i : Int) + 1 = ((i + 1 : Nat) : Int) by omega]
      exact twice_outer K v0 l hl hin hK b n (i + 1) (by omega) (by omega) (by omega)
theorem twice_names (K : Nat) (v0 : List Node) (l : List Int) (hl : l.length ≤ 1000) (hin : ∀ p ∈ l, InAt v0 p) (hK : l.length < K) : tariffref10_twice K v0 l = some (dupFrom (l.map (txtAt v0)) l.length 0) := by
  have h := twice_outer K v0 l hl hin hK l.length K 0 rfl hK (Nat.zero_le _)
  unfold tariffref10_twice
  rw [show (0 : Int) = ((0 : Nat) : Int) from rfl, h]
  cases dupFrom (l.map (txtAt v0)) l.length 0 <;> rfl
end Go.EvT
end
section
set_option maxRecDepth 100000
namespace Go.EvT
open Go.Ev Go Go.Lib
def wantI (op i : Int) : Int := (expr_wanted op i).getD 1
theorem wantI_eq (op i : Int) : expr_wanted op i = some (wantI op i) := by
  unfold wantI expr_wanted
  by_cases h1 : op = 27
  · simp [h1]
  · by_cases h2 : op = 36
    · simp [h2]
    · by_cases h3 : op = 37
      · simp [h3]
      · by_cases h4 : op = 23
        · by_cases h5 : i = 1 <;> simp [h4, h5]
        · simp [h1, h2, h3, h4]
def sortI (op : Int) : Int := (expr_sortOf op).getD 1
theorem sortI_eq (op : Int) : expr_sortOf op = some (sortI op) := by
  unfold sortI expr_sortOf
  by_cases h1 : op ≤ 27
  · simp [h1]
  · by_cases h2 : op = 28
    · simp [h2]
    · by_cases h3 : op = 29
      · simp [h3]
      · by_cases h4 : op = 37
        · simp [h4]
        · by_cases h5 : op = 36
          · simp [h5]
          · simp [h1, h2, h3, h4, h5]
def sortsOk (op : Int) : Nat → List (Int × Int) → Bool
  | _, [] => true
  | j, a :: r => a.1 == wantI op j && sortsOk op (j + 1) r
def dmax : Int → List (Int × Int) → Int
  | m, [] => m
  | m, a :: r => dmax (if a.2 > m then a.2 else m) r
def sd (a : expr_thing) : Int × Int := (a.sort_, a.depth)
theorem check_parts (K : Nat) (o11 n11 : Int) (cut kids : Nat) (v0 : List Node) (v1 : Bool) (w5 : List expr_thing) (v6 v7 : Int) (v18 : List Node) (v19 v20 : Int) (b8 : Node) (hw : w5.length = cut + kids) (hl : w5.length ≤ 1000) : ∀ (m n j : Nat) (d : Int), m = kids - j → m < n → j ≤ kids →
    expr_Check.l14 K o11 n11 (cut : Int) (kids : Int) v0 v1 w5 v6 v7 v18 v19 v20 (kids : Int) b8 n d (j : Int) =
      if sortsOk b8.op j ((w5.drop (cut + j)).map sd) then some (.go (o11, n11, v0, v1, w5, v6, v7, dmax d ((w5.drop (cut + j)).map sd), v18, v19, v20, b8)) else some (.ret 2)
  | _, 0, _, _, _, h, _ => by omega
  | 0, n + 1, j, d, hm, _, hj => by
    have : j = kids := by omega
    subst this
    unfold expr_Check.l14
    have e0 : w5.drop (cut + j) = [] := List.drop_eq_nil_of_le (by omega)
    rw [e0]
    simp [sortsOk, dmax]
  | m + 1, n + 1, j, d, hm, hmn, hj => by
    have hlt : j < kids := by omega
    obtain ⟨x, hx⟩ : ∃ x, w5[cut + j]? = some x := ⟨_, List.getElem?_eq_getElem (by omega)⟩
    unfold expr_Check.l14
    have e1 : decide ((j : Int) < (kids : Int)) = true := by simpa using hlt
    rw [e1, if_pos rfl, if_pos ⟨by omega, by omega⟩, show (cut : Int) + (j : Int) = ((cut + j : Nat) : Int) by omega, idx_nat, hx]
    simp only [Option.bind_some]
    rw [wantI_eq]
    simp only [Option.bind_some]
    rw [drop_cons hx, List.map_cons]
    rcases Decidable.em (x.sort_ = wantI b8.op (j : Int)) with q | q
    · have q1 : (x.sort_ != wantI b8.op (j : Int)) = false := by simpa using q
      have q2 : ((sd x).1 == wantI b8.op (j : Int)) = true := by simpa [sd] using q
      have hs : sortsOk b8.op j (sd x :: (w5.drop (cut + j + 1)).map sd) = sortsOk b8.op (j + 1) ((w5.drop (cut + j + 1)).map sd) := by simp only [sortsOk, q2, Bool.true_and]
      rw [hs, q1, i64_small (by omega) (by omega), show (j : Int) + 1 = ((j + 1 : Nat) : Int) by omega]
      simp only [Bool.false_eq_true, if_false]
      rw [check_parts K o11 n11 cut kids v0 v1 w5 v6 v7 v18 v19 v20 b8 hw hl m n (j + 1) _ (by omega) (by omega) (by omega)]
      rfl
    · have q1 : (x.sort_ != wantI b8.op (j : Int)) = true := by simpa using q
      have q2 : ((sd x).1 == wantI b8.op (j : Int)) = false := by simpa [sd] using q
      have hs : sortsOk b8.op j (sd x :: (w5.drop (cut + j + 1)).map sd) = false := by simp only [sortsOk, q2, Bool.false_and]
      rw [hs, q1]
      simp
end Go.EvT
end
section
set_option maxRecDepth 100000
namespace Go.EvT
open Go.Ev Go Go.Lib
def opAt (v0 : List Node) (q : Nat) : Int := (v0[q]?).elim 0 Node.op
def ent (v0 : List Node) (w : List Int) (q : Nat) : Int × Int := (sortI (opAt v0 q), (w[q]?).getD 0)
theorem rwant_eq (op i : Int) : tariffref10_wants op i = some (wantI op i) := by rw [← wants_eq, wantI_eq]
theorem rsort_eq {op : Int} (h1 : 1 ≤ op) (h2 : op ≤ 37) : tariffref10_sort op = some (sortI op) := by rw [← sorts_eq op h1 h2, sortI_eq]
theorem rcheck_parts (K : Nat) (v0 : List Node) (v1 : Bool) (v5 : List (List Int)) (v9 : Int) (i : Nat) (qs : List Nat) (b : Node) (w : List Int) (hb : v0[i]? = some b) (h5 : v5[i]? = some (qs.map fun (q : Nat) => (q : Int))) (hl : qs.length ≤ 1000)
    (hq : ∀ q ∈ qs, q < i) (hop : ∀ q ∈ qs, 1 ≤ opAt v0 q ∧ opAt v0 q ≤ 37) (hi : i < w.length) (hv : i < v0.length) : ∀ (m n j : Nat) (d : Int), m = qs.length - j → m < n → j ≤ qs.length →
    tariffref10_Check.l14 K v0 v1 v5 v9 (i : Int) n (w.set i d) (j : Int) =
      if sortsOk b.op j ((qs.drop j).map (ent v0 w)) then some (.go (v0, v1, v5, w.set i (dmax d ((qs.drop j).map (ent v0 w))), v9, (i : Int))) else some (.ret 2)
  | _, 0, _, _, _, h, _ => by omega
  | 0, n + 1, j, d, hm, _, hj => by
    have : j = qs.length := by omega
    subst this
    unfold tariffref10_Check.l14
    rw [idx_nat, h5]
    simp [sortsOk, dmax]
  | m + 1, n + 1, j, d, hm, hmn, hj => by
    have hlt : j < qs.length := by omega
    obtain ⟨q, hqj⟩ : ∃ q, qs[j]? = some q := ⟨_, List.getElem?_eq_getElem hlt⟩
    have hqm := List.mem_of_getElem? hqj
    have hqi := hq q hqm
    obtain ⟨o1, o2⟩ := hop q hqm
    obtain ⟨nd, hnd⟩ : ∃ nd, v0[q]? = some nd := ⟨_, List.getElem?_eq_getElem (by omega)⟩
    obtain ⟨x, hx⟩ : ∃ x, w[q]? = some x := ⟨_, List.getElem?_eq_getElem (by omega)⟩
    have hopn : opAt v0 q = nd.op := by unfold opAt; rw [hnd]; rfl
    rw [hopn] at o1 o2
    have hpj : (qs.map fun (q : Nat) => (q : Int))[j]? = some (q : Int) := by rw [List.getElem?_map, hqj]; rfl
    have hwq : (w.set i d)[q]? = some x := by rw [List.getElem?_set_ne (by omega), hx]
    have hwi : (w.set i d)[i]? = some d := by rw [List.getElem?_set_self hi]
    unfold tariffref10_Check.l14
    simp only [idx_nat, h5, hpj, hnd, hb, hwq, hwi, Option.bind_some, List.length_map, List.length_set]
    have e1 : decide ((j : Int) < (qs.length : Int)) = true := by simpa using hlt
    rw [e1, if_pos rfl, rsort_eq o1 o2]
    simp only [Option.bind_some]
    rw [rwant_eq]
    simp only [Option.bind_some]
    rw [drop_cons hqj, List.map_cons]
    have hent : ent v0 w q = (sortI nd.op, x) := by unfold ent; rw [hopn, hx]; rfl
    rcases Decidable.em (sortI nd.op = wantI b.op (j : Int)) with q0 | q0
    · have q1 : (sortI nd.op != wantI b.op (j : Int)) = false := by simpa using q0
      have q2 : ((ent v0 w q).1 == wantI b.op (j : Int)) = true := by rw [hent]; simpa using q0
      have hs : sortsOk b.op j (ent v0 w q :: (qs.drop (j + 1)).map (ent v0 w)) = sortsOk b.op (j + 1) ((qs.drop (j + 1)).map (ent v0 w)) := by simp only [sortsOk, q2, Bool.true_and]
      rw [hs, q1]
      simp only [Bool.false_eq_true, if_false]
      rw [if_pos ⟨by omega, by omega⟩, if_pos ⟨by omega, by omega⟩, if_pos ⟨by omega, by omega⟩, i64_small (by omega) (by omega), show (j : Int) + 1 = ((j + 1 : Nat) : Int) by omega, show ((i : Int)).toNat = i from rfl, List.set_set]
      rw [rcheck_parts K v0 v1 v5 v9 i qs b w hb h5 hl hq hop hi hv m n (j + 1) _ (by omega) (by omega) (by omega)]
      simp only [dmax, hent]
    · have q1 : (sortI nd.op != wantI b.op (j : Int)) = true := by simpa using q0
      have q2 : ((ent v0 w q).1 == wantI b.op (j : Int)) = false := by rw [hent]; simpa using q0
      have hs : sortsOk b.op j (ent v0 w q :: (qs.drop (j + 1)).map (ent v0 w)) = false := by simp only [sortsOk, q2, Bool.false_and]
      rw [hs, q1]
      simp
end Go.EvT
end
section
set_option maxRecDepth 100000
namespace Go.EvT
open Go.Ev Go Go.Lib
def ints (l : List Nat) : List Int := l.map fun (q : Nat) => (q : Int)
def stk : List Node → Nat → List Nat → List (List Nat) → Option (List Nat × List (List Nat))
  | [], _, st, P => some (st, P)
  | n :: r, i, st, P => if (fitsB n.op n.kids && decide (n.kids ≤ (st.length : Int))) = true then stk r (i + 1) (st.take (st.length - n.kids.toNat) ++ [i]) (P ++ [st.drop (st.length - n.kids.toNat)]) else none
theorem fits_nn {op kids : Int} (h : fitsB op kids = true) : 0 ≤ kids ∧ 1 ≤ op ∧ op ≤ 37 := by
  by_cases hr : 1 ≤ op ∧ op ≤ 37
  · refine ⟨?_, hr.1, hr.2⟩
    have key : ∀ lo hi : Int, 0 ≤ lo → fitB lo hi kids = true → 0 ≤ kids := by
      intro lo hi h0 hf
      unfold fitB at hf
      simp only [Bool.and_eq_true, decide_eq_true_eq] at hf
      omega
    unfold fitsB at h
    simp only [Bool.and_eq_true] at h
    refine key _ _ ?_ h.2
    rcases in37 hr.1 hr.2 with rfl | rfl | rfl | rfl | rfl | rfl | rfl | rfl | rfl | rfl | rfl | rfl | rfl | rfl | rfl | rfl | rfl | rfl | rfl | rfl | rfl | rfl | rfl | rfl | rfl | rfl | rfl | rfl | rfl | rfl | rfl | rfl | rfl | rfl | rfl | rfl | rfl
    all_goals decide
  · unfold fitsB at h
    rw [arity_out _ hr] at h
    cases h
theorem stack_loop (K : Nat) (v0 : List Node) (hv : v0.length ≤ 1000) : ∀ (r : List Node) (n i : Nat) (st : List Nat) (P : List (List Nat)), v0.drop i = r → r.length < n → st.length ≤ i → P.length = i → i ≤ v0.length →
    tariffref10_stack.l4 K v0 ((v0.length : Int) - 1) n (ints st) (P.map ints) (i : Int) = match stk r i st P with
      | some (st', P') => some (.go (ints st', P'.map ints))
      | none => some (.ret ([], [], false))
  | _, 0, _, _, _, _, h, _, _, _ => by omega
  | [], n + 1, i, st, P, hd, _, hs, hP, hi => by
    have hlen := congrArg List.length hd
    simp at hlen
    unfold tariffref10_stack.l4
    have e1 : decide ((i : Int) ≤ (v0.length : Int) - 1) = false := by simp; omega
    rw [e1]
    rfl
  | x :: r, n + 1, i, st, P, hd, hn, hs, hP, hi => by
    have hlen := congrArg List.length hd
    simp at hlen
    have hx : v0[i]? = some x := by
      have := congrArg (fun l => l[0]?) hd
      simpa using this
    have hd' : v0.drop (i + 1) = r := by
      have := congrArg List.tail hd
      simpa using this
    unfold tariffref10_stack.l4
    have e1 : decide ((i : Int) ≤ (v0.length : Int) - 1) = true := by simp; omega
    rw [e1, if_pos rfl, idx_nat, hx]
    simp only [Option.bind_some]
    rw [kids_eq]
    simp only [Option.bind_some]
    have hil : (ints st).length = st.length := by simp [ints]
    rw [hil]
    by_cases hf : fitsB x.op x.kids = true
    · obtain ⟨k0, _, _⟩ := fits_nn hf
      by_cases hk : x.kids ≤ (st.length : Int)
      · have c1 : (fitsB x.op x.kids && decide (x.kids ≤ (st.length : Int))) = true := by simp [hf, hk]
        have c2 : decide (x.kids > (st.length : Int)) = false := by simp; omega
        obtain ⟨kn, hkn⟩ : ∃ kn : Nat, x.kids = (kn : Int) := ⟨x.kids.toNat, by omega⟩
        have ew : IntKind.i64.wrap ((st.length : Int) - x.kids) = ((st.length - kn : Nat) : Int) := by rw [i64_small (by omega) (by omega)]; omega
        have ekn : x.kids.toNat = kn := by omega
        have esub : sub (ints st) ((st.length - kn : Nat) : Int) (st.length : Int) = ints (st.drop (st.length - kn)) := by
          unfold sub ints
          rw [show (((st.length - kn : Nat) : Int)).toNat = st.length - kn from rfl, ← List.map_drop, List.take_of_length_le]
          simp
        have etake : (ints st).take (((st.length - kn : Nat) : Int)).toNat = ints (st.take (st.length - kn)) := by
          unfold ints
          rw [show (((st.length - kn : Nat) : Int)).toNat = st.length - kn from rfl, List.map_take]
        have eapp : ints (st.take (st.length - kn)) ++ [(i : Int)] = ints (st.take (st.length - kn) ++ [i]) := by simp [ints]
        have ePP : P.map ints ++ [ints (st.drop (st.length - kn))] = (P ++ [st.drop (st.length - kn)]).map ints := by simp
        have l1 : (ints (st.drop (st.length - kn))).length ≤ 1000 := by simp [ints]; omega
        have l2 : (ints (st.take (st.length - kn))).length ≤ 1000 := by simp [ints]; omega
        simp only [hf, Bool.not_true, if_true, c2, Option.bind_some, Bool.false_eq_true, if_false, ew, esub, etake, List.nil_append]
        rw [if_pos ⟨by omega, by omega, by omega⟩, if_pos ((room_iff _).2 (by simp only [List.length_nil, Nat.zero_add]; omega)), if_pos ((room_iff _).2 (by simp only [List.length_map, List.length_cons, List.length_nil]; omega)), if_pos ⟨by omega, by omega, by omega⟩,
          if_pos ((room_iff _).2 (by simp only [List.length_nil, Nat.zero_add]; omega)), if_pos ((room_iff _).2 (by simp only [List.length_cons, List.length_nil]; omega)), i64_small (by omega) (by omega), show (i : Int) + 1 = ((i + 1 : Nat) : Int) by omega, eapp, ePP]
        rw [stack_loop K v0 hv r n (i + 1) _ _ hd' (by simp at hn; omega) (by simp; omega) (by simp [hP]) (by omega)]
        simp only [stk]
        rw [if_pos c1, ekn]
      · have c1 : (fitsB x.op x.kids && decide (x.kids ≤ (st.length : Int))) = false := by simp [hk]
        have c2 : decide (x.kids > (st.length : Int)) = true := by simp; omega
        simp only [stk]
        rw [c1, hf, c2]
        rfl
    · have hf' : fitsB x.op x.kids = false := by simpa using hf
      simp only [stk]
      rw [hf']
      rfl
end Go.EvT
end
section
set_option maxRecDepth 100000
namespace Go.EvT
open Go.Ev Go Go.Lib
theorem stack_eq (K : Nat) (v0 : List Node) (hv : v0.length ≤ 1000) (hK : v0.length < K) : tariffref10_stack K v0 ((v0.length : Int) - 1) = match stk v0 0 [] [] with
    | some (st, P) => some (P.map ints, ints st, true)
    | none => some ([], [], false) := by
  have h := stack_loop K v0 hv v0 K 0 [] [] rfl hK (Nat.le_refl _) rfl (Nat.zero_le _)
  unfold tariffref10_stack
  have h' : tariffref10_stack.l4 K v0 ((v0.length : Int) - 1) K [] [] (0 : Int) = _ := h
  rw [h']
  cases stk v0 0 [] [] with
  | none => rfl
  | some r => rfl
theorem stk_facts : ∀ (r : List Node) (i : Nat) (st : List Nat) (P : List (List Nat)) (st' : List Nat) (P' : List (List Nat)), stk r i st P = some (st', P') → (∀ q ∈ st, q < i) → P.length = i →
    (∀ q ∈ st', q < i + r.length) ∧ P'.length = i + r.length ∧ (∃ Q : List (List Nat), P' = P ++ Q ∧ ∀ (j : Nat) (ps : List Nat), Q[j]? = some ps → ∀ q ∈ ps, q < i + j) ∧ ∀ (j : Nat) (n : Node), r[j]? = some n → fitsB n.op n.kids = true
  | [], i, st, P, st', P', h, hst, hP => by
    simp only [stk, Option.some.injEq, Prod.mk.injEq] at h
    obtain ⟨rfl, rfl⟩ := h
    exact ⟨by simpa using hst, by simpa using hP, ⟨[], by simp, fun j ps h => (by simp at h)⟩, fun j n h => (by simp at h)⟩
  | n :: r, i, st, P, st', P', h, hst, hP => by
    simp only [stk] at h
    by_cases hc : (fitsB n.op n.kids && decide (n.kids ≤ (st.length : Int))) = true
    · rw [if_pos hc] at h
      simp only [Bool.and_eq_true] at hc
      have hst' : ∀ q ∈ st.take (st.length - n.kids.toNat) ++ [i], q < i + 1 := by
        intro q hq
        rcases List.mem_append.1 hq with hq | hq
        · have := hst q (List.mem_of_mem_take hq)
          omega
        · have := List.mem_singleton.1 hq
          omega
      obtain ⟨g1, g2, ⟨Q, g3, g4⟩, g5⟩ := stk_facts r (i + 1) _ _ st' P' h hst' (by simp [hP])
      refine ⟨fun q hq => (by have := g1 q hq; simp only [List.length_cons]; omega), (by simp only [List.length_cons]; omega), ⟨st.drop (st.length - n.kids.toNat) :: Q, (by rw [g3]; simp), fun j ps hj q hq => ?_⟩, fun j m hj => ?_⟩
      · cases j with
        | zero =>
          simp at hj
          subst hj
          have := hst q (List.mem_of_mem_drop hq)
          omega
        | succ j =>
          have := g4 j ps (by simpa using hj) q hq
          omega
      · cases j with
        | zero =>
          simp at hj
          subst hj
          exact hc.1
        | succ j => exact g5 j m (by simpa using hj)
    · rw [if_neg hc] at h
      cases h
end Go.EvT
end
section
set_option maxRecDepth 100000
namespace Go.EvT
open Go.Ev Go Go.Lib
def txts (v0 : List Node) (ps : List Nat) : List (List UInt8) := ps.map fun (q : Nat) => txtAt v0 (q : Int)
def stepOk (v0 : List Node) (D : List Int) (n : Node) (ps : List Nat) : Bool := fieldsB n && (sortsOk n.op 0 (ps.map (ent v0 D)) && !((n.op == 27) && dupFrom (txts v0 ps) ps.length 0))
def deep1 (v0 : List Node) (D : List Int) (ps : List Nat) : Int := dmax 0 (ps.map (ent v0 D)) + 1
def pass (v0 : List Node) : List Node → Nat → List Nat → List Int → Option (List Nat × List Int)
  | [], _, st, D => some (st, D)
  | n :: r, i, st, D =>
    if (fitsB n.op n.kids && decide (n.kids ≤ (st.length : Int))) = true then
      if stepOk v0 D n (st.drop (st.length - n.kids.toNat)) = true then
        pass v0 r (i + 1) (st.take (st.length - n.kids.toNat) ++ [i]) (D ++ [deep1 v0 D (st.drop (st.length - n.kids.toNat))])
      else none
    else none
def mx (D : List Int) : Int := D.foldl (fun m d => if d > m then d else m) 0
theorem mx_snoc (D : List Int) (d : Int) : mx (D ++ [d]) = if d > mx D then d else mx D := by unfold mx; rw [List.foldl_append]; rfl
def thg (v0 : List Node) (D : List Int) (q : Nat) : expr_thing := ⟨sortI (opAt v0 q), (D[q]?).getD 0, (q : Int)⟩
theorem sd_thg (v0 : List Node) (D : List Int) (l : List Nat) : (l.map (thg v0 D)).map sd = l.map (ent v0 D) := by rw [List.map_map]; rfl
theorem ent_app (v0 : List Node) (D E : List Int) (l : List Nat) (h : ∀ q ∈ l, q < D.length) : l.map (ent v0 (D ++ E)) = l.map (ent v0 D) := by
  refine List.map_congr_left fun q hq => ?_
  unfold ent
  rw [List.getElem?_append_left (h q hq)]
theorem thg_app (v0 : List Node) (D E : List Int) (l : List Nat) (h : ∀ q ∈ l, q < D.length) : l.map (thg v0 (D ++ E)) = l.map (thg v0 D) := by
  refine List.map_congr_left fun q hq => ?_
  unfold thg
  rw [List.getElem?_append_left (h q hq)]
theorem dmax_le : ∀ (l : List (Int × Int)) (m B : Int), m ≤ B → (∀ a ∈ l, a.2 ≤ B) → dmax m l ≤ B
  | [], _, _, h, _ => h
  | a :: r, m, B, h, hl => by
    refine dmax_le r _ B ?_ fun b hb => hl b (List.mem_cons_of_mem _ hb)
    have := hl a List.mem_cons_self
    split <;> omega
theorem dmax_ge : ∀ (l : List (Int × Int)) (m : Int), m ≤ dmax m l
  | [], _ => Int.le_refl _
  | a :: r, m => by
    refine Int.le_trans ?_ (dmax_ge r _)
    split <;> omega
def DOk (D : List Int) : Prop := ∀ d ∈ D, 0 ≤ d ∧ d ≤ (D.length : Int)
theorem deep1_ok {v0 : List Node} {D : List Int} {ps : List Nat} (hD : DOk D) : 1 ≤ deep1 v0 D ps ∧ deep1 v0 D ps ≤ (D.length : Int) + 1 := by
  unfold deep1
  have h1 := dmax_ge (ps.map (ent v0 D)) 0
  have h2 := dmax_le (ps.map (ent v0 D)) 0 (D.length : Int) (by omega) (fun a ha => by
    obtain ⟨q, _, rfl⟩ := List.mem_map.1 ha
    unfold ent
    simp only
    cases hq : D[q]? with
    | none => simp
    | some d => exact (hD d (List.mem_of_getElem? hq)).2)
  omega
theorem DOk.snoc {v0 : List Node} {D : List Int} {ps : List Nat} (hD : DOk D) : DOk (D ++ [deep1 v0 D ps]) := by
  intro d hd
  have := deep1_ok (v0 := v0) (ps := ps) hD
  rcases List.mem_append.1 hd with h | h
  · have := hD d h
    simp; omega
  · have := List.mem_singleton.1 h
    simp; omega
theorem bad_eq {α : Type} (b : Bool) (p : Node) (e : Bool → Option α) : (((if (!b) = false then
    some (!(p.text.data.toList == []))
    else some true) : Option Bool).bind fun b3 =>
    ((if b3 = false then
    some (!((p.num.neg == false) && (((p.num.coef.hi == (0 : Int)) && ((p.num.coef.lo == (0 : Int)) && true)) && ((p.num.scale == (0 : Int)) && true))))
    else some true) : Option Bool).bind fun b4 =>
    ((if b4 = false then
    some (p.day != (0 : Int))
    else some true) : Option Bool).bind e) = e (!(b && restB p.text p.num p.day)) := by
  have hz : txtZ p.text = (p.text.data.toList == []) := rfl
  unfold restB decZ
  rw [hz]
  obtain ⟨t, ht⟩ : ∃ t, t = (p.text.data.toList == []) := ⟨_, rfl⟩
  obtain ⟨z, hz⟩ : ∃ z, z = ((p.num.neg == false) && (((p.num.coef.hi == (0 : Int)) && ((p.num.coef.lo == (0 : Int)) && true)) && ((p.num.scale == (0 : Int)) && true))) := ⟨_, rfl⟩
  rw [← ht, ← hz]
  have hd : (p.day != (0 : Int)) = !(p.day == 0) := rfl
  rw [hd]
  obtain ⟨d, hd⟩ : ∃ d, d = (p.day == (0 : Int)) := ⟨_, rfl⟩
  rw [← hd]
  cases b <;> cases t <;> cases z <;> cases d <;> rfl
end Go.EvT
end
section
set_option maxRecDepth 100000
namespace Go.EvT
open Go.Ev Go Go.Lib
theorem opAt_eq {v0 : List Node} {i : Nat} {x : Node} (h : v0[i]? = some x) : opAt v0 i = x.op := by unfold opAt; rw [h]; rfl
theorem check_loop (K : Nat) (v0 : List Node) (v1 : Bool) (hv : v0.length ≤ 300) (hok : ∀ n ∈ v0, NodeOk n ∧ n.text.size + 1000 ≤ K) (hK : 1000 ≤ K) : ∀ (r : List Node) (n i : Nat) (st : List Nat) (D : List Int), v0.drop i = r → r.length < n → st.length ≤ i → D.length = i → i ≤ v0.length → (∀ q ∈ st, q < i) → DOk D →
    expr_Check.l6 K n v0 v1 (st.map (thg v0 D)) (mx D) v0 (v0.length : Int) (i : Int) = match pass v0 r i st D with
      | some (st', D') => some (.go (v1, st'.map (thg v0 D'), mx D'))
      | none => some (.ret 2)
  | _, 0, _, _, _, _, h, _, _, _, _, _ => by omega
  | [], n + 1, i, st, D, hd, _, hs, hP, hi, _, _ => by
    have hlen := congrArg List.length hd
    simp at hlen
    unfold expr_Check.l6
    have e1 : decide ((i : Int) < (v0.length : Int)) = false := by simp; omega
    rw [e1]
    rfl
  | x :: r, n + 1, i, st, D, hd, hn, hs, hP, hi, hq, hD => by
    have hlen := congrArg List.length hd
    simp at hlen
    have hx : v0[i]? = some x := by
      have := congrArg (fun l => l[0]?) hd
      simpa using this
    have hd' : v0.drop (i + 1) = r := by
      have := congrArg List.tail hd
      simpa using this
    obtain ⟨hxo, hxk⟩ := hok x (List.mem_of_getElem? hx)
    obtain ⟨p, b, hp, hb⟩ := plain_eq K x hxo hxk
    unfold expr_Check.l6
    have e1 : decide ((i : Int) < (v0.length : Int)) = true := by simp; omega
    rw [e1, if_pos rfl, idx_nat, hx]
    simp only [Option.bind_some]
    rw [hp]
    simp only [Option.bind_some]
    refine (bad_eq b p _).trans ?_
    rw [hb, fits_eq]
    simp only [pass]
    have hwl : (st.map (thg v0 D)).length = st.length := by simp
    rw [hwl]
    cases hfd : fieldsB x with
    | false =>
      have hso : stepOk v0 D x (st.drop (st.length - x.kids.toNat)) = false := by unfold stepOk; rw [hfd]; rfl
      rw [hso]
      simp
    | true =>
      cases hf : fitsB x.op x.kids with
      | false => simp
      | true =>
        obtain ⟨k0, _, _⟩ := fits_nn hf
        by_cases hk : x.kids ≤ (st.length : Int)
        · obtain ⟨kn, hkn⟩ : ∃ kn : Nat, x.kids = (kn : Int) := ⟨x.kids.toNat, by omega⟩
          have ekn : x.kids.toNat = kn := by omega
          have c2 : decide (x.kids > (st.length : Int)) = false := by simp; omega
          have c3 : decide (x.kids ≤ (st.length : Int)) = true := by simp; omega
          have ew : IntKind.i64.wrap ((st.length : Int) - x.kids) = ((st.length - kn : Nat) : Int) := by rw [i64_small (by omega) (by omega)]; omega
          have en : (st.length : Int) - ((st.length - kn : Nat) : Int) = (kn : Int) := by omega
          simp only [Bool.not_true, Bool.false_eq_true, if_false, if_true, Option.bind_some, c2, c3, Bool.true_and, ew, ekn, en]
          rw [if_pos ⟨by omega, by omega, by omega⟩]
          have hcp := check_parts K ((st.length - kn : Nat) : Int) (kn : Int) (st.length - kn) kn v0 v1 (st.map (thg v0 D)) (mx D) (i : Int) v0 (v0.length : Int) (i : Int) x (by rw [hwl]; omega) (by rw [hwl]; omega) kn K 0 0 (by omega) (by omega) (Nat.zero_le _)
          rw [show ((0 : Nat) : Int) = (0 : Int) from rfl] at hcp
          rw [hcp, Nat.add_zero, ← List.map_drop, sd_thg]
          obtain ⟨ps, hps⟩ : ∃ ps, ps = st.drop (st.length - kn) := ⟨_, rfl⟩
          have hpl : ps.length = kn := by rw [hps]; simp; omega
          rw [← hps]
          have hpq : ∀ q ∈ ps, q < i := fun q h => hq q (List.mem_of_mem_drop (hps ▸ h))
          cases hso : sortsOk x.op 0 (ps.map (ent v0 D)) with
          | false =>
            have : stepOk v0 D x ps = false := by unfold stepOk; rw [hso]; simp
            rw [this]
            simp
          | true =>
            simp only [if_true, Option.bind_some]
            have esub : sub (st.map (thg v0 D)) ((st.length - kn : Nat) : Int) (((st.length - kn : Nat) : Int) + (kn : Int)) = ps.map (thg v0 D) := by
              unfold sub
              rw [show (((st.length - kn : Nat) : Int)).toNat = st.length - kn from rfl, ← List.map_drop, ← hps, List.take_of_length_le]
              simp [hpl]
              omega
            have hun : expr_unlike K v0 (ps.map (thg v0 D)) = some (!dupFrom (txts v0 ps) ps.length 0) := by
              rw [unlike_eq K v0 (ps.map (thg v0 D)) (by simp; omega) (fun a ha => by
                obtain ⟨q, hq', rfl⟩ := List.mem_map.1 ha
                exact ⟨_, by rw [show (thg v0 D q).at_ = (q : Int) from rfl, idx_nat]; exact List.getElem?_eq_getElem (by have := hpq q hq'; omega)⟩) (by simp; omega), List.map_map, List.length_map]
              rfl
            have hb14 : ((if (x.op == (27 : Int)) = true then (expr_unlike K v0 (sub (st.map (thg v0 D)) ((st.length - kn : Nat) : Int) (((st.length - kn : Nat) : Int) + (kn : Int)))).bind fun r13 => some (!r13) else some false) : Option Bool) = some ((x.op == 27) && dupFrom (txts v0 ps) ps.length 0) := by
              rw [esub, hun]
              cases (x.op == (27 : Int)) <;> simp
            rw [hb14]
            have hst : stepOk v0 D x ps = !((x.op == 27) && dupFrom (txts v0 ps) ps.length 0) := by unfold stepOk; rw [hfd, hso]; rfl
            rw [hst]
            simp only [Option.bind_some]
            cases ((x.op == (27 : Int)) && dupFrom (txts v0 ps) ps.length 0) with
            | true => simp
            | false =>
              have hdp := deep1_ok (v0 := v0) (ps := ps) hD
              have edp : IntKind.i64.wrap (dmax 0 (ps.map (ent v0 D)) + 1) = deep1 v0 D ps := by
                have : dmax 0 (ps.map (ent v0 D)) + 1 = deep1 v0 D ps := rfl
                rw [this, i64_small (by omega) (by omega)]
              simp only [Bool.false_eq_true, if_false, Bool.not_false, if_true]
              rw [hwl, ew, if_pos ⟨by omega, by omega, by omega⟩, sortI_eq]
              simp only [Option.bind_some]
              rw [edp, show (((st.length - kn : Nat) : Int)).toNat = st.length - kn from rfl, ← List.map_take]
              have htl : ∀ q ∈ st.take (st.length - kn), q < D.length := fun q h => by have := hq q (List.mem_of_mem_take h); omega
              have enew : (st.take (st.length - kn)).map (thg v0 D) ++ [(⟨sortI x.op, deep1 v0 D ps, (i : Int)⟩ : expr_thing)] = (st.take (st.length - kn) ++ [i]).map (thg v0 (D ++ [deep1 v0 D ps])) := by
                rw [List.map_append, thg_app v0 D _ _ htl]
                refine congrArg (_ ++ ·) ?_
                simp only [List.map_cons, List.map_nil]
                unfold thg
                rw [opAt_eq hx, ← hP, List.getElem?_append_right (Nat.le_refl _)]
                simp
              rw [enew, ← mx_snoc, i64_small (by omega) (by omega), show (i : Int) + 1 = ((i + 1 : Nat) : Int) by omega, if_pos ((room_iff _).2 (by simp only [List.length_map, List.length_take, List.length_cons, List.length_nil]; omega))]
              exact check_loop K v0 v1 hv hok hK r n (i + 1) _ _ hd' (by simp at hn; omega) (by simp; omega) (by simp [hP]) (by omega) (fun q hq' => by
                rcases List.mem_append.1 hq' with h | h
                · have := htl q h; omega
                · have := List.mem_singleton.1 h; omega) hD.snoc
        · have c2 : decide (x.kids > (st.length : Int)) = true := by simp; omega
          have c3 : decide (x.kids ≤ (st.length : Int)) = false := by simp; omega
          rw [c2, c3]
          simp
end Go.EvT
end
section
set_option maxRecDepth 100000
namespace Go.EvT
open Go.Ev Go Go.Lib
def pass2 (v0 : List Node) : List Node → List (List Nat) → List Int → Option (List Int)
  | [], _, D => some D
  | n :: r, Q, D => if stepOk v0 D n (Q.headD []) = true then pass2 v0 r Q.tail (D ++ [deep1 v0 D (Q.headD [])]) else none
theorem pass2_cons (v0 : List Node) (n : Node) (r : List Node) (ps : List Nat) (Q : List (List Nat)) (D : List Int) : pass2 v0 (n :: r) (ps :: Q) D = if stepOk v0 D n ps = true then pass2 v0 r Q (D ++ [deep1 v0 D ps]) else none := rfl
theorem pass_eq (v0 : List Node) : ∀ (r : List Node) (i : Nat) (st : List Nat) (P : List (List Nat)) (D : List Int),
    pass v0 r i st D = match stk r i st P with
      | some (st', P') => (pass2 v0 r (P'.drop P.length) D).map fun D' => (st', D')
      | none => none
  | [], i, st, P, D => by simp [pass, stk, pass2]
  | n :: r, i, st, P, D => by
    simp only [pass, stk]
    by_cases hc : (fitsB n.op n.kids && decide (n.kids ≤ (st.length : Int))) = true
    · rw [if_pos hc, if_pos hc]
      obtain ⟨ps, hps⟩ : ∃ ps, ps = st.drop (st.length - n.kids.toNat) := ⟨_, rfl⟩
      rw [← hps]
      have ih := pass_eq v0 r (i + 1) (st.take (st.length - n.kids.toNat) ++ [i]) (P ++ [ps]) (D ++ [deep1 v0 D ps])
      rw [ih]
      have hpre : ∀ (r : List Node) (i : Nat) (st : List Nat) (P : List (List Nat)) st' P', stk r i st P = some (st', P') → ∃ Q, P' = P ++ Q := by
        intro r
        induction r with
        | nil =>
          intro i st P st' P' h
          simp only [stk, Option.some.injEq, Prod.mk.injEq] at h
          exact ⟨[], by simp [h.2]⟩
        | cons m r ihr =>
          intro i st P st' P' h
          simp only [stk] at h
          split at h
          · obtain ⟨Q, hQ⟩ := ihr _ _ _ _ _ h
            exact ⟨_, by rw [hQ, List.append_assoc]⟩
          · cases h
      cases hs : stk r (i + 1) (st.take (st.length - n.kids.toNat) ++ [i]) (P ++ [ps]) with
      | none => simp
      | some x =>
        obtain ⟨st', P'⟩ := x
        obtain ⟨Q, rfl⟩ := hpre _ _ _ _ _ _ hs
        simp only [List.append_assoc]
        have e1 : (P ++ ([ps] ++ Q)).drop P.length = ps :: Q := by rw [List.drop_left]; rfl
        have e2 : (P ++ ([ps] ++ Q)).drop (P ++ [ps]).length = Q := by rw [← List.append_assoc, List.drop_left]
        rw [e1, e2]
        rw [pass2_cons]
        by_cases hso : stepOk v0 D n ps = true
        · rw [if_pos hso, if_pos hso]
        · rw [if_neg hso, if_neg hso]
          rfl
    · rw [if_neg hc, if_neg hc]
end Go.EvT
end
section
set_option maxRecDepth 100000
namespace Go.EvT
open Go.Ev Go Go.Lib
theorem set_zeros (D : List Int) (m : Nat) (d : Int) : (D ++ List.replicate (m + 1) 0).set D.length d = (D ++ [d]) ++ List.replicate m 0 := by
  rw [List.set_append_right _ _ (Nat.le_refl _), Nat.sub_self, List.replicate_succ, List.append_assoc]
  rfl
theorem rcheck_loop (K : Nat) (v0 : List Node) (v1 : Bool) (P : List (List Nat)) (hv : v0.length ≤ 300) (hok : ∀ n ∈ v0, NodeOk n ∧ n.text.size + 1000 ≤ K) (hK : 1000 ≤ K) (hPl : P.length = v0.length) (hPq : ∀ (j : Nat) (ps : List Nat), P[j]? = some ps → ps.length ≤ 300 ∧ ∀ q ∈ ps, q < j) (hfit : ∀ n ∈ v0, fitsB n.op n.kids = true) :
    ∀ (r : List Node) (n i : Nat) (D : List Int), v0.drop i = r → r.length < n → D.length = i → i ≤ v0.length → DOk D →
    tariffref10_Check.l9 K n v0 v1 (P.map ints) (D ++ List.replicate (v0.length - i) 0) (mx D) (i : Int) = match pass2 v0 r (P.drop i) D with
      | some D' => some (.go (v0, v1, mx D'))
      | none => some (.ret 2)
  | _, 0, _, _, _, h, _, _, _ => by omega
  | [], n + 1, i, D, hd, _, hP, hi, _ => by
    have hlen := congrArg List.length hd
    simp at hlen
    unfold tariffref10_Check.l9
    have e1 : decide ((i : Int) < (v0.length : Int)) = false := by simp; omega
    rw [e1]
    rfl
  | x :: r, n + 1, i, D, hd, hn, hP, hi, hD => by
    have hlen := congrArg List.length hd
    simp at hlen
    have hx : v0[i]? = some x := by
      have := congrArg (fun l => l[0]?) hd
      simpa using this
    have hd' : v0.drop (i + 1) = r := by
      have := congrArg List.tail hd
      simpa using this
    have hil : i < v0.length := by omega
    obtain ⟨hxo, hxk⟩ := hok x (List.mem_of_getElem? hx)
    obtain ⟨ps, hps⟩ : ∃ ps, P[i]? = some ps := ⟨_, List.getElem?_eq_getElem (by omega)⟩
    obtain ⟨hpl, hpq⟩ := hPq i ps hps
    have hopq : ∀ q ∈ ps, 1 ≤ opAt v0 q ∧ opAt v0 q ≤ 37 := fun q h => by
      have hqi := hpq q h
      obtain ⟨m, hm⟩ : ∃ m, v0[q]? = some m := ⟨_, List.getElem?_eq_getElem (by omega)⟩
      rw [opAt_eq hm]
      exact (fits_nn (hfit m (List.mem_of_getElem? hm))).2
    have hPi : (P.map ints)[i]? = some (ints ps) := by rw [List.getElem?_map, hps]; rfl
    unfold tariffref10_Check.l9
    have e1 : decide ((i : Int) < (v0.length : Int)) = true := by simp; omega
    rw [e1, if_pos rfl, idx_nat, hx]
    simp only [Option.bind_some]
    rw [fields_eq K x hxo hxk]
    simp only [Option.bind_some]
    rw [drop_cons hps, pass2_cons]
    cases hfd : fieldsB x with
    | false =>
      have hso : stepOk v0 D x ps = false := by unfold stepOk; rw [hfd]; rfl
      rw [hso]
      simp
    | true =>
      simp only [Bool.not_true, Bool.false_eq_true, if_false]
      obtain ⟨m, hm⟩ : ∃ m, v0.length - i = m + 1 := ⟨v0.length - i - 1, by omega⟩
      have hw : (D ++ List.replicate (v0.length - i) (0 : Int)) = (D ++ List.replicate (v0.length - i) 0).set i 0 := by
        rw [hm, ← hP, set_zeros, List.append_assoc]
        rfl
      have hwl : (D ++ List.replicate (v0.length - i) (0 : Int)).length = v0.length := by simp; omega
      have hrp := rcheck_parts K v0 v1 (P.map ints) (mx D) i ps x (D ++ List.replicate (v0.length - i) 0) hx hPi (by omega) hpq hopq (by rw [hwl]; exact hil) hil ps.length K 0 0 (by omega) (by omega) (Nat.zero_le _)
      rw [← hw, List.drop_zero, ent_app v0 D _ ps (fun q h => by rw [hP]; exact hpq q h)] at hrp
      rw [show ((0 : Nat) : Int) = (0 : Int) from rfl] at hrp
      rw [hrp]
      cases hso : sortsOk x.op 0 (ps.map (ent v0 D)) with
      | false =>
        have : stepOk v0 D x ps = false := by unfold stepOk; rw [hso]; simp
        rw [this]
        simp
      | true =>
        simp only [if_true, Option.bind_some, idx_nat, hx, hPi]
        have htw : tariffref10_twice K v0 (ints ps) = some (dupFrom (txts v0 ps) ps.length 0) := by
          rw [twice_names K v0 (ints ps) (by simp [ints]; omega) (fun a ha => by
            obtain ⟨q, hq', rfl⟩ := List.mem_map.1 ha
            exact ⟨_, by rw [idx_nat]; exact List.getElem?_eq_getElem (by have := hpq q hq'; omega)⟩) (by simp [ints]; omega)]
          unfold ints
          rw [List.map_map, List.length_map]
          rfl
        have hb22 : ((if (x.op == (27 : Int)) = true then (tariffref10_twice K v0 (ints ps)).bind fun r21 => some r21 else some false) : Option Bool) = some ((x.op == 27) && dupFrom (txts v0 ps) ps.length 0) := by
          rw [htw]
          cases (x.op == (27 : Int)) <;> simp
        rw [hb22]
        have hst : stepOk v0 D x ps = !((x.op == 27) && dupFrom (txts v0 ps) ps.length 0) := by unfold stepOk; rw [hfd, hso]; rfl
        rw [hst]
        simp only [Option.bind_some]
        cases ((x.op == (27 : Int)) && dupFrom (txts v0 ps) ps.length 0) with
        | true => simp
        | false =>
          have hdp := deep1_ok (v0 := v0) (ps := ps) hD
          have edp : IntKind.i64.wrap (dmax 0 (ps.map (ent v0 D)) + 1) = deep1 v0 D ps := by
            have : dmax 0 (ps.map (ent v0 D)) + 1 = deep1 v0 D ps := rfl
            rw [this, i64_small (by omega) (by omega)]
          simp only [Bool.false_eq_true, if_false, Bool.not_false, if_true]
          obtain ⟨w, hwd⟩ : ∃ w, w = (D ++ List.replicate (v0.length - i) (0 : Int)) := ⟨_, rfl⟩
          rw [← hwd] at hwl ⊢
          have g1 : (w.set i (dmax 0 (ps.map (ent v0 D))))[i]? = some (dmax 0 (ps.map (ent v0 D))) := by rw [List.getElem?_set]; simp; omega
          rw [if_pos ⟨by omega, by rw [List.length_set]; omega⟩, g1]
          simp only [Option.bind_some]
          rw [if_pos ⟨by omega, by rw [List.length_set]; omega⟩, edp, show ((i : Int)).toNat = i from rfl, List.set_set, if_pos ⟨by omega, by rw [List.length_set]; omega⟩]
          have g2 : (w.set i (deep1 v0 D ps))[i]? = some (deep1 v0 D ps) := by rw [List.getElem?_set]; simp; omega
          rw [g2]
          simp only [Option.bind_some]
          have hnew : w.set i (deep1 v0 D ps) = (D ++ [deep1 v0 D ps]) ++ List.replicate (v0.length - (i + 1)) 0 := by
            rw [hwd, hm, ← hP, set_zeros, show v0.length - (D.length + 1) = m by omega]
          rw [hnew, ← mx_snoc, i64_small (by omega) (by omega), show (i : Int) + 1 = ((i + 1 : Nat) : Int) by omega]
          exact rcheck_loop K v0 v1 P hv hok hK hPl hPq hfit r n (i + 1) _ hd' (by simp at hn; omega) (by simp [hP]) (by omega) hD.snoc
end Go.EvT
end
section
set_option maxRecDepth 100000
namespace Go.EvT
open Go.Ev Go Go.Lib
theorem stk_last : ∀ (r : List Node) (i : Nat) (st : List Nat) (P : List (List Nat)) (st' : List Nat) (P' : List (List Nat)), stk r i st P = some (st', P') → (r = [] ∧ st' = st) ∨ ∃ s, st' = s ++ [i + r.length - 1]
  | [], i, st, P, st', P', h => by
    simp only [stk, Option.some.injEq, Prod.mk.injEq] at h
    exact .inl ⟨rfl, h.1.symm⟩
  | n :: r, i, st, P, st', P', h => by
    simp only [stk] at h
    split at h
    · rcases stk_last r _ _ _ _ _ h with ⟨rfl, rfl⟩ | ⟨s, rfl⟩
      · exact .inr ⟨_, rfl⟩
      · refine .inr ⟨s, ?_⟩
        rw [List.length_cons, show i + 1 + r.length - 1 = i + (r.length + 1) - 1 by omega]
    · cases h
theorem stk_parts : ∀ (r : List Node) (i : Nat) (st : List Nat) (P : List (List Nat)) (st' : List Nat) (P' : List (List Nat)), stk r i st P = some (st', P') → st.length ≤ i →
    ∃ Q : List (List Nat), P' = P ++ Q ∧ ∀ (j : Nat) (ps : List Nat), Q[j]? = some ps → ps.length ≤ i + j
  | [], i, st, P, st', P', h, _ => by
    simp only [stk, Option.some.injEq, Prod.mk.injEq] at h
    exact ⟨[], by simp [h.2], fun j ps h => by simp at h⟩
  | n :: r, i, st, P, st', P', h, hs => by
    simp only [stk] at h
    split at h
    · obtain ⟨Q, h1, h2⟩ := stk_parts r _ _ _ _ _ h (by simp; omega)
      refine ⟨_ :: Q, by rw [h1, List.append_assoc]; rfl, fun j ps hj => ?_⟩
      cases j with
      | zero =>
        simp at hj
        subst hj
        simp; omega
      | succ j =>
        have := h2 j ps (by simpa using hj)
        omega
    · cases h
def rootOk (v1 : Bool) (s : Int) : Bool := if v1 = true then s == 4 || s == 5 else s == 1
def checkV (v0 : List Node) (v1 : Bool) : Int :=
  if (v0.length : Int) > 300 then 6
  else match pass v0 v0 0 [] [] with
    | none => 2
    | some (st, D) => if st.length = 1 then (if rootOk v1 (sortI (opAt v0 (v0.length - 1))) = true then (if mx D > 40 then 7 else 0) else 2) else 2
theorem check_eq (K : Nat) (v0 : List Node) (v1 : Bool) (hok : ∀ n ∈ v0, NodeOk n ∧ n.text.size + 1000 ≤ K) (hK : 1000 ≤ K) : expr_Check K v0 v1 = some (checkV v0 v1) := by
  unfold expr_Check checkV
  by_cases h3 : (v0.length : Int) > 300
  · have : decide ((v0.length : Int) > (300 : Int)) = true := by simpa using h3
    rw [this, if_pos rfl, if_pos h3]
  · have e3 : decide ((v0.length : Int) > (300 : Int)) = false := by simpa using h3
    rw [e3, if_neg h3]
    simp only [Bool.false_eq_true, if_false]
    have h := check_loop K v0 v1 (by omega) hok hK v0 K 0 [] [] rfl (by omega) (Nat.le_refl _) rfl (Nat.zero_le _) (fun q h => by cases h) (fun d h => by cases h)
    have h' : expr_Check.l6 K K v0 v1 [] (0 : Int) v0 (v0.length : Int) (0 : Int) = _ := h
    rw [h', pass_eq]
    cases hs : stk v0 0 [] [] with
    | none => rfl
    | some x =>
      obtain ⟨st, P⟩ := x
      cases hp : pass2 v0 v0 (P.drop ([] : List (List Nat)).length) [] with
      | none =>
        simp only [hp]
        rfl
      | some D =>
        simp only [hp, Option.map_some, Option.bind_some]
        by_cases h1 : st.length = 1
        · have hq : st = [v0.length - 1] := by
            rcases stk_last _ _ _ _ _ _ hs with ⟨_, rfl⟩ | ⟨s, rfl⟩
            · simp at h1
            · simp at h1
              rw [h1, Nat.zero_add]
              rfl
          subst hq
          simp only [List.map_cons, List.map_nil, List.length_cons, List.length_nil, Nat.zero_add]
          have e0 : idx [thg v0 D (v0.length - 1)] (0 : Int) = some (thg v0 D (v0.length - 1)) := rfl
          have es : (thg v0 D (v0.length - 1)).sort_ = sortI (opAt v0 (v0.length - 1)) := rfl
          simp only [e0, Option.bind_some, es]
          obtain ⟨s, hs'⟩ : ∃ s, s = sortI (opAt v0 (v0.length - 1)) := ⟨_, rfl⟩
          rw [← hs']
          unfold rootOk
          have c4 : (s != 4) = !(s == 4) := rfl
          have c5 : (s != 5) = !(s == 5) := rfl
          have c1 : (s != 1) = !(s == 1) := rfl
          rw [c4, c5, c1]
          rcases Decidable.em (40 < mx D) with hm | hm <;> cases v1 <;> cases (s == 4) <;> cases (s == 5) <;> cases (s == 1) <;> simp [hm]
        · have : ((((st.map (thg v0 D)).length : Int) != (1 : Int))) = true := by
            rw [List.length_map]
            simp
            omega
          rw [this, if_neg h1]
          rfl
theorem rcheck_eq (K : Nat) (v0 : List Node) (v1 : Bool) (hok : ∀ n ∈ v0, NodeOk n ∧ n.text.size + 1000 ≤ K) (hK : 1000 ≤ K) : tariffref10_Check K v0 v1 = some (checkV v0 v1) := by
  unfold tariffref10_Check checkV
  by_cases h3 : (v0.length : Int) > 300
  · have : decide ((v0.length : Int) > (300 : Int)) = true := by simpa using h3
    rw [this, if_pos rfl, if_pos h3]
  · have e3 : decide ((v0.length : Int) > (300 : Int)) = false := by simpa using h3
    rw [e3, if_neg h3]
    simp only [Bool.false_eq_true, if_false]
    rw [i64_small (by omega) (by omega), stack_eq K v0 (by omega) (by omega), pass_eq]
    cases hs : stk v0 0 [] [] with
    | none => rfl
    | some x =>
      obtain ⟨st, P⟩ := x
      simp only [Option.bind_some, Bool.not_true, if_true, List.length_nil, List.drop_zero]
      by_cases h1 : st.length = 1
      · have hne : v0 ≠ [] := by
          rintro rfl
          simp only [stk, Option.some.injEq, Prod.mk.injEq] at hs
          rw [← hs.1] at h1
          cases h1
        have hl : 0 < v0.length := List.length_pos_iff.2 hne
        have e1 : (((ints st).length : Int) != (1 : Int)) = false := by simp [ints, h1]
        rw [e1]
        simp only [Bool.false_eq_true, if_false]
        rw [if_pos ⟨by omega, by omega, (room_iff _).2 (by omega)⟩]
        obtain ⟨f1, f2, ⟨Q, f3, f4⟩, f5⟩ := stk_facts v0 0 [] [] st P hs (fun q h => by cases h) rfl
        obtain ⟨Q', f6, f7⟩ := stk_parts v0 0 [] [] st P hs (Nat.le_refl _)
        have hPl : P.length = v0.length := by simpa using f2
        have hPQ : P = Q := by simpa using f3
        have hPQ' : P = Q' := by simpa using f6
        subst hPQ
        subst hPQ'
        have hloop := rcheck_loop K v0 v1 P (by omega) hok hK hPl (fun j ps hj => ⟨by
          have := f7 j ps hj
          have := getElem?_lt hj
          omega, fun q hq => by have := f4 j ps hj q hq; omega⟩) (fun n hn => by
          obtain ⟨j, hj⟩ := List.getElem?_of_mem hn
          exact f5 j n hj) v0 K 0 [] rfl (by omega) rfl (Nat.zero_le _) (fun d h => by cases h)
        rw [List.drop_zero] at hloop
        have h' : tariffref10_Check.l9 K K v0 v1 (P.map ints) (List.replicate ((v0.length : Int)).toNat (0 : Int)) (0 : Int) (0 : Int) = _ := hloop
        rw [h']
        cases hp : pass2 v0 v0 P [] with
        | none => rfl
        | some D =>
          obtain ⟨nd, hnd⟩ : ∃ nd, v0[v0.length - 1]? = some nd := ⟨_, List.getElem?_eq_getElem (by omega)⟩
          simp only [Option.map_some, Option.bind_some, h1, if_true]
          rw [i64_small (by omega) (by omega), show (v0.length : Int) - 1 = ((v0.length - 1 : Nat) : Int) by omega, idx_nat, hnd]
          simp only [Option.bind_some]
          have hft := fits_nn (f5 (v0.length - 1) nd hnd)
          rw [rsort_eq hft.2.1 hft.2.2, opAt_eq hnd]
          simp only [Option.bind_some]
          obtain ⟨s, hs'⟩ : ∃ s, s = sortI nd.op := ⟨_, rfl⟩
          rw [← hs']
          unfold rootOk
          have c4 : (s != 4) = !(s == 4) := rfl
          have c5 : (s != 5) = !(s == 5) := rfl
          have c1 : (s != 1) = !(s == 1) := rfl
          rw [c4, c5, c1]
          rcases Decidable.em (40 < mx D) with hm | hm <;> cases v1 <;> cases (s == 4) <;> cases (s == 5) <;> cases (s == 1) <;> simp [hm]
      · have e1 : (((ints st).length : Int) != (1 : Int)) = true := by
          unfold ints
          rw [List.length_map]
          simp
          omega
        rw [e1]
        cases pass2 v0 v0 P [] with
        | none => rfl
        | some D => simp [h1]
end Go.EvT
end
section
set_option maxRecDepth 100000
namespace Go.EvT
open Go.Ev Go Go.Lib
structure Chk (v0 : List Node) (P : List (List Nat)) : Prop where
  run : stk v0 0 [] [] = some ([v0.length - 1], P)
  pos : 0 < v0.length
  small : v0.length ≤ 300
  root : rootOk true (sortI (opAt v0 (v0.length - 1))) = true
  len : P.length = v0.length
  fld : ∀ (i : Nat) (x : Node), v0[i]? = some x → fieldsB x = true
  fit : ∀ (i : Nat) (x : Node), v0[i]? = some x → fitsB x.op x.kids = true
  srt : ∀ (i : Nat) (x : Node) (ps : List Nat), v0[i]? = some x → P[i]? = some ps → ∀ (j q : Nat), ps[j]? = some q → sortI (opAt v0 q) = wantI x.op (j : Int)
  ahead : ∀ (i : Nat) (ps : List Nat), P[i]? = some ps → ps.length ≤ i ∧ ∀ q ∈ ps, q < i
theorem sortsOk_at (op : Int) : ∀ (l : List (Int × Int)) (j m : Nat) (a : Int × Int), sortsOk op j l = true → l[m]? = some a → a.1 = wantI op ((j + m : Nat) : Int)
  | [], _, _, _, _, h => by simp at h
  | b :: r, j, 0, a, h, h2 => by
    simp only [List.getElem?_cons_zero, Option.some.injEq] at h2
    subst h2
    simp only [sortsOk, Bool.and_eq_true, beq_iff_eq] at h
    exact h.1
  | b :: r, j, m + 1, a, h, h2 => by
    simp only [sortsOk, Bool.and_eq_true, beq_iff_eq] at h
    have := sortsOk_at op r (j + 1) m a h.2 (by simpa using h2)
    rw [this, show j + 1 + m = j + (m + 1) by omega]
theorem pass2_facts (v0 : List Node) : ∀ (r : List Node) (Q : List (List Nat)) (D D' : List Int), pass2 v0 r Q D = some D' → ∀ (m : Nat) (x : Node), r[m]? = some x →
    fieldsB x = true ∧ ∀ ps, Q[m]? = some ps → ∀ (j q : Nat), ps[j]? = some q → sortI (opAt v0 q) = wantI x.op (j : Int)
  | [], _, _, _, _, _, _, h => by simp at h
  | y :: r, Q, D, D', h, m, x, hx => by
    simp only [pass2] at h
    split at h
    · rename_i hs
      cases m with
      | zero =>
        simp only [List.getElem?_cons_zero, Option.some.injEq] at hx
        subst hx
        unfold stepOk at hs
        simp only [Bool.and_eq_true] at hs
        refine ⟨hs.1, fun ps hps j q hq => ?_⟩
        have e : Q.headD [] = ps := by cases Q <;> simp_all
        rw [e] at hs
        have := sortsOk_at y.op _ 0 j (ent v0 D q) hs.2.1 (by rw [List.getElem?_map, hq]; rfl)
        rw [Nat.zero_add] at this
        exact this
      | succ m =>
        obtain ⟨g1, g2⟩ := pass2_facts v0 r Q.tail _ D' h m x (by simpa using hx)
        refine ⟨g1, fun ps hps => g2 ps ?_⟩
        cases Q with
        | nil => simp at hps
        | cons a Q => simpa using hps
    · cases h
theorem chk_of {v0 : List Node} (h : checkV v0 true = 0) : ∃ P, Chk v0 P := by
  unfold checkV at h
  split at h
  · cases h
  · rename_i h3
    rw [pass_eq] at h
    cases hs : stk v0 0 [] [] with
    | none => rw [hs] at h; cases h
    | some x =>
      obtain ⟨st, P⟩ := x
      rw [hs] at h
      simp only [List.length_nil, List.drop_zero] at h
      cases hp : pass2 v0 v0 P [] with
      | none => rw [hp] at h; cases h
      | some D =>
        rw [hp] at h
        simp only [Option.map_some] at h
        split at h
        · rename_i h1
          split at h
          · rename_i hr
            obtain ⟨f1, f2, ⟨Q, f3, f4⟩, f5⟩ := stk_facts v0 0 [] [] st P hs (fun q h => by cases h) rfl
            obtain ⟨Q', f6, f7⟩ := stk_parts v0 0 [] [] st P hs (Nat.le_refl _)
            have hPQ : P = Q := by simpa using f3
            have hPQ' : P = Q' := by simpa using f6
            subst hPQ
            subst hPQ'
            have hq : st = [v0.length - 1] ∧ 0 < v0.length := by
              rcases stk_last _ _ _ _ _ _ hs with ⟨_, rfl⟩ | ⟨s, rfl⟩
              · simp at h1
              · simp at h1
                refine ⟨by rw [h1, Nat.zero_add]; rfl, ?_⟩
                have := f1 (0 + v0.length - 1) (by simp)
                omega
            have hq1 := hq.1
            subst hq1
            refine ⟨P, hs, hq.2, by omega, hr, by simpa using f2, fun i x hx => (pass2_facts v0 v0 P [] D hp i x hx).1, f5, fun i x ps hx hps j q hq => (pass2_facts v0 v0 P [] D hp i x hx).2 ps hps j q hq, fun i ps hps => ⟨?_, fun q hq => ?_⟩⟩
            · have := f7 i ps hps
              omega
            · have := f4 i ps hps q hq
              omega
          · cases h
        · cases h
def numV (d : Dec) : Val := ⟨2, false, d, ByteArray.empty, 0, [], []⟩
def textV (s : ByteArray) : Val := ⟨3, false, ⟨false, ⟨0, 0⟩, 0⟩, s, 0, [], []⟩
def dayV (d : Int) : Val := ⟨4, false, ⟨false, ⟨0, 0⟩, 0⟩, ByteArray.empty, d, [], []⟩
def truthV (b : Bool) : Val := ⟨1, b, ⟨false, ⟨0, 0⟩, 0⟩, ByteArray.empty, 0, [], []⟩
def nilV : Val := ⟨0, false, ⟨false, ⟨0, 0⟩, 0⟩, ByteArray.empty, 0, [], []⟩
def flipD (d : Dec) : Dec := ⟨!d.neg && !((d.coef.hi == 0) && ((d.coef.lo == 0) && true)), d.coef, d.scale⟩
def lit5 (x : Node) : Bool := x.op == 2 || (x.op == 3 || (x.op == 4 || (x.op == 5 || x.op == 6)))
def litX (x : Node) : Val := if x.op = 2 then truthV true else if x.op = 3 then truthV false else if x.op = 4 then numV x.num else if x.op = 5 then textV x.text else if x.op = 6 then dayV x.day else nilV
theorem literal_eq (x : Node) : unary_literal x = some (litX x, lit5 x) := by
  obtain ⟨op, kids, text, num, day⟩ := x
  by_cases h2 : op = 2
  · subst h2; rfl
  · by_cases h3 : op = 3
    · subst h3; rfl
    · by_cases h4 : op = 4
      · subst h4; rfl
      · by_cases h5 : op = 5
        · subst h5; rfl
        · by_cases h6 : op = 6
          · subst h6; rfl
          · unfold unary_literal litX lit5
            have e2 : (op == 2) = false := by simpa using h2
            have e3 : (op == 3) = false := by simpa using h3
            have e4 : (op == 4) = false := by simpa using h4
            have e5 : (op == 5) = false := by simpa using h5
            have e6 : (op == 6) = false := by simpa using h6
            simp only [e2, e3, e4, e5, e6, if_neg h2, if_neg h3, if_neg h4, if_neg h5, if_neg h6, Bool.false_eq_true, if_false, Option.bind_some]
            rfl
def litB (v0 : List Node) (q : Nat) : Bool := match v0[q]? with
  | some x => lit5 x || ((x.op == 8) && (opAt v0 (q - 1) == 4))
  | none => false
def litV (v0 : List Node) (q : Nat) : Val := match v0[q]? with
  | some x => if x.op = 8 then (match v0[q - 1]? with | some y => if y.op = 4 then numV (flipD y.num) else nilV | none => nilV) else litX x
  | none => nilV
theorem flip_eq (d : Dec) : tariffref02_Flip d = some (flipD d) := by
  unfold tariffref02_Flip flipD
  cases d.neg <;> rfl
theorem rliteral_eq (v0 : List Node) (P : List (List Nat)) (q : Nat) (x : Node) (hx : v0[q]? = some x) (h8 : x.op = 8 → 1 ≤ q ∧ P[q]? = some [q - 1]) : tariffref12_literal v0 (P.map ints) (q : Int) = some (litV v0 q, litB v0 q) := by
  unfold tariffref12_literal litV litB
  rw [idx_nat, hx]
  simp only [Option.bind_some]
  by_cases e8 : x.op = 8
  · obtain ⟨h1, hP⟩ := h8 e8
    obtain ⟨y, hy⟩ : ∃ y, v0[q - 1]? = some y := ⟨_, List.getElem?_eq_getElem (by have := getElem?_lt hx; omega)⟩
    have hPi : (P.map ints)[q]? = some [((q - 1 : Nat) : Int)] := by rw [List.getElem?_map, hP]; rfl
    have hl5 : lit5 x = false := by unfold lit5; rw [e8]; rfl
    rw [e8, hl5, if_pos rfl, opAt_eq hy, hy]
    simp only [show ((8 : Int) == 2) = false from rfl, show ((8 : Int) == 3) = false from rfl, show ((8 : Int) == 4) = false from rfl, show ((8 : Int) == 5) = false from rfl, show ((8 : Int) == 6) = false from rfl, show ((8 : Int) == 8) = true from rfl, Bool.false_eq_true, if_false, if_true, Option.bind_some]
    rw [idx_nat, hPi]
    simp only [Option.bind_some]
    rw [show idx [((q - 1 : Nat) : Int)] (0 : Int) = some ((q - 1 : Nat) : Int) from rfl]
    simp only [Option.bind_some]
    rw [idx_nat, hy]
    simp only [Option.bind_some]
    by_cases e4 : y.op = 4
    · have : (y.op == 4) = true := by simpa using e4
      rw [this, if_pos rfl, if_pos e4, flip_eq]
      rfl
    · have : (y.op == 4) = false := by simpa using e4
      rw [this, if_neg e4]
      rfl
  · rw [if_neg e8]
    have e8' : (x.op == 8) = false := by simpa using e8
    have hl : unary_literal x = some (litX x, lit5 x) := literal_eq x
    obtain ⟨op, kids, text, num, day⟩ := x
    by_cases h2 : op = 2
    · subst h2; rfl
    · by_cases h3 : op = 3
      · subst h3; rfl
      · by_cases h4 : op = 4
        · subst h4; rfl
        · by_cases h5 : op = 5
          · subst h5; rfl
          · by_cases h6 : op = 6
            · subst h6; rfl
            · unfold litX lit5
              have e2 : (op == 2) = false := by simpa using h2
              have e3 : (op == 3) = false := by simpa using h3
              have e4 : (op == 4) = false := by simpa using h4
              have e5 : (op == 5) = false := by simpa using h5
              have e6 : (op == 6) = false := by simpa using h6
              simp only [e2, e3, e4, e5, e6, e8', if_neg h2, if_neg h3, if_neg h4, if_neg h5, if_neg h6, Bool.false_eq_true, if_false, Option.bind_some]
              rfl
end Go.EvT
end
