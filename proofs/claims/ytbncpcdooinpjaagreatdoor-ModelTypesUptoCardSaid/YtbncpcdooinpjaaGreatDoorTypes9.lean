/- A part of the proof in YtbncpcdooinpjaaGreatDoorTypes12: lemmas and contracts; nothing is claimed here. -/
import Derived.Test.YtbncpcdooinpjaaGreatDoorTypes8
import Derived.Test.YtbncpcdooinpjaaGreatDoorProg
set_option linter.unusedVariables false
set_option linter.unusedSimpArgs false
section
set_option maxRecDepth 100000
namespace Go.EvT
open Go.Proofs Go.Ev
structure Typ where
  kind : Int
  of : Int
structure Item where
  name : ByteArray
  type_ : Typ
  allowed : ByteArray
structure Input where
  id : ByteArray
  name : ByteArray
  item : ByteArray
structure Column where
  text : ByteArray
  item : ByteArray
  values : List ByteArray
structure Rule where
  tests : List ByteArray
  says : List ByteArray
structure Tabl where
  policy : Int
  ins : List Column
  outs : List Column
  rules : List Rule
  default : List ByteArray
structure Decision where
  id : ByteArray
  name : ByteArray
  item : ByteArray
  needs : List ByteArray
  text : ByteArray
  table : Tabl
structure Model where
  id : ByteArray
  name : ByteArray
  items : List Item
  inputs : List Input
  decisions : List Decision
def car (id : Nat) : Type :=
  match id with
  | 0 => Model
  | 1 => Item
  | 2 => Typ
  | 3 => Input
  | 4 => Decision
  | 5 => Tabl
  | 6 => Column
  | 7 => Rule
  | _ => Unit
def tys (id : Nat) : List Ty :=
  match id with
  | 0 => [.str, .str, (.sl (.st 1)), (.sl (.st 3)), (.sl (.st 4))]
  | 1 => [.str, (.st 2), .str]
  | 2 => [(.int .i64), (.int .i64)]
  | 3 => [.str, .str, .str]
  | 4 => [.str, .str, .str, (.sl .str), .str, (.st 5)]
  | 5 => [(.int .i64), (.sl (.st 6)), (.sl (.st 6)), (.sl (.st 7)), (.sl .str)]
  | 6 => [.str, .str, (.sl .str)]
  | 7 => [(.sl .str), (.sl .str)]
  | _ => []
def get (id : Nat) (x : car id) : List (D car) :=
  match id, x with
  | 0, (x : Model) => [⟨.str, x.id⟩, ⟨.str, x.name⟩, ⟨(.sl (.st 1)), x.items⟩, ⟨(.sl (.st 3)), x.inputs⟩, ⟨(.sl (.st 4)), x.decisions⟩]
  | 1, (x : Item) => [⟨.str, x.name⟩, ⟨(.st 2), x.type_⟩, ⟨.str, x.allowed⟩]
  | 2, (x : Typ) => [⟨(.int .i64), x.kind⟩, ⟨(.int .i64), x.of⟩]
  | 3, (x : Input) => [⟨.str, x.id⟩, ⟨.str, x.name⟩, ⟨.str, x.item⟩]
  | 4, (x : Decision) => [⟨.str, x.id⟩, ⟨.str, x.name⟩, ⟨.str, x.item⟩, ⟨(.sl .str), x.needs⟩, ⟨.str, x.text⟩, ⟨(.st 5), x.table⟩]
  | 5, (x : Tabl) => [⟨(.int .i64), x.policy⟩, ⟨(.sl (.st 6)), x.ins⟩, ⟨(.sl (.st 6)), x.outs⟩, ⟨(.sl (.st 7)), x.rules⟩, ⟨(.sl .str), x.default⟩]
  | 6, (x : Column) => [⟨.str, x.text⟩, ⟨.str, x.item⟩, ⟨(.sl .str), x.values⟩]
  | 7, (x : Rule) => [⟨(.sl .str), x.tests⟩, ⟨(.sl .str), x.says⟩]
  | _, _ => []
def putU0 (y0 : D car) (y1 : D car) (y2 : D car) (y3 : D car) (y4 : D car) : Option Model :=
  match y0.as .str, y1.as .str, y2.as (.sl (.st 1)), y3.as (.sl (.st 3)), y4.as (.sl (.st 4)) with
  | some z0, some z1, some z2, some z3, some z4 => some (⟨z0, z1, z2, z3, z4⟩ : Model)
  | _, _, _, _, _ => none
def putU1 (y0 : D car) (y1 : D car) (y2 : D car) : Option Item :=
  match y0.as .str, y1.as (.st 2), y2.as .str with
  | some z0, some z1, some z2 => some (⟨z0, z1, z2⟩ : Item)
  | _, _, _ => none
def putU2 (y0 : D car) (y1 : D car) : Option Typ :=
  match y0.as (.int .i64), y1.as (.int .i64) with
  | some z0, some z1 => some (⟨z0, z1⟩ : Typ)
  | _, _ => none
def putU3 (y0 : D car) (y1 : D car) (y2 : D car) : Option Input :=
  match y0.as .str, y1.as .str, y2.as .str with
  | some z0, some z1, some z2 => some (⟨z0, z1, z2⟩ : Input)
  | _, _, _ => none
def putU4 (y0 : D car) (y1 : D car) (y2 : D car) (y3 : D car) (y4 : D car) (y5 : D car) : Option Decision :=
  match y0.as .str, y1.as .str, y2.as .str, y3.as (.sl .str), y4.as .str, y5.as (.st 5) with
  | some z0, some z1, some z2, some z3, some z4, some z5 => some (⟨z0, z1, z2, z3, z4, z5⟩ : Decision)
  | _, _, _, _, _, _ => none
def putU5 (y0 : D car) (y1 : D car) (y2 : D car) (y3 : D car) (y4 : D car) : Option Tabl :=
  match y0.as (.int .i64), y1.as (.sl (.st 6)), y2.as (.sl (.st 6)), y3.as (.sl (.st 7)), y4.as (.sl .str) with
  | some z0, some z1, some z2, some z3, some z4 => some (⟨z0, z1, z2, z3, z4⟩ : Tabl)
  | _, _, _, _, _ => none
def putU6 (y0 : D car) (y1 : D car) (y2 : D car) : Option Column :=
  match y0.as .str, y1.as .str, y2.as (.sl .str) with
  | some z0, some z1, some z2 => some (⟨z0, z1, z2⟩ : Column)
  | _, _, _ => none
def putU7 (y0 : D car) (y1 : D car) : Option Rule :=
  match y0.as (.sl .str), y1.as (.sl .str) with
  | some z0, some z1 => some (⟨z0, z1⟩ : Rule)
  | _, _ => none
def putU (id : Nat) (l : List (D car)) : Option (car id) :=
  match id, l with
  | 0, [y0, y1, y2, y3, y4] => putU0 y0 y1 y2 y3 y4
  | 1, [y0, y1, y2] => putU1 y0 y1 y2
  | 2, [y0, y1] => putU2 y0 y1
  | 3, [y0, y1, y2] => putU3 y0 y1 y2
  | 4, [y0, y1, y2, y3, y4, y5] => putU4 y0 y1 y2 y3 y4 y5
  | 5, [y0, y1, y2, y3, y4] => putU5 y0 y1 y2 y3 y4
  | 6, [y0, y1, y2] => putU6 y0 y1 y2
  | 7, [y0, y1] => putU7 y0 y1
  | _, _ => none
def zeroU (id : Nat) : Option (car id) :=
  match id with
  | 0 => some (⟨ByteArray.empty, ByteArray.empty, [], [], []⟩ : Model)
  | 1 => some (⟨ByteArray.empty, ⟨0, 0⟩, ByteArray.empty⟩ : Item)
  | 2 => some (⟨0, 0⟩ : Typ)
  | 3 => some (⟨ByteArray.empty, ByteArray.empty, ByteArray.empty⟩ : Input)
  | 4 => some (⟨ByteArray.empty, ByteArray.empty, ByteArray.empty, [], ByteArray.empty, ⟨0, [], [], [], []⟩⟩ : Decision)
  | 5 => some (⟨0, [], [], [], []⟩ : Tabl)
  | 6 => some (⟨ByteArray.empty, ByteArray.empty, []⟩ : Column)
  | 7 => some (⟨[], []⟩ : Rule)
  | _ => none
def U : Univ := ⟨car, tys, get, putU, zeroU⟩
def tyL : List (Nat × Ty) := [(3, (.int .i64)), (9, .str), (22, (.sl (.st 1))), (23, (.sl (.st 3))), (24, (.sl (.st 4))), (26, (.st 0)), (29, (.st 2)), (30, (.int .i64)), (48, (.st 1)), (51, (.st 3)), (52, (.sl .str)), (53, (.sl (.st 6))), (54, (.sl (.st 7))), (56, (.st 5)), (58, (.st 4)), (76, (.arr 2 (.sl (.st 6)))), (78, (.st 6)), (80, (.st 7)), (128, (.arr 5 .str))]
def tyOf (t : TypeId) : Option Ty := lk tyL t
def bytesL : List (Nat × Nat) := [(22, 48), (23, 48), (24, 192), (52, 16), (53, 56), (54, 48)]
def bytesOf (t : TypeId) : Option Nat := lk bytesL t
theorem ulaw.tys : ∀ id (x : U.car id), (U.get id x).map D.t = U.tys id
  | 0, _ => rfl
  | 1, _ => rfl
  | 2, _ => rfl
  | 3, _ => rfl
  | 4, _ => rfl
  | 5, _ => rfl
  | 6, _ => rfl
  | 7, _ => rfl
  | _ + 8, _ => rfl
theorem ulaw.put0 (ds : List U.D) (x : U.car 0) (h : U.put 0 ds = some x) : U.get 0 x = ds := by
  rcases ds with _ | ⟨y0, _ | ⟨y1, _ | ⟨y2, _ | ⟨y3, _ | ⟨y4, _ | ⟨w, ws⟩⟩⟩⟩⟩⟩
  · cases (show (none : Option Model) = some x from h)
  · cases (show (none : Option Model) = some x from h)
  · cases (show (none : Option Model) = some x from h)
  · cases (show (none : Option Model) = some x from h)
  · cases (show (none : Option Model) = some x from h)
  · replace h : putU0 y0 y1 y2 y3 y4 = some x := h
    unfold putU0 at h
    split at h
    · rename_i e0 e1 e2 e3 e4
      cases h
      rw [as_ok e0, as_ok e1, as_ok e2, as_ok e3, as_ok e4]
      rfl
    · cases h
  · cases (show (none : Option Model) = some x from h)
theorem ulaw.put1 (ds : List U.D) (x : U.car 1) (h : U.put 1 ds = some x) : U.get 1 x = ds := by
  rcases ds with _ | ⟨y0, _ | ⟨y1, _ | ⟨y2, _ | ⟨w, ws⟩⟩⟩⟩
  · cases (show (none : Option Item) = some x from h)
  · cases (show (none : Option Item) = some x from h)
  · cases (show (none : Option Item) = some x from h)
  · replace h : putU1 y0 y1 y2 = some x := h
    unfold putU1 at h
    split at h
    · rename_i e0 e1 e2
      cases h
      rw [as_ok e0, as_ok e1, as_ok e2]
      rfl
    · cases h
  · cases (show (none : Option Item) = some x from h)
theorem ulaw.put2 (ds : List U.D) (x : U.car 2) (h : U.put 2 ds = some x) : U.get 2 x = ds := by
  rcases ds with _ | ⟨y0, _ | ⟨y1, _ | ⟨w, ws⟩⟩⟩
  · cases (show (none : Option Typ) = some x from h)
  · cases (show (none : Option Typ) = some x from h)
  · replace h : putU2 y0 y1 = some x := h
    unfold putU2 at h
    split at h
    · rename_i e0 e1
      cases h
      rw [as_ok e0, as_ok e1]
      rfl
    · cases h
  · cases (show (none : Option Typ) = some x from h)
theorem ulaw.put3 (ds : List U.D) (x : U.car 3) (h : U.put 3 ds = some x) : U.get 3 x = ds := by
  rcases ds with _ | ⟨y0, _ | ⟨y1, _ | ⟨y2, _ | ⟨w, ws⟩⟩⟩⟩
  · cases (show (none : Option Input) = some x from h)
  · cases (show (none : Option Input) = some x from h)
  · cases (show (none : Option Input) = some x from h)
  · replace h : putU3 y0 y1 y2 = some x := h
    unfold putU3 at h
    split at h
    · rename_i e0 e1 e2
      cases h
      rw [as_ok e0, as_ok e1, as_ok e2]
      rfl
    · cases h
  · cases (show (none : Option Input) = some x from h)
theorem ulaw.put4 (ds : List U.D) (x : U.car 4) (h : U.put 4 ds = some x) : U.get 4 x = ds := by
  rcases ds with _ | ⟨y0, _ | ⟨y1, _ | ⟨y2, _ | ⟨y3, _ | ⟨y4, _ | ⟨y5, _ | ⟨w, ws⟩⟩⟩⟩⟩⟩⟩
  · cases (show (none : Option Decision) = some x from h)
  · cases (show (none : Option Decision) = some x from h)
  · cases (show (none : Option Decision) = some x from h)
  · cases (show (none : Option Decision) = some x from h)
  · cases (show (none : Option Decision) = some x from h)
  · cases (show (none : Option Decision) = some x from h)
  · replace h : putU4 y0 y1 y2 y3 y4 y5 = some x := h
    unfold putU4 at h
    split at h
    · rename_i e0 e1 e2 e3 e4 e5
      cases h
      rw [as_ok e0, as_ok e1, as_ok e2, as_ok e3, as_ok e4, as_ok e5]
      rfl
    · cases h
  · cases (show (none : Option Decision) = some x from h)
theorem ulaw.put5 (ds : List U.D) (x : U.car 5) (h : U.put 5 ds = some x) : U.get 5 x = ds := by
  rcases ds with _ | ⟨y0, _ | ⟨y1, _ | ⟨y2, _ | ⟨y3, _ | ⟨y4, _ | ⟨w, ws⟩⟩⟩⟩⟩⟩
  · cases (show (none : Option Tabl) = some x from h)
  · cases (show (none : Option Tabl) = some x from h)
  · cases (show (none : Option Tabl) = some x from h)
  · cases (show (none : Option Tabl) = some x from h)
  · cases (show (none : Option Tabl) = some x from h)
  · replace h : putU5 y0 y1 y2 y3 y4 = some x := h
    unfold putU5 at h
    split at h
    · rename_i e0 e1 e2 e3 e4
      cases h
      rw [as_ok e0, as_ok e1, as_ok e2, as_ok e3, as_ok e4]
      rfl
    · cases h
  · cases (show (none : Option Tabl) = some x from h)
theorem ulaw.put6 (ds : List U.D) (x : U.car 6) (h : U.put 6 ds = some x) : U.get 6 x = ds := by
  rcases ds with _ | ⟨y0, _ | ⟨y1, _ | ⟨y2, _ | ⟨w, ws⟩⟩⟩⟩
  · cases (show (none : Option Column) = some x from h)
  · cases (show (none : Option Column) = some x from h)
  · cases (show (none : Option Column) = some x from h)
  · replace h : putU6 y0 y1 y2 = some x := h
    unfold putU6 at h
    split at h
    · rename_i e0 e1 e2
      cases h
      rw [as_ok e0, as_ok e1, as_ok e2]
      rfl
    · cases h
  · cases (show (none : Option Column) = some x from h)
theorem ulaw.put7 (ds : List U.D) (x : U.car 7) (h : U.put 7 ds = some x) : U.get 7 x = ds := by
  rcases ds with _ | ⟨y0, _ | ⟨y1, _ | ⟨w, ws⟩⟩⟩
  · cases (show (none : Option Rule) = some x from h)
  · cases (show (none : Option Rule) = some x from h)
  · replace h : putU7 y0 y1 = some x := h
    unfold putU7 at h
    split at h
    · rename_i e0 e1
      cases h
      rw [as_ok e0, as_ok e1]
      rfl
    · cases h
  · cases (show (none : Option Rule) = some x from h)
theorem ulaw.put : ∀ id (ds : List U.D) (x : U.car id), U.put id ds = some x → U.get id x = ds
  | 0, ds, x, h => ulaw.put0 ds x h
  | 1, ds, x, h => ulaw.put1 ds x h
  | 2, ds, x, h => ulaw.put2 ds x h
  | 3, ds, x, h => ulaw.put3 ds x h
  | 4, ds, x, h => ulaw.put4 ds x h
  | 5, ds, x, h => ulaw.put5 ds x h
  | 6, ds, x, h => ulaw.put6 ds x h
  | 7, ds, x, h => ulaw.put7 ds x h
  | _ + 8, _, _, h => nomatch (show none = some _ from h)
theorem ulaw.zero : ∀ id (x : U.car id), U.zero id = some x → ZAll U (U.get id x)
  | 0, _, h => by
    cases h
    exact zall_cons deep rfl (zall_cons deep rfl (zall_cons deep rfl (zall_cons deep rfl (zall_cons deep rfl (zall_nil)))))
  | 1, _, h => by
    cases h
    exact zall_cons deep rfl (zall_cons deep rfl (zall_cons deep rfl (zall_nil)))
  | 2, _, h => by
    cases h
    exact zall_cons deep rfl (zall_cons deep rfl (zall_nil))
  | 3, _, h => by
    cases h
    exact zall_cons deep rfl (zall_cons deep rfl (zall_cons deep rfl (zall_nil)))
  | 4, _, h => by
    cases h
    exact zall_cons deep rfl (zall_cons deep rfl (zall_cons deep rfl (zall_cons deep rfl (zall_cons deep rfl (zall_cons deep rfl (zall_nil))))))
  | 5, _, h => by
    cases h
    exact zall_cons deep rfl (zall_cons deep rfl (zall_cons deep rfl (zall_cons deep rfl (zall_cons deep rfl (zall_nil)))))
  | 6, _, h => by
    cases h
    exact zall_cons deep rfl (zall_cons deep rfl (zall_cons deep rfl (zall_nil)))
  | 7, _, h => by
    cases h
    exact zall_cons deep rfl (zall_cons deep rfl (zall_nil))
  | _ + 8, _, h => nomatch (show none = some _ from h)
theorem ulaw : ULaw U := ⟨ulaw.tys, ulaw.put, ulaw.zero, ulaw_size (n := deep) (m := 8) (by kernel_rfl) fun id h => by
  obtain ⟨j, rfl⟩ := Nat.exists_eq_add_of_le' h
  rfl⟩
theorem tyL.ok : tyL.all (fun p => tyChk Tryz.prog U p.1 p.2) = true := by kernel_rfl
theorem bytesL.ok : bytesL.all (fun p => bytesChk Tryz.prog p.1 p.2) = true := by kernel_rfl
theorem gok {c1 : FuncId → List (Arg U) → Option (PRes U)} {c2 : FuncId → List (Arg U) → Option (PRes2 U)} {c3 : Nat → Bool} : GOk Tryz.prog U ⟨tyOf, bytesOf, c1, c2, c3⟩ := gOk tyL.ok bytesL.ok rfl rfl
abbrev Lay : (Nat → Prop) → World → Prop := fun _ _ => True
theorem hLay : LMono Lay := fun _ _ _ _ _ h => h
end Go.EvT
end
section
namespace Go.EvT
open Go Go.Ev
theorem frm_below {E : Env} {gh : Gh} {w : World} (h : Frm E gh E.w) (hB : Go.RowKit.Below E.w.heap.size E.w w) : Frm E gh w := by
  refine ⟨fun bn => ?_, h.fresh, h.ffresh, h.old, hB.size, fun bn h1 _ => hB.block bn h1, hB.os, hB.tape, hB.output⟩
  rcases h.bound bn with h | h
  · exact .inl h
  · exact .inr (Nat.lt_of_lt_of_le h hB.size)
def known : Option Bool := some true
def known.P : List PM := []
def known.S : Sig := ⟨[.d .bool], []⟩
def known.u (v : Unit) : Option Bool := known
theorem known.call : FnC Go.Proofs.Tryz.prog U Lay 4 known.P known.S known.u := by
  intro v y h
  cases h
  intro E gh args hE _
  have hh := hE.hand
  cases hh
  unfold Invokes
  rw [run_callFunc Go.Proofs.Tryz.func4 (by kernel_rfl) (by kernel_rfl)]
  refine (Go.EvK.known_calls E.w).mono fun e w' he => ?_
  cases e with
  | returned u =>
    obtain ⟨rfl, φ, hp, H⟩ := he
    have hB : Go.RowKit.Below E.w.heap.size E.w w' := ⟨H.os, H.tape, H.output, H.size, fun k hk => H.old k hk⟩
    exact ⟨gh, [.bool true], frm_below hE.frm hB, .nil, .cons (.d ⟨_, .bool, rfl⟩) .nil, rfl⟩
  | panicked c => exact he.elim
  | outgrown => exact he.elim
end Go.EvT
end
section
set_option maxRecDepth 100000
namespace Go.EvT
open Go.Proofs Go.Ev
def tariffref08_names.S : Sig := ⟨[.d .str], []⟩
def tariffref08_names.P : List PM := [.d (.int .i64)]
def tariffref08_of.S : Sig := ⟨[.d (.st 2)], []⟩
def tariffref08_of.P : List PM := [.d (.int .i64)]
def tariffref08_DocParse.S : Sig := ⟨[.d (.st 2), .d (.int .i64)], []⟩
def tariffref08_DocParse.P : List PM := [.d .str]
def tariffref17_Type.S : Sig := ⟨[.d (.st 2), .d .str, .d .bool], []⟩
def tariffref17_Type.P : List PM := [.d (.st 0), .d .str]
def tariffref17_DocType.S : Sig := ⟨[.d (.st 2), .d .str, .d (.int .i64)], []⟩
def tariffref17_DocType.P : List PM := [.d (.st 0), .d .str]
def stringslite_HasPrefix.S : Sig := ⟨[.d .bool], []⟩
def stringslite_HasPrefix.P : List PM := [.d .str, .d .str]
def stringslite_CutPrefix.S : Sig := ⟨[.d .str, .d .bool], []⟩
def stringslite_CutPrefix.P : List PM := [.d .str, .d .str]
def strings_CutPrefix.S : Sig := ⟨[.d .str, .d .bool], []⟩
def strings_CutPrefix.P : List PM := [.d .str, .d .str]
def stringslite_HasSuffix.S : Sig := ⟨[.d .bool], []⟩
def stringslite_HasSuffix.P : List PM := [.d .str, .d .str]
def stringslite_CutSuffix.S : Sig := ⟨[.d .str, .d .bool], []⟩
def stringslite_CutSuffix.P : List PM := [.d .str, .d .str]
def strings_CutSuffix.S : Sig := ⟨[.d .str, .d .bool], []⟩
def strings_CutSuffix.P : List PM := [.d .str, .d .str]
def kind_simple.S : Sig := ⟨[.d .str], []⟩
def kind_simple.P : List PM := [.d (.int .i64)]
def kind_Parse.S : Sig := ⟨[.d (.st 2), .d (.int .i64)], []⟩
def kind_Parse.P : List PM := [.d .str]
def model_Type.S : Sig := ⟨[.d (.st 2), .d .str, .d (.int .i64)], []⟩
def model_Type.P : List PM := [.d (.st 0), .d .str]
def model_weigh.S : Sig := ⟨[.d (.int .i64)], []⟩
def model_weigh.P : List PM := [.d (.sl .str)]
def model_weighTable.S : Sig := ⟨[.d (.int .i64)], []⟩
def model_weighTable.P : List PM := [.d (.st 5)]
def model_Weight.S : Sig := ⟨[.d (.int .i64)], []⟩
def model_Weight.P : List PM := [.d (.st 0)]
def tariffref17_tableTexts.S : Sig := ⟨[.d (.sl .str)], []⟩
def tariffref17_tableTexts.P : List PM := [.d (.st 5)]
def tariffref17_texts.S : Sig := ⟨[.d (.sl .str)], []⟩
def tariffref17_texts.P : List PM := [.d (.st 0)]
def tariffref17_Weight.S : Sig := ⟨[.d (.int .i64)], []⟩
def tariffref17_Weight.P : List PM := [.d (.st 0)]
def tarifflaw17_ModelTypes.S : Sig := ⟨[.d .bool], []⟩
def tarifflaw17_ModelTypes.P : List PM := [.d (.st 0), .d .str]
def tariffref08_names : Nat → Int → Option (ByteArray)
 | 0, _ => none
 | k + 1, a0 =>
 if (a0 == (0 : Int)) = true then
 some (ByteArray.mk #[97, 110, 121])
 else
 if (a0 == (1 : Int)) = true then
 some (ByteArray.mk #[98, 111, 111, 108, 101, 97, 110])
 else
 if (a0 == (2 : Int)) = true then
 some (ByteArray.mk #[110, 117, 109, 98, 101, 114])
 else
 if (a0 == (3 : Int)) = true then
 some (ByteArray.mk #[115, 116, 114, 105, 110, 103])
 else
 if (a0 == (4 : Int)) = true then
 some (ByteArray.mk #[100, 97, 116, 101])
 else
 ((tariffref08_names k) (IntKind.wrap .i64 (a0 - (5 : Int)))).bind fun r1 =>
 if room ((ByteArray.mk #[108, 105, 115, 116, 60]).size + r1.size) then
 if room (((ByteArray.mk #[108, 105, 115, 116, 60]) ++ r1).size + (ByteArray.mk #[62]).size) then
 some (((ByteArray.mk #[108, 105, 115, 116, 60]) ++ r1) ++ (ByteArray.mk #[62]))
 else none
 else none
def tariffref08_names.u (k : Nat) (v : Int) : Option (ByteArray) := tariffref08_names k v
def tariffref08_names.G (k : Nat) : Ctx U := ⟨tyOf, bytesOf, fun f xs => if f == 67 then entry tariffref08_names.P tariffref08_names.S (tariffref08_names.u k) xs else none, fun f xs => none, fun d => false⟩
def tariffref08_names.H (k : Nat) : Hint U := ⟨[], fun i => none, fun i => none, fun i => none⟩
theorem tariffref08_names.ev (k : Nat) (v : Int) : evFn (tariffref08_names.G k) (tariffref08_names.H k) tariffref08_names.S Tryz.f67 (encA tariffref08_names.P v) = tariffref08_names.u (k + 1) v := by kernel_rfl
theorem tariffref08_names.fns : Fns Tryz.prog 67 Tryz.f67 tariffref08_names.P := ⟨Tryz.func67, by kernel_rfl⟩
theorem tariffref08_names.loops (k : Nat) : LoopsOk (tariffref08_names.G k) (tariffref08_names.H k) (bodyOf Tryz.f67) 1 := loops_of (ps := []) (by kernel_rfl) trivial
theorem tariffref08_names.call : ∀ (k : Nat), FnC Tryz.prog U Lay 67 tariffref08_names.P tariffref08_names.S (tariffref08_names.u k)
  | 0 => fun _ _ h => nomatch (show none = some _ from h)
  | k + 1 => fnC hLay ulaw gok (fun f xs => (.ite (.entry (tariffref08_names.call k)) (CallC.none) : CallC Tryz.prog U Lay _ f xs)) (fun f xs => (CallC2.none : CallC2 Tryz.prog U Lay _ f xs)) tariffref08_names.fns (tariffref08_names.loops k) (tariffref08_names.ev k)
def tariffref08_of (a0 : Int) : Option (Typ) :=
 if (decide (a0 < (5 : Int))) = true then
 some (⟨a0, (0 : Int)⟩ : Typ)
 else
 some (⟨(5 : Int), (IntKind.wrap .i64 (a0 - (5 : Int)))⟩ : Typ)
def tariffref08_of.u (v : Int) : Option (Typ) := tariffref08_of v
def tariffref08_of.G : Ctx U := ⟨tyOf, bytesOf, fun f xs => none, fun f xs => none, fun d => false⟩
def tariffref08_of.H : Hint U := ⟨[], fun i => none, fun i => none, fun i => none⟩
theorem tariffref08_of.ev (v : Int) : evFn (tariffref08_of.G) (tariffref08_of.H) tariffref08_of.S Tryz.f68 (encA tariffref08_of.P v) = tariffref08_of.u v := by kernel_rfl
theorem tariffref08_of.fns : Fns Tryz.prog 68 Tryz.f68 tariffref08_of.P := ⟨Tryz.func68, by kernel_rfl⟩
theorem tariffref08_of.loops : LoopsOk (tariffref08_of.G) (tariffref08_of.H) (bodyOf Tryz.f68) 1 := loops_of (ps := []) (by kernel_rfl) trivial
theorem tariffref08_of.call : FnC Tryz.prog U Lay 68 tariffref08_of.P tariffref08_of.S (tariffref08_of.u) := fnC hLay ulaw gok (fun f xs => (CallC.none : CallC Tryz.prog U Lay _ f xs)) (fun f xs => (CallC2.none : CallC2 Tryz.prog U Lay _ f xs)) tariffref08_of.fns (tariffref08_of.loops) (tariffref08_of.ev)
def tariffref08_DocParse.l2 (k : Nat) (v0 : ByteArray) (b2 : Typ) : Nat → Int → Option (Fl (Typ) (Int × Typ))
 | 0, _ => none
 | n + 1, v4 =>
 if (decide (v4 < (10 : Int))) = true then
 (tariffref08_names k v4).bind fun r1 =>
 if (r1.data.toList == v0.data.toList) = true then
 (tariffref08_of v4).bind fun r2 =>
 some (Fl.ret ((0 : Int), r2))
 else
 tariffref08_DocParse.l2 k v0 b2 n (IntKind.wrap .i64 (v4 + (1 : Int)))
 else
 some (Fl.go b2)
def tariffref08_DocParse (k : Nat) (a0 : ByteArray) : Option (Typ × Int) :=
 (tariffref08_DocParse.l2 k a0 (⟨(0 : Int), (0 : Int)⟩ : Typ) k (0 : Int)).bind fun o => (match o with
 | .go x3 =>
 some ((⟨(0 : Int), (0 : Int)⟩ : Typ), (8 : Int))
 | .ret x4 =>
 some (x4.2, x4.1))
def tariffref08_DocParse.u (k : Nat) (v : ByteArray) : Option (Typ × Int) := tariffref08_DocParse k v
def tariffref08_DocParse.G (k : Nat) : Ctx U := ⟨tyOf, bytesOf, fun f xs => if f == 67 then entry tariffref08_names.P tariffref08_names.S (tariffref08_names.u k) xs else if f == 68 then entry tariffref08_of.P tariffref08_of.S (tariffref08_of.u) xs else none, fun f xs => none, fun d => false⟩
def tariffref08_DocParse.l2.L (k : Nat) : ELoopR U := ⟨[.slot 0 .str, .ptr 2 2 [] (.st 2), .slot 4 (.int .i64), .box 2 (.st 2) []], 0, [.ptr 2 2 [] (.st 2), .box 2 (.st 2) []], [.ptr 2 2 [] (.st 2), .slot 3 (.int .i64), .box 2 (.st 2) []], fun (v : ByteArray × Int × Typ) => tariffref08_DocParse.l2 k v.1 v.2.2 k v.2.1⟩
def tariffref08_DocParse.H (k : Nat) : Hint U := ⟨[], fun i => none, fun i => if i == 26 then some (tariffref08_DocParse.l2.L k) else none, fun i => none⟩
theorem tariffref08_DocParse.l2.ok (k n : Nat) (v : Vars U (tariffref08_DocParse.l2.L k).ks) : loopRT (tariffref08_DocParse.G k) (tariffref08_DocParse.H k) (pick [true, false, true, false, false] (bodyOf Tryz.f31)) 26 (tariffref08_DocParse.l2.L k) n v = (fun (v : ByteArray × Int × Typ) => tariffref08_DocParse.l2 k v.1 v.2.2 n v.2.1) v :=
  loopRT_eq (tariffref08_DocParse.G k) (tariffref08_DocParse.H k) _ _ (tariffref08_DocParse.l2.L k) (fun n (v : ByteArray × Int × Typ) => tariffref08_DocParse.l2 k v.1 v.2.2 n v.2.1) (fun _ => rfl) (fun n v => by kernel_rfl) n v
theorem tariffref08_DocParse.ev (k : Nat) (v : ByteArray) : evFn (tariffref08_DocParse.G k) (tariffref08_DocParse.H k) tariffref08_DocParse.S Tryz.f31 (encA tariffref08_DocParse.P v) = tariffref08_DocParse.u k v := by kernel_rfl
theorem tariffref08_DocParse.fns : Fns Tryz.prog 31 Tryz.f31 tariffref08_DocParse.P := ⟨Tryz.func31, by kernel_rfl⟩
theorem tariffref08_DocParse.loops (k : Nat) : LoopsOk (tariffref08_DocParse.G k) (tariffref08_DocParse.H k) (bodyOf Tryz.f31) 1 := loops_of (ps := [(26, pick [true, false, true, false, false] (bodyOf Tryz.f31))]) (by kernel_rfl) ⟨loopR_ok rfl rfl fun v x hx => ⟨k, (tariffref08_DocParse.l2.ok k k v).trans hx⟩, trivial⟩
theorem tariffref08_DocParse.call (k : Nat) : FnC Tryz.prog U Lay 31 tariffref08_DocParse.P tariffref08_DocParse.S (tariffref08_DocParse.u k) := fnC hLay ulaw gok (fun f xs => (.ite (.entry (tariffref08_names.call k)) (.ite (.entry (tariffref08_of.call)) (CallC.none)) : CallC Tryz.prog U Lay _ f xs)) (fun f xs => (CallC2.none : CallC2 Tryz.prog U Lay _ f xs)) tariffref08_DocParse.fns (tariffref08_DocParse.loops k) (tariffref08_DocParse.ev k)
def tariffref17_Type.l7 (k : Nat) (v1 : ByteArray) (b2 : Model) (b4 : Typ) : Nat → Int → Option (Fl (Typ) (ByteArray × Bool × Typ))
 | 0, _ => none
 | n + 1, v9 =>
 if (decide (v9 < (b2.items.length : Int))) = true then
 (idx b2.items v9).bind fun e2 =>
 if (e2.name.data.toList == v1.data.toList) = true then
 (idx b2.items v9).bind fun e3 =>
 (idx b2.items v9).bind fun e4 =>
 some (Fl.ret (e4.allowed, true, e3.type_))
 else
 tariffref17_Type.l7 k v1 b2 b4 n (IntKind.wrap .i64 (v9 + (1 : Int)))
 else
 some (Fl.go b4)
def tariffref17_Type (k : Nat) (a0 : Model) (a1 : ByteArray) : Option (Typ × ByteArray × Bool) :=
 if (a1.data.toList == (ByteArray.mk #[]).data.toList) = true then
 some ((⟨(0 : Int), (0 : Int)⟩ : Typ), (ByteArray.mk #[]), true)
 else
 (tariffref08_DocParse k a1).bind fun r1 =>
 if (r1.2 == (0 : Int)) = true then
 some (r1.1, (ByteArray.mk #[]), true)
 else
 (tariffref17_Type.l7 k a1 a0 (⟨(0 : Int), (0 : Int)⟩ : Typ) k (0 : Int)).bind fun o => (match o with
 | .go x5 =>
 some ((⟨(0 : Int), (0 : Int)⟩ : Typ), (ByteArray.mk #[]), false)
 | .ret x6 =>
 some (x6.2.2, x6.1, x6.2.1))
def tariffref17_Type.u (k : Nat) (v : Model × ByteArray) : Option (Typ × ByteArray × Bool) := tariffref17_Type k v.1 v.2
def tariffref17_Type.G (k : Nat) : Ctx U := ⟨tyOf, bytesOf, fun f xs => if f == 31 then entry tariffref08_DocParse.P tariffref08_DocParse.S (tariffref08_DocParse.u k) xs else none, fun f xs => none, fun d => false⟩
def tariffref17_Type.l7.L (k : Nat) : ELoopR U := ⟨[.slot 1 .str, .ptr 2 2 [] (.st 0), .ptr 4 4 [] (.st 2), .slot 9 (.int .i64), .box 2 (.st 0) [], .box 4 (.st 2) []], 0, [.ptr 4 4 [] (.st 2), .box 4 (.st 2) []], [.ptr 4 4 [] (.st 2), .slot 5 .str, .slot 6 .bool, .box 4 (.st 2) []], fun (v : ByteArray × Int × Model × Typ) => tariffref17_Type.l7 k v.1 v.2.2.1 v.2.2.2 k v.2.1⟩
def tariffref17_Type.H (k : Nat) : Hint U := ⟨[], fun i => none, fun i => if i == 250 then some (tariffref17_Type.l7.L k) else none, fun i => none⟩
theorem tariffref17_Type.l7.ok (k n : Nat) (v : Vars U (tariffref17_Type.l7.L k).ks) : loopRT (tariffref17_Type.G k) (tariffref17_Type.H k) (pick [true, true, true, true, false, true, false, false] (bodyOf Tryz.f13)) 250 (tariffref17_Type.l7.L k) n v = (fun (v : ByteArray × Int × Model × Typ) => tariffref17_Type.l7 k v.1 v.2.2.1 v.2.2.2 n v.2.1) v :=
  loopRT_eq (tariffref17_Type.G k) (tariffref17_Type.H k) _ _ (tariffref17_Type.l7.L k) (fun n (v : ByteArray × Int × Model × Typ) => tariffref17_Type.l7 k v.1 v.2.2.1 v.2.2.2 n v.2.1) (fun _ => rfl) (fun n v => by kernel_rfl) n v
theorem tariffref17_Type.ev (k : Nat) (v : Model × ByteArray) : evFn (tariffref17_Type.G k) (tariffref17_Type.H k) tariffref17_Type.S Tryz.f13 (encA tariffref17_Type.P v) = tariffref17_Type.u k v := by kernel_rfl
theorem tariffref17_Type.fns : Fns Tryz.prog 13 Tryz.f13 tariffref17_Type.P := ⟨Tryz.func13, by kernel_rfl⟩
theorem tariffref17_Type.loops (k : Nat) : LoopsOk (tariffref17_Type.G k) (tariffref17_Type.H k) (bodyOf Tryz.f13) 1 := loops_of (ps := [(250, pick [true, true, true, true, false, true, false, false] (bodyOf Tryz.f13))]) (by kernel_rfl) ⟨loopR_ok rfl rfl fun v x hx => ⟨k, (tariffref17_Type.l7.ok k k v).trans hx⟩, trivial⟩
theorem tariffref17_Type.call (k : Nat) : FnC Tryz.prog U Lay 13 tariffref17_Type.P tariffref17_Type.S (tariffref17_Type.u k) := fnC hLay ulaw gok (fun f xs => (.ite (.entry (tariffref08_DocParse.call k)) (CallC.none) : CallC Tryz.prog U Lay _ f xs)) (fun f xs => (CallC2.none : CallC2 Tryz.prog U Lay _ f xs)) tariffref17_Type.fns (tariffref17_Type.loops k) (tariffref17_Type.ev k)
def tariffref17_DocType (k : Nat) (a0 : Model) (a1 : ByteArray) : Option (Typ × ByteArray × Int) :=
 (tariffref17_Type k a0 a1).bind fun r1 =>
 if (!r1.2.2) = true then
 some ((⟨(0 : Int), (0 : Int)⟩ : Typ), (ByteArray.mk #[]), (8 : Int))
 else
 some (r1.1, r1.2.1, (0 : Int))
def tariffref17_DocType.u (k : Nat) (v : Model × ByteArray) : Option (Typ × ByteArray × Int) := tariffref17_DocType k v.1 v.2
def tariffref17_DocType.G (k : Nat) : Ctx U := ⟨tyOf, bytesOf, fun f xs => if f == 13 then entry tariffref17_Type.P tariffref17_Type.S (tariffref17_Type.u k) xs else none, fun f xs => none, fun d => false⟩
def tariffref17_DocType.H (k : Nat) : Hint U := ⟨[], fun i => none, fun i => none, fun i => none⟩
theorem tariffref17_DocType.ev (k : Nat) (v : Model × ByteArray) : evFn (tariffref17_DocType.G k) (tariffref17_DocType.H k) tariffref17_DocType.S Tryz.f5 (encA tariffref17_DocType.P v) = tariffref17_DocType.u k v := by kernel_rfl
theorem tariffref17_DocType.fns : Fns Tryz.prog 5 Tryz.f5 tariffref17_DocType.P := ⟨Tryz.func5, by kernel_rfl⟩
theorem tariffref17_DocType.loops (k : Nat) : LoopsOk (tariffref17_DocType.G k) (tariffref17_DocType.H k) (bodyOf Tryz.f5) 1 := loops_of (ps := []) (by kernel_rfl) trivial
theorem tariffref17_DocType.call (k : Nat) : FnC Tryz.prog U Lay 5 tariffref17_DocType.P tariffref17_DocType.S (tariffref17_DocType.u k) := fnC hLay ulaw gok (fun f xs => (.ite (.entry (tariffref17_Type.call k)) (CallC.none) : CallC Tryz.prog U Lay _ f xs)) (fun f xs => (CallC2.none : CallC2 Tryz.prog U Lay _ f xs)) tariffref17_DocType.fns (tariffref17_DocType.loops k) (tariffref17_DocType.ev k)
def stringslite_HasPrefix (a0 : ByteArray) (a1 : ByteArray) : Option (Bool) :=
 ((if (decide ((a0.size : Int) ≥ (a1.size : Int))) = true then
 if 0 ≤ (0 : Int) ∧ (0 : Int) ≤ (a1.size : Int) ∧ (a1.size : Int) ≤ (a0.size : Int) then
 some ((a0.extract ((0 : Int)).toNat ((a1.size : Int)).toNat).data.toList == a1.data.toList)
 else none
 else some false) : Option Bool).bind fun b1 =>
 some b1
def stringslite_HasPrefix.u (v : ByteArray × ByteArray) : Option (Bool) := stringslite_HasPrefix v.1 v.2
def stringslite_HasPrefix.G : Ctx U := ⟨tyOf, bytesOf, fun f xs => none, fun f xs => none, fun d => false⟩
def stringslite_HasPrefix.H : Hint U := ⟨[], fun i => none, fun i => none, fun i => none⟩
theorem stringslite_HasPrefix.ev (v : ByteArray × ByteArray) : evFn (stringslite_HasPrefix.G) (stringslite_HasPrefix.H) stringslite_HasPrefix.S Tryz.f100 (encA stringslite_HasPrefix.P v) = stringslite_HasPrefix.u v := by kernel_rfl
theorem stringslite_HasPrefix.fns : Fns Tryz.prog 100 Tryz.f100 stringslite_HasPrefix.P := ⟨Tryz.func100, by kernel_rfl⟩
theorem stringslite_HasPrefix.loops : LoopsOk (stringslite_HasPrefix.G) (stringslite_HasPrefix.H) (bodyOf Tryz.f100) 1 := loops_of (ps := []) (by kernel_rfl) trivial
theorem stringslite_HasPrefix.call : FnC Tryz.prog U Lay 100 stringslite_HasPrefix.P stringslite_HasPrefix.S (stringslite_HasPrefix.u) := fnC hLay ulaw gok (fun f xs => (CallC.none : CallC Tryz.prog U Lay _ f xs)) (fun f xs => (CallC2.none : CallC2 Tryz.prog U Lay _ f xs)) stringslite_HasPrefix.fns (stringslite_HasPrefix.loops) (stringslite_HasPrefix.ev)
def stringslite_CutPrefix (a0 : ByteArray) (a1 : ByteArray) : Option (ByteArray × Bool) :=
 (stringslite_HasPrefix a0 a1).bind fun r1 =>
 if (!r1) = true then
 some (a0, false)
 else
 if 0 ≤ (a1.size : Int) ∧ (a1.size : Int) ≤ (a0.size : Int) ∧ (a0.size : Int) ≤ (a0.size : Int) then
 some ((a0.extract ((a1.size : Int)).toNat ((a0.size : Int)).toNat), true)
 else none
def stringslite_CutPrefix.u (v : ByteArray × ByteArray) : Option (ByteArray × Bool) := stringslite_CutPrefix v.1 v.2
def stringslite_CutPrefix.G : Ctx U := ⟨tyOf, bytesOf, fun f xs => if f == 100 then entry stringslite_HasPrefix.P stringslite_HasPrefix.S (stringslite_HasPrefix.u) xs else none, fun f xs => none, fun d => false⟩
def stringslite_CutPrefix.H : Hint U := ⟨[], fun i => none, fun i => none, fun i => none⟩
theorem stringslite_CutPrefix.ev (v : ByteArray × ByteArray) : evFn (stringslite_CutPrefix.G) (stringslite_CutPrefix.H) stringslite_CutPrefix.S Tryz.f69 (encA stringslite_CutPrefix.P v) = stringslite_CutPrefix.u v := by kernel_rfl
theorem stringslite_CutPrefix.fns : Fns Tryz.prog 69 Tryz.f69 stringslite_CutPrefix.P := ⟨Tryz.func69, by kernel_rfl⟩
theorem stringslite_CutPrefix.loops : LoopsOk (stringslite_CutPrefix.G) (stringslite_CutPrefix.H) (bodyOf Tryz.f69) 1 := loops_of (ps := []) (by kernel_rfl) trivial
theorem stringslite_CutPrefix.call : FnC Tryz.prog U Lay 69 stringslite_CutPrefix.P stringslite_CutPrefix.S (stringslite_CutPrefix.u) := fnC hLay ulaw gok (fun f xs => (.ite (.entry (stringslite_HasPrefix.call)) (CallC.none) : CallC Tryz.prog U Lay _ f xs)) (fun f xs => (CallC2.none : CallC2 Tryz.prog U Lay _ f xs)) stringslite_CutPrefix.fns (stringslite_CutPrefix.loops) (stringslite_CutPrefix.ev)
def strings_CutPrefix (a0 : ByteArray) (a1 : ByteArray) : Option (ByteArray × Bool) :=
 (stringslite_CutPrefix a0 a1).bind fun r1 =>
 some (r1.1, r1.2)
def strings_CutPrefix.u (v : ByteArray × ByteArray) : Option (ByteArray × Bool) := strings_CutPrefix v.1 v.2
def strings_CutPrefix.G : Ctx U := ⟨tyOf, bytesOf, fun f xs => if f == 69 then entry stringslite_CutPrefix.P stringslite_CutPrefix.S (stringslite_CutPrefix.u) xs else none, fun f xs => none, fun d => false⟩
def strings_CutPrefix.H : Hint U := ⟨[], fun i => none, fun i => none, fun i => none⟩
theorem strings_CutPrefix.ev (v : ByteArray × ByteArray) : evFn (strings_CutPrefix.G) (strings_CutPrefix.H) strings_CutPrefix.S Tryz.f32 (encA strings_CutPrefix.P v) = strings_CutPrefix.u v := by kernel_rfl
theorem strings_CutPrefix.fns : Fns Tryz.prog 32 Tryz.f32 strings_CutPrefix.P := ⟨Tryz.func32, by kernel_rfl⟩
theorem strings_CutPrefix.loops : LoopsOk (strings_CutPrefix.G) (strings_CutPrefix.H) (bodyOf Tryz.f32) 1 := loops_of (ps := []) (by kernel_rfl) trivial
theorem strings_CutPrefix.call : FnC Tryz.prog U Lay 32 strings_CutPrefix.P strings_CutPrefix.S (strings_CutPrefix.u) := fnC hLay ulaw gok (fun f xs => (.ite (.entry (stringslite_CutPrefix.call)) (CallC.none) : CallC Tryz.prog U Lay _ f xs)) (fun f xs => (CallC2.none : CallC2 Tryz.prog U Lay _ f xs)) strings_CutPrefix.fns (strings_CutPrefix.loops) (strings_CutPrefix.ev)
def stringslite_HasSuffix (a0 : ByteArray) (a1 : ByteArray) : Option (Bool) :=
 ((if (decide ((a0.size : Int) ≥ (a1.size : Int))) = true then
 if 0 ≤ (IntKind.wrap .i64 ((a0.size : Int) - (a1.size : Int))) ∧ (IntKind.wrap .i64 ((a0.size : Int) - (a1.size : Int))) ≤ (a0.size : Int) ∧ (a0.size : Int) ≤ (a0.size : Int) then
 some ((a0.extract ((IntKind.wrap .i64 ((a0.size : Int) - (a1.size : Int)))).toNat ((a0.size : Int)).toNat).data.toList == a1.data.toList)
 else none
 else some false) : Option Bool).bind fun b1 =>
 some b1
def stringslite_HasSuffix.u (v : ByteArray × ByteArray) : Option (Bool) := stringslite_HasSuffix v.1 v.2
def stringslite_HasSuffix.G : Ctx U := ⟨tyOf, bytesOf, fun f xs => none, fun f xs => none, fun d => false⟩
def stringslite_HasSuffix.H : Hint U := ⟨[], fun i => none, fun i => none, fun i => none⟩
theorem stringslite_HasSuffix.ev (v : ByteArray × ByteArray) : evFn (stringslite_HasSuffix.G) (stringslite_HasSuffix.H) stringslite_HasSuffix.S Tryz.f101 (encA stringslite_HasSuffix.P v) = stringslite_HasSuffix.u v := by kernel_rfl
theorem stringslite_HasSuffix.fns : Fns Tryz.prog 101 Tryz.f101 stringslite_HasSuffix.P := ⟨Tryz.func101, by kernel_rfl⟩
theorem stringslite_HasSuffix.loops : LoopsOk (stringslite_HasSuffix.G) (stringslite_HasSuffix.H) (bodyOf Tryz.f101) 1 := loops_of (ps := []) (by kernel_rfl) trivial
theorem stringslite_HasSuffix.call : FnC Tryz.prog U Lay 101 stringslite_HasSuffix.P stringslite_HasSuffix.S (stringslite_HasSuffix.u) := fnC hLay ulaw gok (fun f xs => (CallC.none : CallC Tryz.prog U Lay _ f xs)) (fun f xs => (CallC2.none : CallC2 Tryz.prog U Lay _ f xs)) stringslite_HasSuffix.fns (stringslite_HasSuffix.loops) (stringslite_HasSuffix.ev)
def stringslite_CutSuffix (a0 : ByteArray) (a1 : ByteArray) : Option (ByteArray × Bool) :=
 (stringslite_HasSuffix a0 a1).bind fun r1 =>
 if (!r1) = true then
 some (a0, false)
 else
 if 0 ≤ (0 : Int) ∧ (0 : Int) ≤ (IntKind.wrap .i64 ((a0.size : Int) - (a1.size : Int))) ∧ (IntKind.wrap .i64 ((a0.size : Int) - (a1.size : Int))) ≤ (a0.size : Int) then
 some ((a0.extract ((0 : Int)).toNat ((IntKind.wrap .i64 ((a0.size : Int) - (a1.size : Int)))).toNat), true)
 else none
def stringslite_CutSuffix.u (v : ByteArray × ByteArray) : Option (ByteArray × Bool) := stringslite_CutSuffix v.1 v.2
def stringslite_CutSuffix.G : Ctx U := ⟨tyOf, bytesOf, fun f xs => if f == 101 then entry stringslite_HasSuffix.P stringslite_HasSuffix.S (stringslite_HasSuffix.u) xs else none, fun f xs => none, fun d => false⟩
def stringslite_CutSuffix.H : Hint U := ⟨[], fun i => none, fun i => none, fun i => none⟩
theorem stringslite_CutSuffix.ev (v : ByteArray × ByteArray) : evFn (stringslite_CutSuffix.G) (stringslite_CutSuffix.H) stringslite_CutSuffix.S Tryz.f70 (encA stringslite_CutSuffix.P v) = stringslite_CutSuffix.u v := by kernel_rfl
theorem stringslite_CutSuffix.fns : Fns Tryz.prog 70 Tryz.f70 stringslite_CutSuffix.P := ⟨Tryz.func70, by kernel_rfl⟩
theorem stringslite_CutSuffix.loops : LoopsOk (stringslite_CutSuffix.G) (stringslite_CutSuffix.H) (bodyOf Tryz.f70) 1 := loops_of (ps := []) (by kernel_rfl) trivial
theorem stringslite_CutSuffix.call : FnC Tryz.prog U Lay 70 stringslite_CutSuffix.P stringslite_CutSuffix.S (stringslite_CutSuffix.u) := fnC hLay ulaw gok (fun f xs => (.ite (.entry (stringslite_HasSuffix.call)) (CallC.none) : CallC Tryz.prog U Lay _ f xs)) (fun f xs => (CallC2.none : CallC2 Tryz.prog U Lay _ f xs)) stringslite_CutSuffix.fns (stringslite_CutSuffix.loops) (stringslite_CutSuffix.ev)
def strings_CutSuffix (a0 : ByteArray) (a1 : ByteArray) : Option (ByteArray × Bool) :=
 (stringslite_CutSuffix a0 a1).bind fun r1 =>
 some (r1.1, r1.2)
def strings_CutSuffix.u (v : ByteArray × ByteArray) : Option (ByteArray × Bool) := strings_CutSuffix v.1 v.2
def strings_CutSuffix.G : Ctx U := ⟨tyOf, bytesOf, fun f xs => if f == 70 then entry stringslite_CutSuffix.P stringslite_CutSuffix.S (stringslite_CutSuffix.u) xs else none, fun f xs => none, fun d => false⟩
def strings_CutSuffix.H : Hint U := ⟨[], fun i => none, fun i => none, fun i => none⟩
theorem strings_CutSuffix.ev (v : ByteArray × ByteArray) : evFn (strings_CutSuffix.G) (strings_CutSuffix.H) strings_CutSuffix.S Tryz.f33 (encA strings_CutSuffix.P v) = strings_CutSuffix.u v := by kernel_rfl
theorem strings_CutSuffix.fns : Fns Tryz.prog 33 Tryz.f33 strings_CutSuffix.P := ⟨Tryz.func33, by kernel_rfl⟩
theorem strings_CutSuffix.loops : LoopsOk (strings_CutSuffix.G) (strings_CutSuffix.H) (bodyOf Tryz.f33) 1 := loops_of (ps := []) (by kernel_rfl) trivial
theorem strings_CutSuffix.call : FnC Tryz.prog U Lay 33 strings_CutSuffix.P strings_CutSuffix.S (strings_CutSuffix.u) := fnC hLay ulaw gok (fun f xs => (.ite (.entry (stringslite_CutSuffix.call)) (CallC.none) : CallC Tryz.prog U Lay _ f xs)) (fun f xs => (CallC2.none : CallC2 Tryz.prog U Lay _ f xs)) strings_CutSuffix.fns (strings_CutSuffix.loops) (strings_CutSuffix.ev)
def kind_simple (a0 : Int) : Option (ByteArray) :=
 (idx [(ByteArray.mk #[97, 110, 121]), (ByteArray.mk #[98, 111, 111, 108, 101, 97, 110]), (ByteArray.mk #[110, 117, 109, 98, 101, 114]), (ByteArray.mk #[115, 116, 114, 105, 110, 103]), (ByteArray.mk #[100, 97, 116, 101])] a0).bind fun e1 =>
 some e1
def kind_simple.u (v : Int) : Option (ByteArray) := kind_simple v
def kind_simple.G : Ctx U := ⟨tyOf, bytesOf, fun f xs => none, fun f xs => none, fun d => false⟩
def kind_simple.H : Hint U := ⟨[], fun i => none, fun i => none, fun i => none⟩
theorem kind_simple.ev (v : Int) : evFn (kind_simple.G) (kind_simple.H) kind_simple.S Tryz.f34 (encA kind_simple.P v) = kind_simple.u v := by kernel_rfl
theorem kind_simple.fns : Fns Tryz.prog 34 Tryz.f34 kind_simple.P := ⟨Tryz.func34, by kernel_rfl⟩
theorem kind_simple.loops : LoopsOk (kind_simple.G) (kind_simple.H) (bodyOf Tryz.f34) 1 := loops_of (ps := []) (by kernel_rfl) trivial
theorem kind_simple.call : FnC Tryz.prog U Lay 34 kind_simple.P kind_simple.S (kind_simple.u) := fnC hLay ulaw gok (fun f xs => (CallC.none : CallC Tryz.prog U Lay _ f xs)) (fun f xs => (CallC2.none : CallC2 Tryz.prog U Lay _ f xs)) kind_simple.fns (kind_simple.loops) (kind_simple.ev)
def kind_Parse.l8 (k : Nat) (v4 : ByteArray) (v5 : Bool) (b2 : Typ) : Nat → Int → Option (Fl (Typ) (Int × Typ))
 | 0, _ => none
 | n + 1, v22 =>
 if (decide (v22 < (5 : Int))) = true then
 (kind_simple v22).bind fun r5 =>
 if (!(r5.data.toList == v4.data.toList)) = true then
 kind_Parse.l8 k v4 v5 b2 n (IntKind.wrap .i64 (v22 + (1 : Int)))
 else
 if v5 = true then
 some (Fl.ret ((0 : Int), (⟨(5 : Int), v22⟩ : Typ)))
 else
 some (Fl.ret ((0 : Int), (⟨v22, (0 : Int)⟩ : Typ)))
 else
 some (Fl.go b2)
def kind_Parse (k : Nat) (a0 : ByteArray) : Option (Typ × Int) :=
 (strings_CutPrefix a0 (ByteArray.mk #[108, 105, 115, 116, 60])).bind fun r1 =>
 ((if r1.2 = true then
 (strings_CutSuffix r1.1 (ByteArray.mk #[62])).bind fun r2 =>
 if (!r2.2) = true then
 some (Fl.ret ((8 : Int), (⟨(0 : Int), (0 : Int)⟩ : Typ)))
 else
 some (Fl.go (r2.1, r1.2, (⟨(0 : Int), (0 : Int)⟩ : Typ)))
 else
 some (Fl.go (r1.1, r1.2, (⟨(0 : Int), (0 : Int)⟩ : Typ)))) : Option (Fl (ByteArray × Bool × Typ) (Int × Typ))).bind fun o => (match o with
 | .go j3 =>
 (kind_Parse.l8 k j3.1 j3.2.1 j3.2.2 k (0 : Int)).bind fun o => (match o with
 | .go x6 =>
 some ((⟨(0 : Int), (0 : Int)⟩ : Typ), (8 : Int))
 | .ret x7 =>
 some (x7.2, x7.1))
 | .ret j4 =>
 some (j4.2, j4.1))
def kind_Parse.u (k : Nat) (v : ByteArray) : Option (Typ × Int) := kind_Parse k v
def kind_Parse.G (k : Nat) : Ctx U := ⟨tyOf, bytesOf, fun f xs => if f == 32 then entry strings_CutPrefix.P strings_CutPrefix.S (strings_CutPrefix.u) xs else if f == 33 then entry strings_CutSuffix.P strings_CutSuffix.S (strings_CutSuffix.u) xs else if f == 34 then entry kind_simple.P kind_simple.S (kind_simple.u) xs else none, fun f xs => none, fun d => false⟩
def kind_Parse.l8.L (k : Nat) : ELoopR U := ⟨[.ptr 2 2 [] (.st 2), .slot 4 .str, .slot 5 .bool, .slot 22 (.int .i64), .box 2 (.st 2) []], 0, [.ptr 2 2 [] (.st 2), .box 2 (.st 2) []], [.ptr 2 2 [] (.st 2), .slot 3 (.int .i64), .box 2 (.st 2) []], fun (v : ByteArray × Bool × Int × Typ) => kind_Parse.l8 k v.1 v.2.1 v.2.2.2 k v.2.2.1⟩
def kind_Parse.H (k : Nat) : Hint U := ⟨[], fun i => none, fun i => if i == 122 then some (kind_Parse.l8.L k) else none, fun i => if i == 29 then some ⟨[.ptr 2 2 [] (.st 2), .slot 4 .str, .slot 5 .bool, .box 2 (.st 2) []], some [.ptr 2 2 [] (.st 2), .slot 3 (.int .i64), .box 2 (.st 2) []]⟩ else none⟩
theorem kind_Parse.l8.ok (k n : Nat) (v : Vars U (kind_Parse.l8.L k).ks) : loopRT (kind_Parse.G k) (kind_Parse.H k) (pick [true, true, true, false, true, false, false] (bodyOf Tryz.f14)) 122 (kind_Parse.l8.L k) n v = (fun (v : ByteArray × Bool × Int × Typ) => kind_Parse.l8 k v.1 v.2.1 v.2.2.2 n v.2.2.1) v :=
  loopRT_eq (kind_Parse.G k) (kind_Parse.H k) _ _ (kind_Parse.l8.L k) (fun n (v : ByteArray × Bool × Int × Typ) => kind_Parse.l8 k v.1 v.2.1 v.2.2.2 n v.2.2.1) (fun _ => rfl) (fun n v => by kernel_rfl) n v
theorem kind_Parse.ev (k : Nat) (v : ByteArray) : evFn (kind_Parse.G k) (kind_Parse.H k) kind_Parse.S Tryz.f14 (encA kind_Parse.P v) = kind_Parse.u k v := by kernel_rfl
theorem kind_Parse.fns : Fns Tryz.prog 14 Tryz.f14 kind_Parse.P := ⟨Tryz.func14, by kernel_rfl⟩
theorem kind_Parse.loops (k : Nat) : LoopsOk (kind_Parse.G k) (kind_Parse.H k) (bodyOf Tryz.f14) 1 := loops_of (ps := [(122, pick [true, true, true, false, true, false, false] (bodyOf Tryz.f14))]) (by kernel_rfl) ⟨loopR_ok rfl rfl fun v x hx => ⟨k, (kind_Parse.l8.ok k k v).trans hx⟩, trivial⟩
theorem kind_Parse.call (k : Nat) : FnC Tryz.prog U Lay 14 kind_Parse.P kind_Parse.S (kind_Parse.u k) := fnC hLay ulaw gok (fun f xs => (.ite (.entry (strings_CutPrefix.call)) (.ite (.entry (strings_CutSuffix.call)) (.ite (.entry (kind_simple.call)) (CallC.none))) : CallC Tryz.prog U Lay _ f xs)) (fun f xs => (CallC2.none : CallC2 Tryz.prog U Lay _ f xs)) kind_Parse.fns (kind_Parse.loops k) (kind_Parse.ev k)
def model_Type.l7 (k : Nat) (v1 : ByteArray) (v23 : List Item) (v24 : Int) (b4 : Typ) : Nat → Int → Option (Fl (Typ) (ByteArray × Int × Typ))
 | 0, _ => none
 | n + 1, v25 =>
 if (decide (v25 < v24)) = true then
 (idx v23 v25).bind fun e2 =>
 if (e2.name.data.toList == v1.data.toList) = true then
 some (Fl.ret (e2.allowed, (0 : Int), e2.type_))
 else
 model_Type.l7 k v1 v23 v24 b4 n (IntKind.wrap .i64 (v25 + (1 : Int)))
 else
 some (Fl.go b4)
def model_Type (k : Nat) (a0 : Model) (a1 : ByteArray) : Option (Typ × ByteArray × Int) :=
 if (a1.data.toList == (ByteArray.mk #[]).data.toList) = true then
 some ((⟨(0 : Int), (0 : Int)⟩ : Typ), (ByteArray.mk #[]), (0 : Int))
 else
 (kind_Parse k a1).bind fun r1 =>
 if (r1.2 == (0 : Int)) = true then
 some (r1.1, (ByteArray.mk #[]), (0 : Int))
 else
 (model_Type.l7 k a1 a0.items (a0.items.length : Int) (⟨(0 : Int), (0 : Int)⟩ : Typ) k (0 : Int)).bind fun o => (match o with
 | .go x3 =>
 some ((⟨(0 : Int), (0 : Int)⟩ : Typ), (ByteArray.mk #[]), (8 : Int))
 | .ret x4 =>
 some (x4.2.2, x4.1, x4.2.1))
def model_Type.u (k : Nat) (v : Model × ByteArray) : Option (Typ × ByteArray × Int) := model_Type k v.1 v.2
def model_Type.G (k : Nat) : Ctx U := ⟨tyOf, bytesOf, fun f xs => if f == 14 then entry kind_Parse.P kind_Parse.S (kind_Parse.u k) xs else none, fun f xs => none, fun d => false⟩
def model_Type.l7.L (k : Nat) : ELoopR U := ⟨[.slot 1 .str, .ptr 4 4 [] (.st 2), .slot 23 (.sl (.st 1)), .slot 24 (.int .i64), .slot 25 (.int .i64), .box 4 (.st 2) []], 0, [.ptr 4 4 [] (.st 2), .box 4 (.st 2) []], [.ptr 4 4 [] (.st 2), .slot 5 .str, .slot 6 (.int .i64), .box 4 (.st 2) []], fun (v : ByteArray × (List Item) × Int × Int × Typ) => model_Type.l7 k v.1 v.2.1 v.2.2.1 v.2.2.2.2 k v.2.2.2.1⟩
def model_Type.H (k : Nat) : Hint U := ⟨[], fun i => none, fun i => if i == 122 then some (model_Type.l7.L k) else none, fun i => none⟩
theorem model_Type.l7.ok (k n : Nat) (v : Vars U (model_Type.l7.L k).ks) : loopRT (model_Type.G k) (model_Type.H k) (pick [true, true, true, false, true, false, false] (bodyOf Tryz.f6)) 122 (model_Type.l7.L k) n v = (fun (v : ByteArray × (List Item) × Int × Int × Typ) => model_Type.l7 k v.1 v.2.1 v.2.2.1 v.2.2.2.2 n v.2.2.2.1) v :=
  loopRT_eq (model_Type.G k) (model_Type.H k) _ _ (model_Type.l7.L k) (fun n (v : ByteArray × (List Item) × Int × Int × Typ) => model_Type.l7 k v.1 v.2.1 v.2.2.1 v.2.2.2.2 n v.2.2.2.1) (fun _ => rfl) (fun n v => by kernel_rfl) n v
theorem model_Type.ev (k : Nat) (v : Model × ByteArray) : evFn (model_Type.G k) (model_Type.H k) model_Type.S Tryz.f6 (encA model_Type.P v) = model_Type.u k v := by kernel_rfl
theorem model_Type.fns : Fns Tryz.prog 6 Tryz.f6 model_Type.P := ⟨Tryz.func6, by kernel_rfl⟩
theorem model_Type.loops (k : Nat) : LoopsOk (model_Type.G k) (model_Type.H k) (bodyOf Tryz.f6) 1 := loops_of (ps := [(122, pick [true, true, true, false, true, false, false] (bodyOf Tryz.f6))]) (by kernel_rfl) ⟨loopR_ok rfl rfl fun v x hx => ⟨k, (model_Type.l7.ok k k v).trans hx⟩, trivial⟩
theorem model_Type.call (k : Nat) : FnC Tryz.prog U Lay 6 model_Type.P model_Type.S (model_Type.u k) := fnC hLay ulaw gok (fun f xs => (.ite (.entry (kind_Parse.call k)) (CallC.none) : CallC Tryz.prog U Lay _ f xs)) (fun f xs => (CallC2.none : CallC2 Tryz.prog U Lay _ f xs)) model_Type.fns (model_Type.loops k) (model_Type.ev k)
def model_weigh.l3 (k : Nat) (v6 : List ByteArray) (v7 : Int) : Nat → Int → Int → Option (Int)
 | 0, _, _ => none
 | n + 1, v3, v8 =>
 if (decide (v8 < v7)) = true then
 (idx v6 v8).bind fun e1 =>
 model_weigh.l3 k v6 v7 n (IntKind.wrap .i64 (v3 + (IntKind.wrap .i64 ((e1.size : Int) + (20 : Int))))) (IntKind.wrap .i64 (v8 + (1 : Int)))
 else
 some v3
def model_weigh (k : Nat) (a0 : List ByteArray) : Option (Int) :=
 (model_weigh.l3 k a0 (a0.length : Int) k (0 : Int) (0 : Int)).bind fun x2 =>
 some x2
def model_weigh.u (k : Nat) (v : (List ByteArray)) : Option (Int) := model_weigh k v
def model_weigh.G (k : Nat) : Ctx U := ⟨tyOf, bytesOf, fun f xs => none, fun f xs => none, fun d => false⟩
def model_weigh.l3.L (k : Nat) : ELoop U := ⟨[.slot 3 (.int .i64), .slot 6 (.sl .str), .slot 7 (.int .i64), .slot 8 (.int .i64)], 0, [.slot 3 (.int .i64)], fun (v : Int × (List ByteArray) × Int × Int) => model_weigh.l3 k v.2.1 v.2.2.1 k v.1 v.2.2.2⟩
def model_weigh.H (k : Nat) : Hint U := ⟨[], fun i => if i == 58 then some (model_weigh.l3.L k) else none, fun i => none, fun i => none⟩
theorem model_weigh.l3.ok (k n : Nat) (v : Vars U (model_weigh.l3.L k).ks) : loopT (model_weigh.G k) (model_weigh.H k) (pick [true, true, false, true, false, false] (bodyOf Tryz.f15)) 58 (model_weigh.l3.L k) n v = (fun (v : Int × (List ByteArray) × Int × Int) => model_weigh.l3 k v.2.1 v.2.2.1 n v.1 v.2.2.2) v :=
  loopT_eq (model_weigh.G k) (model_weigh.H k) _ _ (model_weigh.l3.L k) (fun n (v : Int × (List ByteArray) × Int × Int) => model_weigh.l3 k v.2.1 v.2.2.1 n v.1 v.2.2.2) (fun _ => rfl) (fun n v => by kernel_rfl) n v
theorem model_weigh.ev (k : Nat) (v : (List ByteArray)) : evFn (model_weigh.G k) (model_weigh.H k) model_weigh.S Tryz.f15 (encA model_weigh.P v) = model_weigh.u k v := by kernel_rfl
theorem model_weigh.fns : Fns Tryz.prog 15 Tryz.f15 model_weigh.P := ⟨Tryz.func15, by kernel_rfl⟩
theorem model_weigh.loops (k : Nat) : LoopsOk (model_weigh.G k) (model_weigh.H k) (bodyOf Tryz.f15) 1 := loops_of (ps := [(58, pick [true, true, false, true, false, false] (bodyOf Tryz.f15))]) (by kernel_rfl) ⟨loopT_ok rfl fun v x hx => ⟨k, (model_weigh.l3.ok k k v).trans hx⟩, trivial⟩
theorem model_weigh.call (k : Nat) : FnC Tryz.prog U Lay 15 model_weigh.P model_weigh.S (model_weigh.u k) := fnC hLay ulaw gok (fun f xs => (CallC.none : CallC Tryz.prog U Lay _ f xs)) (fun f xs => (CallC2.none : CallC2 Tryz.prog U Lay _ f xs)) model_weigh.fns (model_weigh.loops k) (model_weigh.ev k)
def model_weighTable.l6 (k : Nat) (v17 : List (List Column)) (v18 : Int) (v21 : List Column) (v22 : Int) (b1 : Tabl) : Nat → Int → Int → Option (Int × (List (List Column)) × Int × Tabl)
 | 0, _, _ => none
 | n + 1, v3, v23 =>
 if (decide (v23 < v22)) = true then
 (idx v21 v23).bind fun e3 =>
 (model_weigh k ([e3.text, e3.item] : List ByteArray)).bind fun r4 =>
 (model_weigh k e3.values).bind fun r5 =>
 model_weighTable.l6 k v17 v18 v21 v22 b1 n (IntKind.wrap .i64 (v3 + (IntKind.wrap .i64 (r4 + r5)))) (IntKind.wrap .i64 (v23 + (1 : Int)))
 else
 some (v3, v17, v18, b1)
def model_weighTable.l3 (k : Nat) : Nat → Int → (List (List Column)) → Int → Tabl → Option (Int × Tabl)
 | 0, _, _, _, _ => none
 | n + 1, v3, v17, v18, b1 =>
 if (decide (v18 < (2 : Int))) = true then
 (idx v17 v18).bind fun e2 =>
 (model_weighTable.l6 k v17 v18 e2 (e2.length : Int) b1 k v3 (0 : Int)).bind fun x6 =>
 model_weighTable.l3 k n x6.1 x6.2.1 (IntKind.wrap .i64 (x6.2.2.1 + (1 : Int))) x6.2.2.2
 else
 some (v3, b1)
def model_weighTable.l12 (k : Nat) (v42 : List Rule) (v43 : Int) : Nat → Int → Int → Option (Int)
 | 0, _, _ => none
 | n + 1, v3, v44 =>
 if (decide (v44 < v43)) = true then
 (idx v42 v44).bind fun e8 =>
 (model_weigh k e8.tests).bind fun r9 =>
 (model_weigh k e8.says).bind fun r10 =>
 model_weighTable.l12 k v42 v43 n (IntKind.wrap .i64 (v3 + (IntKind.wrap .i64 (r9 + r10)))) (IntKind.wrap .i64 (v44 + (1 : Int)))
 else
 some v3
def model_weighTable (k : Nat) (a0 : Tabl) : Option (Int) :=
 (model_weigh k a0.default).bind fun r1 =>
 (model_weighTable.l3 k k r1 [a0.ins, a0.outs] (0 : Int) a0).bind fun x7 =>
 (model_weighTable.l12 k x7.2.rules (x7.2.rules.length : Int) k x7.1 (0 : Int)).bind fun x11 =>
 some x11
def model_weighTable.u (k : Nat) (v : Tabl) : Option (Int) := model_weighTable k v
def model_weighTable.G (k : Nat) : Ctx U := ⟨tyOf, bytesOf, fun f xs => if f == 15 then entry model_weigh.P model_weigh.S (model_weigh.u k) xs else none, fun f xs => none, fun d => false⟩
def model_weighTable.l6.L (k : Nat) : ELoop U := ⟨[.ptr 1 1 [] (.st 5), .slot 3 (.int .i64), .slot 17 (.arr 2 (.sl (.st 6))), .slot 18 (.int .i64), .slot 21 (.sl (.st 6)), .slot 22 (.int .i64), .slot 23 (.int .i64), .box 1 (.st 5) []], 2, [.ptr 1 1 [] (.st 5), .slot 3 (.int .i64), .slot 17 (.arr 2 (.sl (.st 6))), .slot 18 (.int .i64), .box 1 (.st 5) []], fun (v : Int × (List (List Column)) × Int × (List Column) × Int × Int × Tabl) => model_weighTable.l6 k v.2.1 v.2.2.1 v.2.2.2.1 v.2.2.2.2.1 v.2.2.2.2.2.2 k v.1 v.2.2.2.2.2.1⟩
def model_weighTable.l3.L (k : Nat) : ELoop U := ⟨[.ptr 1 1 [] (.st 5), .slot 3 (.int .i64), .slot 17 (.arr 2 (.sl (.st 6))), .slot 18 (.int .i64), .box 1 (.st 5) []], 0, [.ptr 1 1 [] (.st 5), .slot 3 (.int .i64), .box 1 (.st 5) []], fun (v : Int × (List (List Column)) × Int × Tabl) => model_weighTable.l3 k k v.1 v.2.1 v.2.2.1 v.2.2.2⟩
def model_weighTable.l12.L (k : Nat) : ELoop U := ⟨[.slot 3 (.int .i64), .slot 42 (.sl (.st 7)), .slot 43 (.int .i64), .slot 44 (.int .i64)], 4, [.slot 3 (.int .i64)], fun (v : Int × (List Rule) × Int × Int) => model_weighTable.l12 k v.2.1 v.2.2.1 k v.1 v.2.2.2⟩
def model_weighTable.H (k : Nat) : Hint U := ⟨[], fun i => if i == 122 then some (model_weighTable.l12.L k) else if i == 58 then some (model_weighTable.l3.L k) else if i == 14950 then some (model_weighTable.l6.L k) else none, fun i => none, fun i => none⟩
theorem model_weighTable.l6.ok (k n : Nat) (v : Vars U (model_weighTable.l6.L k).ks) : loopT (model_weighTable.G k) (model_weighTable.H k) (pick [true, true, false, true, false, false, true, true, false, false, true, true, false, false] (bodyOf Tryz.f16)) 14950 (model_weighTable.l6.L k) n v = (fun (v : Int × (List (List Column)) × Int × (List Column) × Int × Int × Tabl) => model_weighTable.l6 k v.2.1 v.2.2.1 v.2.2.2.1 v.2.2.2.2.1 v.2.2.2.2.2.2 n v.1 v.2.2.2.2.2.1) v :=
  loopT_eq (model_weighTable.G k) (model_weighTable.H k) _ _ (model_weighTable.l6.L k) (fun n (v : Int × (List (List Column)) × Int × (List Column) × Int × Int × Tabl) => model_weighTable.l6 k v.2.1 v.2.2.1 v.2.2.2.1 v.2.2.2.2.1 v.2.2.2.2.2.2 n v.1 v.2.2.2.2.2.1) (fun _ => rfl) (fun n v => by kernel_rfl) n v
theorem model_weighTable.l3.ok (k n : Nat) (v : Vars U (model_weighTable.l3.L k).ks) : loopT (model_weighTable.G k) (model_weighTable.H k) (pick [true, true, false, true, false, false] (bodyOf Tryz.f16)) 58 (model_weighTable.l3.L k) n v = (fun (v : Int × (List (List Column)) × Int × Tabl) => model_weighTable.l3 k n v.1 v.2.1 v.2.2.1 v.2.2.2) v :=
  loopT_eq (model_weighTable.G k) (model_weighTable.H k) _ _ (model_weighTable.l3.L k) (fun n (v : Int × (List (List Column)) × Int × Tabl) => model_weighTable.l3 k n v.1 v.2.1 v.2.2.1 v.2.2.2) (fun _ => rfl) (fun n v => by kernel_rfl) n v
theorem model_weighTable.l12.ok (k n : Nat) (v : Vars U (model_weighTable.l12.L k).ks) : loopT (model_weighTable.G k) (model_weighTable.H k) (pick [true, true, true, false, true, false, false] (bodyOf Tryz.f16)) 122 (model_weighTable.l12.L k) n v = (fun (v : Int × (List Rule) × Int × Int) => model_weighTable.l12 k v.2.1 v.2.2.1 n v.1 v.2.2.2) v :=
  loopT_eq (model_weighTable.G k) (model_weighTable.H k) _ _ (model_weighTable.l12.L k) (fun n (v : Int × (List Rule) × Int × Int) => model_weighTable.l12 k v.2.1 v.2.2.1 n v.1 v.2.2.2) (fun _ => rfl) (fun n v => by kernel_rfl) n v
theorem model_weighTable.ev (k : Nat) (v : Tabl) : evFn (model_weighTable.G k) (model_weighTable.H k) model_weighTable.S Tryz.f16 (encA model_weighTable.P v) = model_weighTable.u k v := by kernel_rfl
theorem model_weighTable.fns : Fns Tryz.prog 16 Tryz.f16 model_weighTable.P := ⟨Tryz.func16, by kernel_rfl⟩
theorem model_weighTable.loops (k : Nat) : LoopsOk (model_weighTable.G k) (model_weighTable.H k) (bodyOf Tryz.f16) 1 := loops_of (ps := [(58, pick [true, true, false, true, false, false] (bodyOf Tryz.f16)), (14950, pick [true, true, false, true, false, false, true, true, false, false, true, true, false, false] (bodyOf Tryz.f16)), (122, pick [true, true, true, false, true, false, false] (bodyOf Tryz.f16))]) (by kernel_rfl) ⟨loopT_ok rfl fun v x hx => ⟨k, (model_weighTable.l3.ok k k v).trans hx⟩, ⟨loopT_ok rfl fun v x hx => ⟨k, (model_weighTable.l6.ok k k v).trans hx⟩, ⟨loopT_ok rfl fun v x hx => ⟨k, (model_weighTable.l12.ok k k v).trans hx⟩, trivial⟩⟩⟩
theorem model_weighTable.call (k : Nat) : FnC Tryz.prog U Lay 16 model_weighTable.P model_weighTable.S (model_weighTable.u k) := fnC hLay ulaw gok (fun f xs => (.ite (.entry (model_weigh.call k)) (CallC.none) : CallC Tryz.prog U Lay _ f xs)) (fun f xs => (CallC2.none : CallC2 Tryz.prog U Lay _ f xs)) model_weighTable.fns (model_weighTable.loops k) (model_weighTable.ev k)
def model_Weight.l3 (k : Nat) (v17 : List Item) (v18 : Int) (b1 : Model) : Nat → Int → Int → Option (Int × Model)
 | 0, _, _ => none
 | n + 1, v3, v19 =>
 if (decide (v19 < v18)) = true then
 (idx v17 v19).bind fun e2 =>
 (model_weigh k ([e2.name, e2.allowed] : List ByteArray)).bind fun r3 =>
 model_Weight.l3 k v17 v18 b1 n (IntKind.wrap .i64 (v3 + r3)) (IntKind.wrap .i64 (v19 + (1 : Int)))
 else
 some (v3, b1)
def model_Weight.l8 (k : Nat) (v33 : List Input) (v34 : Int) (b1 : Model) : Nat → Int → Int → Option (Int × Model)
 | 0, _, _ => none
 | n + 1, v3, v35 =>
 if (decide (v35 < v34)) = true then
 (idx v33 v35).bind fun e5 =>
 (model_weigh k ([e5.id, e5.name, e5.item] : List ByteArray)).bind fun r6 =>
 model_Weight.l8 k v33 v34 b1 n (IntKind.wrap .i64 (v3 + r6)) (IntKind.wrap .i64 (v35 + (1 : Int)))
 else
 some (v3, b1)
def model_Weight.l13 (k : Nat) (v51 : List Decision) (v52 : Int) : Nat → Int → Int → Option (Int)
 | 0, _, _ => none
 | n + 1, v3, v53 =>
 if (decide (v53 < v52)) = true then
 (idx v51 v53).bind fun e8 =>
 (model_weigh k ([e8.id, e8.name, e8.item, e8.text] : List ByteArray)).bind fun r9 =>
 (model_weigh k e8.needs).bind fun r10 =>
 (model_weighTable k e8.table).bind fun r11 =>
 model_Weight.l13 k v51 v52 n (IntKind.wrap .i64 (v3 + (IntKind.wrap .i64 ((IntKind.wrap .i64 (r9 + r10)) + r11)))) (IntKind.wrap .i64 (v53 + (1 : Int)))
 else
 some v3
def model_Weight (k : Nat) (a0 : Model) : Option (Int) :=
 (model_weigh k ([a0.id, a0.name] : List ByteArray)).bind fun r1 =>
 (model_Weight.l3 k a0.items (a0.items.length : Int) a0 k r1 (0 : Int)).bind fun x4 =>
 (model_Weight.l8 k x4.2.inputs (x4.2.inputs.length : Int) x4.2 k x4.1 (0 : Int)).bind fun x7 =>
 (model_Weight.l13 k x7.2.decisions (x7.2.decisions.length : Int) k x7.1 (0 : Int)).bind fun x12 =>
 some x12
def model_Weight.u (k : Nat) (v : Model) : Option (Int) := model_Weight k v
def model_Weight.G (k : Nat) : Ctx U := ⟨tyOf, bytesOf, fun f xs => if f == 15 then entry model_weigh.P model_weigh.S (model_weigh.u k) xs else if f == 16 then entry model_weighTable.P model_weighTable.S (model_weighTable.u k) xs else none, fun f xs => none, fun d => false⟩
def model_Weight.l3.L (k : Nat) : ELoop U := ⟨[.ptr 1 1 [] (.st 0), .slot 3 (.int .i64), .slot 17 (.sl (.st 1)), .slot 18 (.int .i64), .slot 19 (.int .i64), .box 1 (.st 0) []], 0, [.ptr 1 1 [] (.st 0), .slot 3 (.int .i64), .box 1 (.st 0) []], fun (v : Int × (List Item) × Int × Int × Model) => model_Weight.l3 k v.2.1 v.2.2.1 v.2.2.2.2 k v.1 v.2.2.2.1⟩
def model_Weight.l8.L (k : Nat) : ELoop U := ⟨[.ptr 1 1 [] (.st 0), .slot 3 (.int .i64), .slot 33 (.sl (.st 3)), .slot 34 (.int .i64), .slot 35 (.int .i64), .box 1 (.st 0) []], 2, [.ptr 1 1 [] (.st 0), .slot 3 (.int .i64), .box 1 (.st 0) []], fun (v : Int × (List Input) × Int × Int × Model) => model_Weight.l8 k v.2.1 v.2.2.1 v.2.2.2.2 k v.1 v.2.2.2.1⟩
def model_Weight.l13.L (k : Nat) : ELoop U := ⟨[.slot 3 (.int .i64), .slot 51 (.sl (.st 4)), .slot 52 (.int .i64), .slot 53 (.int .i64)], 4, [.slot 3 (.int .i64)], fun (v : Int × (List Decision) × Int × Int) => model_Weight.l13 k v.2.1 v.2.2.1 k v.1 v.2.2.2⟩
def model_Weight.H (k : Nat) : Hint U := ⟨[], fun i => if i == 250 then some (model_Weight.l13.L k) else if i == 122 then some (model_Weight.l8.L k) else if i == 58 then some (model_Weight.l3.L k) else none, fun i => none, fun i => none⟩
theorem model_Weight.l3.ok (k n : Nat) (v : Vars U (model_Weight.l3.L k).ks) : loopT (model_Weight.G k) (model_Weight.H k) (pick [true, true, false, true, false, false] (bodyOf Tryz.f7)) 58 (model_Weight.l3.L k) n v = (fun (v : Int × (List Item) × Int × Int × Model) => model_Weight.l3 k v.2.1 v.2.2.1 v.2.2.2.2 n v.1 v.2.2.2.1) v :=
  loopT_eq (model_Weight.G k) (model_Weight.H k) _ _ (model_Weight.l3.L k) (fun n (v : Int × (List Item) × Int × Int × Model) => model_Weight.l3 k v.2.1 v.2.2.1 v.2.2.2.2 n v.1 v.2.2.2.1) (fun _ => rfl) (fun n v => by kernel_rfl) n v
theorem model_Weight.l8.ok (k n : Nat) (v : Vars U (model_Weight.l8.L k).ks) : loopT (model_Weight.G k) (model_Weight.H k) (pick [true, true, true, false, true, false, false] (bodyOf Tryz.f7)) 122 (model_Weight.l8.L k) n v = (fun (v : Int × (List Input) × Int × Int × Model) => model_Weight.l8 k v.2.1 v.2.2.1 v.2.2.2.2 n v.1 v.2.2.2.1) v :=
  loopT_eq (model_Weight.G k) (model_Weight.H k) _ _ (model_Weight.l8.L k) (fun n (v : Int × (List Input) × Int × Int × Model) => model_Weight.l8 k v.2.1 v.2.2.1 v.2.2.2.2 n v.1 v.2.2.2.1) (fun _ => rfl) (fun n v => by kernel_rfl) n v
theorem model_Weight.l13.ok (k n : Nat) (v : Vars U (model_Weight.l13.L k).ks) : loopT (model_Weight.G k) (model_Weight.H k) (pick [true, true, true, true, false, true, false, false] (bodyOf Tryz.f7)) 250 (model_Weight.l13.L k) n v = (fun (v : Int × (List Decision) × Int × Int) => model_Weight.l13 k v.2.1 v.2.2.1 n v.1 v.2.2.2) v :=
  loopT_eq (model_Weight.G k) (model_Weight.H k) _ _ (model_Weight.l13.L k) (fun n (v : Int × (List Decision) × Int × Int) => model_Weight.l13 k v.2.1 v.2.2.1 n v.1 v.2.2.2) (fun _ => rfl) (fun n v => by kernel_rfl) n v
theorem model_Weight.ev (k : Nat) (v : Model) : evFn (model_Weight.G k) (model_Weight.H k) model_Weight.S Tryz.f7 (encA model_Weight.P v) = model_Weight.u k v := by kernel_rfl
theorem model_Weight.fns : Fns Tryz.prog 7 Tryz.f7 model_Weight.P := ⟨Tryz.func7, by kernel_rfl⟩
theorem model_Weight.loops (k : Nat) : LoopsOk (model_Weight.G k) (model_Weight.H k) (bodyOf Tryz.f7) 1 := loops_of (ps := [(58, pick [true, true, false, true, false, false] (bodyOf Tryz.f7)), (122, pick [true, true, true, false, true, false, false] (bodyOf Tryz.f7)), (250, pick [true, true, true, true, false, true, false, false] (bodyOf Tryz.f7))]) (by kernel_rfl) ⟨loopT_ok rfl fun v x hx => ⟨k, (model_Weight.l3.ok k k v).trans hx⟩, ⟨loopT_ok rfl fun v x hx => ⟨k, (model_Weight.l8.ok k k v).trans hx⟩, ⟨loopT_ok rfl fun v x hx => ⟨k, (model_Weight.l13.ok k k v).trans hx⟩, trivial⟩⟩⟩
theorem model_Weight.call (k : Nat) : FnC Tryz.prog U Lay 7 model_Weight.P model_Weight.S (model_Weight.u k) := fnC hLay ulaw gok (fun f xs => (.ite (.entry (model_weigh.call k)) (.ite (.entry (model_weighTable.call k)) (CallC.none)) : CallC Tryz.prog U Lay _ f xs)) (fun f xs => (CallC2.none : CallC2 Tryz.prog U Lay _ f xs)) model_Weight.fns (model_Weight.loops k) (model_Weight.ev k)
def tariffref17_tableTexts.l4 (k : Nat) (v4 : List Column) (b1 : Tabl) : Nat → (List ByteArray) → Int → Option ((List ByteArray) × Tabl)
 | 0, _, _ => none
 | n + 1, w3, v5 =>
 if (decide (v5 < (v4.length : Int))) = true then
 (idx v4 v5).bind fun e1 =>
 (idx v4 v5).bind fun e2 =>
 if room ((w3.length + ([e1.text, e2.item] : List ByteArray).length) * 16) then
 (idx v4 v5).bind fun e3 =>
 if room (((w3 ++ ([e1.text, e2.item] : List ByteArray)).length + e3.values.length) * 16) then
 tariffref17_tableTexts.l4 k v4 b1 n ((w3 ++ ([e1.text, e2.item] : List ByteArray)) ++ e3.values) (IntKind.wrap .i64 (v5 + (1 : Int)))
 else none
 else none
 else
 some (w3, b1)
def tariffref17_tableTexts.l9 (k : Nat) (b1 : Tabl) : Nat → (List ByteArray) → Int → Option ((List ByteArray) × Tabl)
 | 0, _, _ => none
 | n + 1, w3, v6 =>
 if (decide (v6 < (b1.rules.length : Int))) = true then
 (idx b1.rules v6).bind fun e5 =>
 if room ((w3.length + e5.tests.length) * 16) then
 (idx b1.rules v6).bind fun e6 =>
 if room (((w3 ++ e5.tests).length + e6.says.length) * 16) then
 tariffref17_tableTexts.l9 k b1 n ((w3 ++ e5.tests) ++ e6.says) (IntKind.wrap .i64 (v6 + (1 : Int)))
 else none
 else none
 else
 some (w3, b1)
def tariffref17_tableTexts (k : Nat) (a0 : Tabl) : Option ((List ByteArray)) :=
 if room ((([] : List Column).length + a0.ins.length) * 56) then
 if room (((([] : List Column) ++ a0.ins).length + a0.outs.length) * 56) then
 (tariffref17_tableTexts.l4 k ((([] : List Column) ++ a0.ins) ++ a0.outs) a0 k ([] : List ByteArray) (0 : Int)).bind fun x4 =>
 (tariffref17_tableTexts.l9 k x4.2 k x4.1 (0 : Int)).bind fun x7 =>
 if room ((x7.1.length + x7.2.default.length) * 16) then
 some (x7.1 ++ x7.2.default)
 else none
 else none
 else none
def tariffref17_tableTexts.u (k : Nat) (v : Tabl) : Option ((List ByteArray)) := tariffref17_tableTexts k v
def tariffref17_tableTexts.G (k : Nat) : Ctx U := ⟨tyOf, bytesOf, fun f xs => none, fun f xs => none, fun d => false⟩
def tariffref17_tableTexts.l4.L (k : Nat) : ELoop U := ⟨[.ptr 1 1 [] (.st 5), .row 3 .str, .slot 4 (.sl (.st 6)), .slot 5 (.int .i64), .box 1 (.st 5) []], 0, [.ptr 1 1 [] (.st 5), .row 3 .str, .box 1 (.st 5) []], fun (v : (List ByteArray) × (List Column) × Int × Tabl) => tariffref17_tableTexts.l4 k v.2.1 v.2.2.2 k v.1 v.2.2.1⟩
def tariffref17_tableTexts.l9.L (k : Nat) : ELoop U := ⟨[.ptr 1 1 [] (.st 5), .row 3 .str, .slot 6 (.int .i64), .box 1 (.st 5) []], 2, [.ptr 1 1 [] (.st 5), .row 3 .str, .box 1 (.st 5) []], fun (v : (List ByteArray) × Int × Tabl) => tariffref17_tableTexts.l9 k v.2.2 k v.1 v.2.1⟩
def tariffref17_tableTexts.H (k : Nat) : Hint U := ⟨[], fun i => if i == 250 then some (tariffref17_tableTexts.l9.L k) else if i == 122 then some (tariffref17_tableTexts.l4.L k) else none, fun i => none, fun i => none⟩
theorem tariffref17_tableTexts.l4.ok (k n : Nat) (v : Vars U (tariffref17_tableTexts.l4.L k).ks) : loopT (tariffref17_tableTexts.G k) (tariffref17_tableTexts.H k) (pick [true, true, true, false, true, false, false] (bodyOf Tryz.f35)) 122 (tariffref17_tableTexts.l4.L k) n v = (fun (v : (List ByteArray) × (List Column) × Int × Tabl) => tariffref17_tableTexts.l4 k v.2.1 v.2.2.2 n v.1 v.2.2.1) v :=
  loopT_eq (tariffref17_tableTexts.G k) (tariffref17_tableTexts.H k) _ _ (tariffref17_tableTexts.l4.L k) (fun n (v : (List ByteArray) × (List Column) × Int × Tabl) => tariffref17_tableTexts.l4 k v.2.1 v.2.2.2 n v.1 v.2.2.1) (fun _ => rfl) (fun n v => by kernel_rfl) n v
theorem tariffref17_tableTexts.l9.ok (k n : Nat) (v : Vars U (tariffref17_tableTexts.l9.L k).ks) : loopT (tariffref17_tableTexts.G k) (tariffref17_tableTexts.H k) (pick [true, true, true, true, false, true, false, false] (bodyOf Tryz.f35)) 250 (tariffref17_tableTexts.l9.L k) n v = (fun (v : (List ByteArray) × Int × Tabl) => tariffref17_tableTexts.l9 k v.2.2 n v.1 v.2.1) v :=
  loopT_eq (tariffref17_tableTexts.G k) (tariffref17_tableTexts.H k) _ _ (tariffref17_tableTexts.l9.L k) (fun n (v : (List ByteArray) × Int × Tabl) => tariffref17_tableTexts.l9 k v.2.2 n v.1 v.2.1) (fun _ => rfl) (fun n v => by kernel_rfl) n v
theorem tariffref17_tableTexts.ev (k : Nat) (v : Tabl) : evFn (tariffref17_tableTexts.G k) (tariffref17_tableTexts.H k) tariffref17_tableTexts.S Tryz.f35 (encA tariffref17_tableTexts.P v) = tariffref17_tableTexts.u k v := by kernel_rfl
theorem tariffref17_tableTexts.fns : Fns Tryz.prog 35 Tryz.f35 tariffref17_tableTexts.P := ⟨Tryz.func35, by kernel_rfl⟩
theorem tariffref17_tableTexts.loops (k : Nat) : LoopsOk (tariffref17_tableTexts.G k) (tariffref17_tableTexts.H k) (bodyOf Tryz.f35) 1 := loops_of (ps := [(122, pick [true, true, true, false, true, false, false] (bodyOf Tryz.f35)), (250, pick [true, true, true, true, false, true, false, false] (bodyOf Tryz.f35))]) (by kernel_rfl) ⟨loopT_ok rfl fun v x hx => ⟨k, (tariffref17_tableTexts.l4.ok k k v).trans hx⟩, ⟨loopT_ok rfl fun v x hx => ⟨k, (tariffref17_tableTexts.l9.ok k k v).trans hx⟩, trivial⟩⟩
theorem tariffref17_tableTexts.call (k : Nat) : FnC Tryz.prog U Lay 35 tariffref17_tableTexts.P tariffref17_tableTexts.S (tariffref17_tableTexts.u k) := fnC hLay ulaw gok (fun f xs => (CallC.none : CallC Tryz.prog U Lay _ f xs)) (fun f xs => (CallC2.none : CallC2 Tryz.prog U Lay _ f xs)) tariffref17_tableTexts.fns (tariffref17_tableTexts.loops k) (tariffref17_tableTexts.ev k)
def tariffref17_texts.l3 (k : Nat) (b1 : Model) : Nat → (List ByteArray) → Int → Option ((List ByteArray) × Model)
 | 0, _, _ => none
 | n + 1, w3, v4 =>
 if (decide (v4 < (b1.items.length : Int))) = true then
 (idx b1.items v4).bind fun e1 =>
 (idx b1.items v4).bind fun e2 =>
 if room ((w3.length + ([e1.name, e2.allowed] : List ByteArray).length) * 16) then
 tariffref17_texts.l3 k b1 n (w3 ++ ([e1.name, e2.allowed] : List ByteArray)) (IntKind.wrap .i64 (v4 + (1 : Int)))
 else none
 else
 some (w3, b1)
def tariffref17_texts.l7 (k : Nat) (b1 : Model) : Nat → (List ByteArray) → Int → Option ((List ByteArray) × Model)
 | 0, _, _ => none
 | n + 1, w3, v5 =>
 if (decide (v5 < (b1.inputs.length : Int))) = true then
 (idx b1.inputs v5).bind fun e4 =>
 (idx b1.inputs v5).bind fun e5 =>
 (idx b1.inputs v5).bind fun e6 =>
 if room ((w3.length + ([e4.id, e5.name, e6.item] : List ByteArray).length) * 16) then
 tariffref17_texts.l7 k b1 n (w3 ++ ([e4.id, e5.name, e6.item] : List ByteArray)) (IntKind.wrap .i64 (v5 + (1 : Int)))
 else none
 else
 some (w3, b1)
def tariffref17_texts.l11 (k : Nat) (b1 : Model) : Nat → (List ByteArray) → Int → Option ((List ByteArray))
 | 0, _, _ => none
 | n + 1, w3, v6 =>
 if (decide (v6 < (b1.decisions.length : Int))) = true then
 (idx b1.decisions v6).bind fun e8 =>
 if room ((w3.length + ([e8.id, e8.name, e8.item, e8.text] : List ByteArray).length) * 16) then
 if room (((w3 ++ ([e8.id, e8.name, e8.item, e8.text] : List ByteArray)).length + e8.needs.length) * 16) then
 (tariffref17_tableTexts k e8.table).bind fun r9 =>
 if room ((((w3 ++ ([e8.id, e8.name, e8.item, e8.text] : List ByteArray)) ++ e8.needs).length + r9.length) * 16) then
 tariffref17_texts.l11 k b1 n (((w3 ++ ([e8.id, e8.name, e8.item, e8.text] : List ByteArray)) ++ e8.needs) ++ r9) (IntKind.wrap .i64 (v6 + (1 : Int)))
 else none
 else none
 else none
 else
 some w3
def tariffref17_texts (k : Nat) (a0 : Model) : Option ((List ByteArray)) :=
 (tariffref17_texts.l3 k a0 k ([a0.id, a0.name] : List ByteArray) (0 : Int)).bind fun x3 =>
 (tariffref17_texts.l7 k x3.2 k x3.1 (0 : Int)).bind fun x7 =>
 (tariffref17_texts.l11 k x7.2 k x7.1 (0 : Int)).bind fun x10 =>
 some x10
def tariffref17_texts.u (k : Nat) (v : Model) : Option ((List ByteArray)) := tariffref17_texts k v
def tariffref17_texts.G (k : Nat) : Ctx U := ⟨tyOf, bytesOf, fun f xs => if f == 35 then entry tariffref17_tableTexts.P tariffref17_tableTexts.S (tariffref17_tableTexts.u k) xs else none, fun f xs => none, fun d => false⟩
def tariffref17_texts.l3.L (k : Nat) : ELoop U := ⟨[.ptr 1 1 [] (.st 0), .row 3 .str, .slot 4 (.int .i64), .box 1 (.st 0) []], 0, [.ptr 1 1 [] (.st 0), .row 3 .str, .box 1 (.st 0) []], fun (v : (List ByteArray) × Int × Model) => tariffref17_texts.l3 k v.2.2 k v.1 v.2.1⟩
def tariffref17_texts.l7.L (k : Nat) : ELoop U := ⟨[.ptr 1 1 [] (.st 0), .row 3 .str, .slot 5 (.int .i64), .box 1 (.st 0) []], 2, [.ptr 1 1 [] (.st 0), .row 3 .str, .box 1 (.st 0) []], fun (v : (List ByteArray) × Int × Model) => tariffref17_texts.l7 k v.2.2 k v.1 v.2.1⟩
def tariffref17_texts.l11.L (k : Nat) : ELoop U := ⟨[.ptr 1 1 [] (.st 0), .row 3 .str, .slot 6 (.int .i64), .box 1 (.st 0) []], 4, [.row 3 .str], fun (v : (List ByteArray) × Int × Model) => tariffref17_texts.l11 k v.2.2 k v.1 v.2.1⟩
def tariffref17_texts.H (k : Nat) : Hint U := ⟨[], fun i => if i == 250 then some (tariffref17_texts.l11.L k) else if i == 122 then some (tariffref17_texts.l7.L k) else if i == 58 then some (tariffref17_texts.l3.L k) else none, fun i => none, fun i => none⟩
theorem tariffref17_texts.l3.ok (k n : Nat) (v : Vars U (tariffref17_texts.l3.L k).ks) : loopT (tariffref17_texts.G k) (tariffref17_texts.H k) (pick [true, true, false, true, false, false] (bodyOf Tryz.f17)) 58 (tariffref17_texts.l3.L k) n v = (fun (v : (List ByteArray) × Int × Model) => tariffref17_texts.l3 k v.2.2 n v.1 v.2.1) v :=
  loopT_eq (tariffref17_texts.G k) (tariffref17_texts.H k) _ _ (tariffref17_texts.l3.L k) (fun n (v : (List ByteArray) × Int × Model) => tariffref17_texts.l3 k v.2.2 n v.1 v.2.1) (fun _ => rfl) (fun n v => by kernel_rfl) n v
theorem tariffref17_texts.l7.ok (k n : Nat) (v : Vars U (tariffref17_texts.l7.L k).ks) : loopT (tariffref17_texts.G k) (tariffref17_texts.H k) (pick [true, true, true, false, true, false, false] (bodyOf Tryz.f17)) 122 (tariffref17_texts.l7.L k) n v = (fun (v : (List ByteArray) × Int × Model) => tariffref17_texts.l7 k v.2.2 n v.1 v.2.1) v :=
  loopT_eq (tariffref17_texts.G k) (tariffref17_texts.H k) _ _ (tariffref17_texts.l7.L k) (fun n (v : (List ByteArray) × Int × Model) => tariffref17_texts.l7 k v.2.2 n v.1 v.2.1) (fun _ => rfl) (fun n v => by kernel_rfl) n v
theorem tariffref17_texts.l11.ok (k n : Nat) (v : Vars U (tariffref17_texts.l11.L k).ks) : loopT (tariffref17_texts.G k) (tariffref17_texts.H k) (pick [true, true, true, true, false, true, false, false] (bodyOf Tryz.f17)) 250 (tariffref17_texts.l11.L k) n v = (fun (v : (List ByteArray) × Int × Model) => tariffref17_texts.l11 k v.2.2 n v.1 v.2.1) v :=
  loopT_eq (tariffref17_texts.G k) (tariffref17_texts.H k) _ _ (tariffref17_texts.l11.L k) (fun n (v : (List ByteArray) × Int × Model) => tariffref17_texts.l11 k v.2.2 n v.1 v.2.1) (fun _ => rfl) (fun n v => by kernel_rfl) n v
theorem tariffref17_texts.ev (k : Nat) (v : Model) : evFn (tariffref17_texts.G k) (tariffref17_texts.H k) tariffref17_texts.S Tryz.f17 (encA tariffref17_texts.P v) = tariffref17_texts.u k v := by kernel_rfl
theorem tariffref17_texts.fns : Fns Tryz.prog 17 Tryz.f17 tariffref17_texts.P := ⟨Tryz.func17, by kernel_rfl⟩
theorem tariffref17_texts.loops (k : Nat) : LoopsOk (tariffref17_texts.G k) (tariffref17_texts.H k) (bodyOf Tryz.f17) 1 := loops_of (ps := [(58, pick [true, true, false, true, false, false] (bodyOf Tryz.f17)), (122, pick [true, true, true, false, true, false, false] (bodyOf Tryz.f17)), (250, pick [true, true, true, true, false, true, false, false] (bodyOf Tryz.f17))]) (by kernel_rfl) ⟨loopT_ok rfl fun v x hx => ⟨k, (tariffref17_texts.l3.ok k k v).trans hx⟩, ⟨loopT_ok rfl fun v x hx => ⟨k, (tariffref17_texts.l7.ok k k v).trans hx⟩, ⟨loopT_ok rfl fun v x hx => ⟨k, (tariffref17_texts.l11.ok k k v).trans hx⟩, trivial⟩⟩⟩
theorem tariffref17_texts.call (k : Nat) : FnC Tryz.prog U Lay 17 tariffref17_texts.P tariffref17_texts.S (tariffref17_texts.u k) := fnC hLay ulaw gok (fun f xs => (.ite (.entry (tariffref17_tableTexts.call k)) (CallC.none) : CallC Tryz.prog U Lay _ f xs)) (fun f xs => (CallC2.none : CallC2 Tryz.prog U Lay _ f xs)) tariffref17_texts.fns (tariffref17_texts.loops k) (tariffref17_texts.ev k)
def tariffref17_Weight.l4 (k : Nat) (v3 : List ByteArray) : Nat → Int → Int → Option (Int)
 | 0, _, _ => none
 | n + 1, v4, v5 =>
 if (decide (v5 < (v3.length : Int))) = true then
 (idx v3 v5).bind fun e2 =>
 tariffref17_Weight.l4 k v3 n (IntKind.wrap .i64 ((IntKind.wrap .i64 (v4 + (e2.size : Int))) + (20 : Int))) (IntKind.wrap .i64 (v5 + (1 : Int)))
 else
 some v4
def tariffref17_Weight (k : Nat) (a0 : Model) : Option (Int) :=
 (tariffref17_texts k a0).bind fun r1 =>
 (tariffref17_Weight.l4 k r1 k (0 : Int) (0 : Int)).bind fun x3 =>
 some x3
def tariffref17_Weight.u (k : Nat) (v : Model) : Option (Int) := tariffref17_Weight k v
def tariffref17_Weight.G (k : Nat) : Ctx U := ⟨tyOf, bytesOf, fun f xs => if f == 17 then entry tariffref17_texts.P tariffref17_texts.S (tariffref17_texts.u k) xs else none, fun f xs => none, fun d => false⟩
def tariffref17_Weight.l4.L (k : Nat) : ELoop U := ⟨[.slot 3 (.sl .str), .slot 4 (.int .i64), .slot 5 (.int .i64)], 0, [.slot 4 (.int .i64)], fun (v : (List ByteArray) × Int × Int) => tariffref17_Weight.l4 k v.1 k v.2.1 v.2.2⟩
def tariffref17_Weight.H (k : Nat) : Hint U := ⟨[], fun i => if i == 122 then some (tariffref17_Weight.l4.L k) else none, fun i => none, fun i => none⟩
theorem tariffref17_Weight.l4.ok (k n : Nat) (v : Vars U (tariffref17_Weight.l4.L k).ks) : loopT (tariffref17_Weight.G k) (tariffref17_Weight.H k) (pick [true, true, true, false, true, false, false] (bodyOf Tryz.f8)) 122 (tariffref17_Weight.l4.L k) n v = (fun (v : (List ByteArray) × Int × Int) => tariffref17_Weight.l4 k v.1 n v.2.1 v.2.2) v :=
  loopT_eq (tariffref17_Weight.G k) (tariffref17_Weight.H k) _ _ (tariffref17_Weight.l4.L k) (fun n (v : (List ByteArray) × Int × Int) => tariffref17_Weight.l4 k v.1 n v.2.1 v.2.2) (fun _ => rfl) (fun n v => by kernel_rfl) n v
theorem tariffref17_Weight.ev (k : Nat) (v : Model) : evFn (tariffref17_Weight.G k) (tariffref17_Weight.H k) tariffref17_Weight.S Tryz.f8 (encA tariffref17_Weight.P v) = tariffref17_Weight.u k v := by kernel_rfl
theorem tariffref17_Weight.fns : Fns Tryz.prog 8 Tryz.f8 tariffref17_Weight.P := ⟨Tryz.func8, by kernel_rfl⟩
theorem tariffref17_Weight.loops (k : Nat) : LoopsOk (tariffref17_Weight.G k) (tariffref17_Weight.H k) (bodyOf Tryz.f8) 1 := loops_of (ps := [(122, pick [true, true, true, false, true, false, false] (bodyOf Tryz.f8))]) (by kernel_rfl) ⟨loopT_ok rfl fun v x hx => ⟨k, (tariffref17_Weight.l4.ok k k v).trans hx⟩, trivial⟩
theorem tariffref17_Weight.call (k : Nat) : FnC Tryz.prog U Lay 8 tariffref17_Weight.P tariffref17_Weight.S (tariffref17_Weight.u k) := fnC hLay ulaw gok (fun f xs => (.ite (.entry (tariffref17_texts.call k)) (CallC.none) : CallC Tryz.prog U Lay _ f xs)) (fun f xs => (CallC2.none : CallC2 Tryz.prog U Lay _ f xs)) tariffref17_Weight.fns (tariffref17_Weight.loops k) (tariffref17_Weight.ev k)
def tarifflaw17_ModelTypes (k : Nat) (a0 : Model) (a1 : ByteArray) : Option (Bool) :=
 (known).bind fun r1 =>
 if (!r1) = true then
 some false
 else
 (tariffref17_DocType k a0 a1).bind fun r2 =>
 (model_Type k a0 a1).bind fun r3 =>
 if ((r2.1.kind == r3.1.kind) && ((r2.1.of == r3.1.of) && true)) = true then
 if (r2.2.1.data.toList == r3.2.1.data.toList) = true then
 if (r2.2.2 == r3.2.2) = true then
 (model_Weight k a0).bind fun r4 =>
 (tariffref17_Weight k a0).bind fun r5 =>
 some (r4 == r5)
 else
 some false
 else
 if false = true then
 (model_Weight k a0).bind fun r6 =>
 (tariffref17_Weight k a0).bind fun r7 =>
 some (r6 == r7)
 else
 some false
 else
 if false = true then
 if (r2.2.2 == r3.2.2) = true then
 (model_Weight k a0).bind fun r8 =>
 (tariffref17_Weight k a0).bind fun r9 =>
 some (r8 == r9)
 else
 some false
 else
 if false = true then
 (model_Weight k a0).bind fun r10 =>
 (tariffref17_Weight k a0).bind fun r11 =>
 some (r10 == r11)
 else
 some false
def tarifflaw17_ModelTypes.u (k : Nat) (v : Model × ByteArray) : Option (Bool) := tarifflaw17_ModelTypes k v.1 v.2
def tarifflaw17_ModelTypes.G (k : Nat) : Ctx U := ⟨tyOf, bytesOf, fun f xs => if f == 4 then entry known.P known.S (known.u) xs else if f == 5 then entry tariffref17_DocType.P tariffref17_DocType.S (tariffref17_DocType.u k) xs else if f == 6 then entry model_Type.P model_Type.S (model_Type.u k) xs else if f == 7 then entry model_Weight.P model_Weight.S (model_Weight.u k) xs else if f == 8 then entry tariffref17_Weight.P tariffref17_Weight.S (tariffref17_Weight.u k) xs else none, fun f xs => none, fun d => false⟩
def tarifflaw17_ModelTypes.H (k : Nat) : Hint U := ⟨[], fun i => none, fun i => none, fun i => none⟩
theorem tarifflaw17_ModelTypes.ev (k : Nat) (v : Model × ByteArray) : evFn (tarifflaw17_ModelTypes.G k) (tarifflaw17_ModelTypes.H k) tarifflaw17_ModelTypes.S Tryz.f3 (encA tarifflaw17_ModelTypes.P v) = tarifflaw17_ModelTypes.u k v := by kernel_rfl
theorem tarifflaw17_ModelTypes.fns : Fns Tryz.prog 3 Tryz.f3 tarifflaw17_ModelTypes.P := ⟨Tryz.func3, by kernel_rfl⟩
theorem tarifflaw17_ModelTypes.loops (k : Nat) : LoopsOk (tarifflaw17_ModelTypes.G k) (tarifflaw17_ModelTypes.H k) (bodyOf Tryz.f3) 1 := loops_of (ps := []) (by kernel_rfl) trivial
theorem tarifflaw17_ModelTypes.call (k : Nat) : FnC Tryz.prog U Lay 3 tarifflaw17_ModelTypes.P tarifflaw17_ModelTypes.S (tarifflaw17_ModelTypes.u k) := fnC hLay ulaw gok (fun f xs => (.ite (.entry (known.call)) (.ite (.entry (tariffref17_DocType.call k)) (.ite (.entry (model_Type.call k)) (.ite (.entry (model_Weight.call k)) (.ite (.entry (tariffref17_Weight.call k)) (CallC.none))))) : CallC Tryz.prog U Lay _ f xs)) (fun f xs => (CallC2.none : CallC2 Tryz.prog U Lay _ f xs)) tarifflaw17_ModelTypes.fns (tarifflaw17_ModelTypes.loops k) (tarifflaw17_ModelTypes.ev k)
end Go.EvT
end
section
set_option maxRecDepth 100000
namespace Go.EvT
open Go.Ev Go
abbrev Sh {α : Type} (l : List α) : Prop := l.length ≤ 1048576
theorem idx_n {α : Type} (l : List α) (i : Nat) : idx l (i : Int) = l[i]? := by
  unfold idx
  rw [if_pos (by omega), Int.toNat_natCast]
theorem wrap_n {i : Nat} (h : i < 4000000) : IntKind.wrap .i64 ((i : Int) + 1) = ((i + 1 : Nat) : Int) := by
  have e : ∀ n : Int, -9223372036854775808 ≤ n → n < 9223372036854775808 → IntKind.i64.wrap n = n := by
    intro n h0 h1
    rw [IntKind.wrap_i64]
    omega
  rw [e _ (by omega) (by omega)]
  omega
theorem wrap_add (a b : Int) : IntKind.wrap .i64 (IntKind.wrap .i64 a + IntKind.wrap .i64 b) = IntKind.wrap .i64 (a + b) := by
  simp only [IntKind.wrap_i64]
  omega
theorem wrap_addr (a b : Int) : IntKind.wrap .i64 (a + IntKind.wrap .i64 b) = IntKind.wrap .i64 (a + b) := by
  simp only [IntKind.wrap_i64]
  omega
theorem wrap_addl (a b : Int) : IntKind.wrap .i64 (IntKind.wrap .i64 a + b) = IntKind.wrap .i64 (a + b) := by
  simp only [IntKind.wrap_i64]
  omega
theorem wrap_add3 (a b c : Int) : IntKind.wrap .i64 (IntKind.wrap .i64 (IntKind.wrap .i64 a + IntKind.wrap .i64 b) + IntKind.wrap .i64 c) = IntKind.wrap .i64 (a + b + c) := by
  simp only [IntKind.wrap_i64]
  omega
theorem wrap_zero : IntKind.wrap .i64 0 = 0 := by
  rw [IntKind.wrap_i64]
  omega
theorem loop_fold {α β γ : Type} {L : Nat → β → Int → Option γ} {l : List α} {f : β → α → β} {fin : β → γ} (I : List α → β → Prop)
    (h0 : ∀ n acc (i : Nat), l.length ≤ i → L (n + 1) acc (i : Int) = some (fin acc))
    (h1 : ∀ n acc (i : Nat) x r, i < l.length → l[i]? = some x → x ∈ l → I (x :: r) acc → L (n + 1) acc (i : Int) = L n (f acc x) ((i + 1 : Nat) : Int))
    (hI : ∀ x r acc, I (x :: r) acc → I r (f acc x)) :
    ∀ (n i : Nat) (acc : β), i ≤ l.length → l.length - i < n → I (l.drop i) acc → L n acc (i : Int) = some (fin ((l.drop i).foldl f acc)) := by
  intro n
  induction n with
  | zero => intro i acc _ h; omega
  | succ n ih =>
    intro i acc hi hn hh
    by_cases hlt : i < l.length
    · rw [List.drop_eq_getElem_cons hlt] at hh ⊢
      rw [h1 n acc i _ _ hlt (List.getElem?_eq_getElem hlt) (List.getElem_mem hlt) hh, ih (i + 1) _ (by omega) (by omega) (hI _ _ _ hh)]
      rfl
    · rw [h0 n acc i (by omega), List.drop_of_length_le (by omega)]
      rfl
theorem loop_find {α β γ : Type} {L : Nat → Int → Option (Fl β γ)} {l : List α} {p : α → Bool} {g : α → γ} {z : β}
    (h0 : ∀ n (i : Nat), l.length ≤ i → L (n + 1) (i : Int) = some (.go z))
    (h1 : ∀ n (i : Nat) x, i < l.length → l[i]? = some x → L (n + 1) (i : Int) = if p x = true then some (.ret (g x)) else L n ((i + 1 : Nat) : Int)) :
    ∀ (n i : Nat), i ≤ l.length → l.length - i < n → L n (i : Int) = match (l.drop i).find? p with | some x => some (.ret (g x)) | none => some (.go z) := by
  intro n
  induction n with
  | zero => intro i _ h; omega
  | succ n ih =>
    intro i hi hn
    by_cases hlt : i < l.length
    · rw [List.drop_eq_getElem_cons hlt, h1 n i _ hlt (List.getElem?_eq_getElem hlt), List.find?_cons]
      cases hp : p l[i] with
      | true => rfl
      | false =>
        rw [if_neg (by simp)]
        exact ih (i + 1) (by omega) (by omega)
    · rw [h0 n i (by omega), List.drop_of_length_le (by omega)]
      rfl
def sz (s : ByteArray) : Int := (s.size : Int) + 20
def W : List ByteArray → Int
  | [] => 0
  | s :: r => sz s + W r
def sumW {α : Type} (f : α → Int) : List α → Int
  | [] => 0
  | x :: r => f x + sumW f r
theorem W_app : ∀ a b : List ByteArray, W (a ++ b) = W a + W b
  | [], b => by simp [W]
  | s :: a, b => by
    show sz s + W (a ++ b) = sz s + W a + W b
    rw [W_app a b]
    omega
theorem W_flat {α : Type} (g : α → List ByteArray) : ∀ l : List α, W (l.flatMap g) = sumW (fun x => W (g x)) l
  | [] => rfl
  | x :: l => by
    rw [List.flatMap_cons, W_app, W_flat g l]
    rfl
theorem sumW_app {α : Type} (f : α → Int) : ∀ a b : List α, sumW f (a ++ b) = sumW f a + sumW f b
  | [], b => by simp [sumW]
  | s :: a, b => by
    show f s + sumW f (a ++ b) = f s + sumW f a + sumW f b
    rw [sumW_app f a b]
    omega
def itemT (i : Item) : List ByteArray := [i.name, i.allowed]
def inputT (i : Input) : List ByteArray := [i.id, i.name, i.item]
def colT (c : Column) : List ByteArray := [c.text, c.item] ++ c.values
def ruleT (r : Rule) : List ByteArray := r.tests ++ r.says
def tabT (t : Tabl) : List ByteArray := ((t.ins ++ t.outs).flatMap colT ++ t.rules.flatMap ruleT) ++ t.default
def decT (d : Decision) : List ByteArray := ([d.id, d.name, d.item, d.text] ++ d.needs) ++ tabT d.table
def modT (m : Model) : List ByteArray := (([m.id, m.name] ++ m.items.flatMap itemT) ++ m.inputs.flatMap inputT) ++ m.decisions.flatMap decT
theorem fold_wrap {α : Type} (f : α → Int) : ∀ (l : List α) (a : Int), l.foldl (fun acc x => IntKind.wrap .i64 (acc + IntKind.wrap .i64 (f x))) (IntKind.wrap .i64 a) = IntKind.wrap .i64 (a + sumW f l)
  | [], a => by simp [sumW]
  | x :: l, a => by
    rw [List.foldl_cons, wrap_add, fold_wrap f l]
    show _ = IntKind.wrap .i64 (a + (f x + sumW f l))
    rw [Int.add_assoc]
theorem sumW_sz : ∀ l : List ByteArray, sumW sz l = W l
  | [] => rfl
  | s :: l => by
    show sz s + sumW sz l = sz s + W l
    rw [sumW_sz l]
section
variable {k : Nat}
theorem weigh_eq (hk : 1048580 ≤ k) {l : List ByteArray} (hl : Sh l) : model_weigh k l = some (IntKind.wrap .i64 (W l)) := by
  unfold model_weigh
  have h := loop_fold (L := model_weigh.l3 k l (l.length : Int)) (l := l) (f := fun acc x => IntKind.wrap .i64 (acc + IntKind.wrap .i64 (sz x))) (fin := id) (fun _ _ => True)
    (fun n acc i hi => by
      simp only [model_weigh.l3]
      rw [if_neg (by simp; omega)]
      rfl)
    (fun n acc i x r hi hx _ _ => by
      simp only [model_weigh.l3]
      rw [if_pos (by simp; omega), idx_n, hx]
      simp only [Option.bind_some]
      rw [wrap_n (by omega)]
      rfl) (fun _ _ _ _ => trivial) k 0 0 (Nat.zero_le _) (by omega) trivial
  have h0 : ((0 : Nat) : Int) = 0 := rfl
  rw [h0] at h
  rw [h]
  simp only [List.drop_zero, Option.bind_some, id]
  rw [show (0 : Int) = IntKind.wrap .i64 0 from wrap_zero.symm, fold_wrap sz l 0, sumW_sz, Int.zero_add]
theorem rweigh_eq (hk : 1048580 ≤ k) {l : List ByteArray} (hl : Sh l) : ((tariffref17_Weight.l4 k l k (0 : Int) (0 : Int)).bind fun x3 => some x3) = some (IntKind.wrap .i64 (W l)) := by
  have h := loop_fold (L := tariffref17_Weight.l4 k l) (l := l) (f := fun acc x => IntKind.wrap .i64 (acc + IntKind.wrap .i64 (sz x))) (fin := id) (fun _ _ => True)
    (fun n acc i hi => by
      simp only [tariffref17_Weight.l4]
      rw [if_neg (by simp; omega)]
      rfl)
    (fun n acc i x r hi hx _ _ => by
      simp only [tariffref17_Weight.l4]
      rw [if_pos (by simp; omega), idx_n, hx]
      simp only [Option.bind_some]
      rw [wrap_n (by omega), wrap_addl, wrap_addr]
      show tariffref17_Weight.l4 k l n (IntKind.wrap .i64 (acc + (x.size : Int) + 20)) _ = tariffref17_Weight.l4 k l n (IntKind.wrap .i64 (acc + ((x.size : Int) + 20))) _
      rw [Int.add_assoc]) (fun _ _ _ _ => trivial) k 0 0 (Nat.zero_le _) (by omega) trivial
  have h0 : ((0 : Nat) : Int) = 0 := rfl
  rw [h0] at h
  rw [h]
  simp only [List.drop_zero, Option.bind_some, id]
  rw [show (0 : Int) = IntKind.wrap .i64 0 from wrap_zero.symm, fold_wrap sz l 0, sumW_sz, Int.zero_add]
abbrev ColOk (c : Column) : Prop := Sh c.values
abbrev RuleOk (r : Rule) : Prop := Sh r.tests ∧ Sh r.says
structure TablOk (t : Tabl) : Prop where
  ins : Sh t.ins
  outs : Sh t.outs
  rules : Sh t.rules
  default : Sh t.default
  insC : ∀ c ∈ t.ins, ColOk c
  outsC : ∀ c ∈ t.outs, ColOk c
  rulesC : ∀ c ∈ t.rules, RuleOk c
structure DecOk (d : Decision) : Prop where
  needs : Sh d.needs
  table : TablOk d.table
structure ModOk (m : Model) : Prop where
  items : Sh m.items
  inputs : Sh m.inputs
  decisions : Sh m.decisions
  decC : ∀ d ∈ m.decisions, DecOk d
  all : (modT m).length ≤ 1048576
theorem cols_eq (hk : 1048580 ≤ k) (a : List (List Column)) (i : Int) {l : List Column} (hl : Sh l) (hc : ∀ c ∈ l, ColOk c) (b : Tabl) (acc : Int) :
    model_weighTable.l6 k a i l (l.length : Int) b k (IntKind.wrap .i64 acc) (0 : Int) = some (IntKind.wrap .i64 (acc + sumW (fun c => W (colT c)) l), a, i, b) := by
  have h := loop_fold (L := model_weighTable.l6 k a i l (l.length : Int) b) (l := l) (f := fun acc x => IntKind.wrap .i64 (acc + IntKind.wrap .i64 (W (colT x)))) (fin := fun x => (x, a, i, b)) (fun _ _ => True)
    (fun n acc i hi => by
      simp only [model_weighTable.l6]
      rw [if_neg (by simp; omega)])
    (fun n acc i x r hi hx hm _ => by
      simp only [model_weighTable.l6]
      rw [if_pos (by simp; omega), idx_n, hx]
      simp only [Option.bind_some]
      rw [weigh_eq hk (by simp [Sh]), weigh_eq hk (hc x hm)]
      simp only [Option.bind_some]
      rw [wrap_n (by omega), wrap_add, ← W_app]
      rfl) (fun _ _ _ _ => trivial) k 0 (IntKind.wrap .i64 acc) (Nat.zero_le _) (by omega) trivial
  have h0 : ((0 : Nat) : Int) = 0 := rfl
  rw [h0] at h
  rw [h]
  simp only [List.drop_zero]
  rw [fold_wrap]
theorem weighTable_eq (hk : 1048580 ≤ k) {t : Tabl} (ht : TablOk t) : model_weighTable k t = some (IntKind.wrap .i64 (W (tabT t))) := by
  unfold model_weighTable
  rw [weigh_eq hk ht.default]
  simp only [Option.bind_some]
  obtain ⟨k', rfl⟩ : ∃ k', k = k' + 3 := ⟨k - 3, by omega⟩
  have step0 : model_weighTable.l3 (k' + 3) (k' + 3) (IntKind.wrap .i64 (W t.default)) [t.ins, t.outs] 0 t = some (IntKind.wrap .i64 (W t.default + sumW (fun c => W (colT c)) t.ins + sumW (fun c => W (colT c)) t.outs), t) := by
    have i0 : idx [t.ins, t.outs] (0 : Int) = some t.ins := rfl
    have i1 : idx [t.ins, t.outs] (1 : Int) = some t.outs := rfl
    have w1 : IntKind.wrap .i64 ((0 : Int) + 1) = 1 := by decide
    have w2 : IntKind.wrap .i64 ((1 : Int) + 1) = 2 := by decide
    rw [show k' + 3 = (k' + 2) + 1 from rfl]
    conv => lhs; unfold model_weighTable.l3
    rw [if_pos (by decide), i0]
    simp only [Option.bind_some]
    rw [cols_eq (by omega) _ _ ht.ins ht.insC]
    simp only [Option.bind_some]
    rw [w1]
    rw [show k' + 2 = (k' + 1) + 1 from rfl]
    conv => lhs; unfold model_weighTable.l3
    rw [if_pos (by decide), i1]
    simp only [Option.bind_some]
    rw [cols_eq (by omega) _ _ ht.outs ht.outsC]
    simp only [Option.bind_some]
    rw [w2]
    conv => lhs; unfold model_weighTable.l3
    rw [if_neg (by decide)]
  rw [step0]
  simp only [Option.bind_some]
  have h := loop_fold (L := model_weighTable.l12 (k' + 3) t.rules (t.rules.length : Int)) (l := t.rules) (f := fun acc x => IntKind.wrap .i64 (acc + IntKind.wrap .i64 (W (ruleT x)))) (fin := id) (fun _ _ => True)
    (fun n acc i hi => by
      simp only [model_weighTable.l12]
      rw [if_neg (by simp; omega)]
      rfl)
    (fun n acc i x r hi hx hm _ => by
      have := ht.rules
      simp only [model_weighTable.l12]
      rw [if_pos (by simp; omega), idx_n, hx]
      simp only [Option.bind_some]
      rw [weigh_eq hk (ht.rulesC x hm).1, weigh_eq hk (ht.rulesC x hm).2]
      simp only [Option.bind_some]
      rw [wrap_n (by omega), wrap_add, ← W_app]
      rfl) (fun _ _ _ _ => trivial) (k' + 3) 0 (IntKind.wrap .i64 (W t.default + sumW (fun c => W (colT c)) t.ins + sumW (fun c => W (colT c)) t.outs)) (Nat.zero_le _) (by have := ht.rules; omega) trivial
  have h0 : ((0 : Nat) : Int) = 0 := rfl
  rw [h0] at h
  rw [h]
  simp only [List.drop_zero, Option.bind_some, id]
  rw [fold_wrap]
  unfold tabT
  rw [W_app, W_app, W_flat, W_flat, sumW_app]
  congr 2
  omega
theorem weight_eq (hk : 1048580 ≤ k) {m : Model} (hm : ModOk m) : model_Weight k m = some (IntKind.wrap .i64 (W (modT m))) := by
  unfold model_Weight
  rw [weigh_eq hk (by simp [Sh])]
  simp only [Option.bind_some]
  have h0 : ((0 : Nat) : Int) = 0 := rfl
  have h := loop_fold (L := model_Weight.l3 k m.items (m.items.length : Int) m) (l := m.items) (f := fun acc x => IntKind.wrap .i64 (acc + IntKind.wrap .i64 (W (itemT x)))) (fin := fun x => (x, m)) (fun _ _ => True)
    (fun n acc i hi => by
      simp only [model_Weight.l3]
      rw [if_neg (by simp; omega)])
    (fun n acc i x r hi hx _ _ => by
      have := hm.items
      simp only [model_Weight.l3]
      rw [if_pos (by simp; omega), idx_n, hx]
      simp only [Option.bind_some]
      rw [weigh_eq hk (by simp [Sh])]
      simp only [Option.bind_some]
      rw [wrap_n (by omega)]
      rfl) (fun _ _ _ _ => trivial) k 0 (IntKind.wrap .i64 (W [m.id, m.name])) (Nat.zero_le _) (by have := hm.items; omega) trivial
  rw [h0] at h
  rw [h]
  simp only [List.drop_zero, Option.bind_some]
  rw [fold_wrap]
  have h := loop_fold (L := model_Weight.l8 k m.inputs (m.inputs.length : Int) m) (l := m.inputs) (f := fun acc x => IntKind.wrap .i64 (acc + IntKind.wrap .i64 (W (inputT x)))) (fin := fun x => (x, m)) (fun _ _ => True)
    (fun n acc i hi => by
      simp only [model_Weight.l8]
      rw [if_neg (by simp; omega)])
    (fun n acc i x r hi hx _ _ => by
      have := hm.inputs
      simp only [model_Weight.l8]
      rw [if_pos (by simp; omega), idx_n, hx]
      simp only [Option.bind_some]
      rw [weigh_eq hk (by simp [Sh])]
      simp only [Option.bind_some]
      rw [wrap_n (by omega)]
      rfl) (fun _ _ _ _ => trivial) k 0 (IntKind.wrap .i64 (W [m.id, m.name] + sumW (fun x => W (itemT x)) m.items)) (Nat.zero_le _) (by have := hm.inputs; omega) trivial
  rw [h0] at h
  rw [h]
  simp only [List.drop_zero, Option.bind_some]
  rw [fold_wrap]
  have h := loop_fold (L := model_Weight.l13 k m.decisions (m.decisions.length : Int)) (l := m.decisions) (f := fun acc x => IntKind.wrap .i64 (acc + IntKind.wrap .i64 (W (decT x)))) (fin := id) (fun _ _ => True)
    (fun n acc i hi => by
      simp only [model_Weight.l13]
      rw [if_neg (by simp; omega)]
      rfl)
    (fun n acc i x r hi hx hmem _ => by
      have := hm.decisions
      simp only [model_Weight.l13]
      rw [if_pos (by simp; omega), idx_n, hx]
      simp only [Option.bind_some]
      rw [weigh_eq hk (by simp [Sh]), weigh_eq hk (hm.decC x hmem).needs, weighTable_eq hk (hm.decC x hmem).table]
      simp only [Option.bind_some]
      rw [wrap_n (by omega), wrap_add3, ← W_app, ← W_app]
      rfl) (fun _ _ _ _ => trivial) k 0 (IntKind.wrap .i64 (W [m.id, m.name] + sumW (fun x => W (itemT x)) m.items + sumW (fun x => W (inputT x)) m.inputs)) (Nat.zero_le _) (by have := hm.decisions; omega) trivial
  rw [h0] at h
  rw [h]
  simp only [List.drop_zero, Option.bind_some, id]
  rw [fold_wrap]
  unfold modT
  rw [W_app, W_app, W_app, W_flat, W_flat, W_flat]
theorem roomy {n : Nat} (h : n ≤ 134217728) : room n := (room_iff n).2 (by omega)
theorem fold_app {α : Type} (g : α → List ByteArray) : ∀ (l : List α) (a : List ByteArray), l.foldl (fun acc x => acc ++ g x) a = a ++ l.flatMap g
  | [], a => by simp
  | x :: l, a => by rw [List.foldl_cons, fold_app g l, List.flatMap_cons, List.append_assoc]
def Fits {α : Type} (g : α → List ByteArray) (l : List α) (acc : List ByteArray) : Prop := (acc ++ l.flatMap g).length ≤ 1048576
theorem Fits.step {α : Type} {g : α → List ByteArray} (x : α) (r : List α) (acc : List ByteArray) (h : Fits g (x :: r) acc) : Fits g r (acc ++ g x) := by
  unfold Fits at h ⊢
  rwa [List.flatMap_cons, ← List.append_assoc] at h
theorem Fits.here {α : Type} {g : α → List ByteArray} {x : α} {r : List α} {acc : List ByteArray} (h : Fits g (x :: r) acc) : (acc ++ g x).length ≤ 1048576 := by
  have := Fits.step x r acc h
  unfold Fits at this
  rw [List.length_append] at this
  omega
theorem tableTexts_eq (hk : 2097200 ≤ k) {t : Tabl} (ht : TablOk t) (hl : (tabT t).length ≤ 1048576) : tariffref17_tableTexts k t = some (tabT t) := by
  unfold tariffref17_tableTexts
  have g1 := ht.ins
  have g2 := ht.outs
  have hlen : (((t.ins ++ t.outs).flatMap colT ++ t.rules.flatMap ruleT) ++ t.default).length ≤ 1048576 := hl
  rw [if_pos (roomy (by first | omega | (simp; omega))), if_pos (roomy (by first | omega | (simp; omega))), List.nil_append]
  have h0 : ((0 : Nat) : Int) = 0 := rfl
  have h := loop_fold (L := tariffref17_tableTexts.l4 k (t.ins ++ t.outs) t) (l := t.ins ++ t.outs) (f := fun acc x => acc ++ colT x) (fin := fun x => (x, t)) (Fits colT)
    (fun n acc i hi => by
      simp only [tariffref17_tableTexts.l4]
      rw [if_neg (by simp only [decide_eq_true_eq]; omega)])
    (fun n acc i x r hi hx _ hf => by
      have hf := hf.here
      rw [List.length_append] at hf
      have hc : (colT x).length = 2 + x.values.length := by simp [colT]; omega
      have hi2 : i < t.ins.length + t.outs.length := by rw [List.length_append] at hi; exact hi
      simp only [tariffref17_tableTexts.l4]
      rw [if_pos (by simp only [decide_eq_true_eq]; omega), idx_n, hx]
      simp only [Option.bind_some]
      rw [if_pos (roomy (by first | omega | (simp; omega))), if_pos (roomy (by first | omega | (simp; omega))), wrap_n (by omega), List.append_assoc]
      rfl) Fits.step k 0 [] (Nat.zero_le _) (by rw [List.length_append]; omega) (by
        unfold Fits
        simp only [List.drop_zero, List.nil_append]
        simp only [List.length_append] at hlen ⊢
        omega)
  rw [h0] at h
  rw [h]
  simp only [List.drop_zero, Option.bind_some]
  rw [fold_app, List.nil_append]
  have g3 := ht.rules
  have h := loop_fold (L := tariffref17_tableTexts.l9 k t) (l := t.rules) (f := fun acc x => acc ++ ruleT x) (fin := fun x => (x, t)) (Fits ruleT)
    (fun n acc i hi => by
      simp only [tariffref17_tableTexts.l9]
      rw [if_neg (by simp only [decide_eq_true_eq]; omega)])
    (fun n acc i x r hi hx _ hf => by
      have hf := hf.here
      rw [List.length_append] at hf
      have hc : (ruleT x).length = x.tests.length + x.says.length := by simp [ruleT]
      simp only [tariffref17_tableTexts.l9]
      rw [if_pos (by simp only [decide_eq_true_eq]; omega), idx_n, hx]
      simp only [Option.bind_some]
      rw [if_pos (roomy (by first | omega | (simp; omega))), if_pos (roomy (by first | omega | (simp; omega))), wrap_n (by omega), List.append_assoc]
      rfl) Fits.step k 0 ((t.ins ++ t.outs).flatMap colT) (Nat.zero_le _) (by omega) (by
        unfold Fits
        simp only [List.drop_zero]
        rw [List.length_append] at hlen
        omega)
  rw [h0] at h
  rw [h]
  simp only [List.drop_zero, Option.bind_some]
  rw [fold_app, if_pos (roomy (by rw [List.length_append] at hlen; omega))]
  rfl
theorem texts_eq (hk : 2097200 ≤ k) {m : Model} (hm : ModOk m) : tariffref17_texts k m = some (modT m) := by
  unfold tariffref17_texts
  have hlen : ((([m.id, m.name] ++ m.items.flatMap itemT) ++ m.inputs.flatMap inputT) ++ m.decisions.flatMap decT).length ≤ 1048576 := hm.all
  have h0 : ((0 : Nat) : Int) = 0 := rfl
  have g1 := hm.items
  have g2 := hm.inputs
  have g3 := hm.decisions
  have h := loop_fold (L := tariffref17_texts.l3 k m) (l := m.items) (f := fun acc x => acc ++ itemT x) (fin := fun x => (x, m)) (Fits itemT)
    (fun n acc i hi => by
      simp only [tariffref17_texts.l3]
      rw [if_neg (by simp only [decide_eq_true_eq]; omega)])
    (fun n acc i x r hi hx _ hf => by
      have hf := hf.here
      rw [List.length_append] at hf
      simp only [tariffref17_texts.l3]
      rw [if_pos (by simp only [decide_eq_true_eq]; omega), idx_n, hx]
      simp only [Option.bind_some]
      have hc : (itemT x).length = 2 := rfl
      rw [if_pos (roomy (by first | omega | (simp; omega))), wrap_n (by omega)]
      rfl) Fits.step k 0 [m.id, m.name] (Nat.zero_le _) (by omega) (by
        unfold Fits
        simp only [List.drop_zero]
        rw [List.length_append, List.length_append] at hlen
        omega)
  rw [h0] at h
  rw [h]
  simp only [List.drop_zero, Option.bind_some]
  rw [fold_app]
  have h := loop_fold (L := tariffref17_texts.l7 k m) (l := m.inputs) (f := fun acc x => acc ++ inputT x) (fin := fun x => (x, m)) (Fits inputT)
    (fun n acc i hi => by
      simp only [tariffref17_texts.l7]
      rw [if_neg (by simp only [decide_eq_true_eq]; omega)])
    (fun n acc i x r hi hx _ hf => by
      have hf := hf.here
      rw [List.length_append] at hf
      simp only [tariffref17_texts.l7]
      rw [if_pos (by simp only [decide_eq_true_eq]; omega), idx_n, hx]
      simp only [Option.bind_some]
      have hc : (inputT x).length = 3 := rfl
      rw [if_pos (roomy (by first | omega | (simp; omega))), wrap_n (by omega)]
      rfl) Fits.step k 0 ([m.id, m.name] ++ m.items.flatMap itemT) (Nat.zero_le _) (by omega) (by
        unfold Fits
        simp only [List.drop_zero]
        rw [List.length_append] at hlen
        omega)
  rw [h0] at h
  rw [h]
  simp only [List.drop_zero, Option.bind_some]
  rw [fold_app]
  have h := loop_fold (L := tariffref17_texts.l11 k m) (l := m.decisions) (f := fun acc x => acc ++ decT x) (fin := id) (Fits decT)
    (fun n acc i hi => by
      simp only [tariffref17_texts.l11]
      rw [if_neg (by simp only [decide_eq_true_eq]; omega)]
      rfl)
    (fun n acc i x r hi hx hmem hf => by
      have hf := hf.here
      rw [List.length_append] at hf
      have hd := hm.decC x hmem
      have hc : (decT x).length = 4 + x.needs.length + (tabT x.table).length := by simp [decT]; omega
      simp only [tariffref17_texts.l11]
      rw [if_pos (by simp only [decide_eq_true_eq]; omega), idx_n, hx]
      simp only [Option.bind_some]
      rw [if_pos (roomy (by first | omega | (simp; omega))), if_pos (roomy (by first | omega | (simp; omega))), tableTexts_eq hk hd.table (by omega)]
      simp only [Option.bind_some]
      rw [if_pos (roomy (by first | omega | (simp; omega))), wrap_n (by omega), List.append_assoc, List.append_assoc, ← List.append_assoc ([x.id, x.name, x.item, x.text] : List ByteArray)]
      rfl) Fits.step k 0 (([m.id, m.name] ++ m.items.flatMap itemT) ++ m.inputs.flatMap inputT) (Nat.zero_le _) (by omega) (by
        unfold Fits
        simp only [List.drop_zero]
        exact hlen)
  rw [h0] at h
  rw [h]
  simp only [List.drop_zero, Option.bind_some, id]
  rw [fold_app]
  rfl
theorem rweight_eq (hk : 2097200 ≤ k) {m : Model} (hm : ModOk m) : tariffref17_Weight k m = some (IntKind.wrap .i64 (W (modT m))) := by
  unfold tariffref17_Weight
  rw [texts_eq hk hm]
  simp only [Option.bind_some]
  exact rweigh_eq (by omega) hm.all
end
end Go.EvT
end
section
set_option maxRecDepth 100000
namespace Go.EvT
open Go.Ev Go
def simpL : List ByteArray := [⟨#[97, 110, 121]⟩, ⟨#[98, 111, 111, 108, 101, 97, 110]⟩, ⟨#[110, 117, 109, 98, 101, 114]⟩, ⟨#[115, 116, 114, 105, 110, 103]⟩, ⟨#[100, 97, 116, 101]⟩]
def nmL : List ByteArray := simpL ++ [⟨#[108, 105, 115, 116, 60, 97, 110, 121, 62]⟩, ⟨#[108, 105, 115, 116, 60, 98, 111, 111, 108, 101, 97, 110, 62]⟩, ⟨#[108, 105, 115, 116, 60, 110, 117, 109, 98, 101, 114, 62]⟩, ⟨#[108, 105, 115, 116, 60, 115, 116, 114, 105, 110, 103, 62]⟩, ⟨#[108, 105, 115, 116, 60, 100, 97, 116, 101, 62]⟩]
theorem ext_list (s : ByteArray) (a b : Nat) : (s.extract a b).data.toList = (s.data.toList.drop a).take (b - a) := by
  rw [ByteArray.data_extract, Array.toList_extract, List.extract_eq_take_drop]
theorem names_in (k : Nat) : ∀ i : Nat, i < 10 → ∃ x ∈ nmL, tariffref08_names (k + 20) (i : Int) = some x
  | 0, _ => ⟨_, List.mem_of_getElem? (i := 0) rfl, by kernel_rfl⟩
  | 1, _ => ⟨_, List.mem_of_getElem? (i := 1) rfl, by kernel_rfl⟩
  | 2, _ => ⟨_, List.mem_of_getElem? (i := 2) rfl, by kernel_rfl⟩
  | 3, _ => ⟨_, List.mem_of_getElem? (i := 3) rfl, by kernel_rfl⟩
  | 4, _ => ⟨_, List.mem_of_getElem? (i := 4) rfl, by kernel_rfl⟩
  | 5, _ => ⟨_, List.mem_of_getElem? (i := 5) rfl, by kernel_rfl⟩
  | 6, _ => ⟨_, List.mem_of_getElem? (i := 6) rfl, by kernel_rfl⟩
  | 7, _ => ⟨_, List.mem_of_getElem? (i := 7) rfl, by kernel_rfl⟩
  | 8, _ => ⟨_, List.mem_of_getElem? (i := 8) rfl, by kernel_rfl⟩
  | 9, _ => ⟨_, List.mem_of_getElem? (i := 9) rfl, by kernel_rfl⟩
  | n + 10, h => by omega
theorem simple_in : ∀ i : Nat, i < 5 → ∃ x, simpL[i]? = some x ∧ kind_simple (i : Int) = some x
  | 0, _ => ⟨_, rfl, by kernel_rfl⟩
  | 1, _ => ⟨_, rfl, by kernel_rfl⟩
  | 2, _ => ⟨_, rfl, by kernel_rfl⟩
  | 3, _ => ⟨_, rfl, by kernel_rfl⟩
  | 4, _ => ⟨_, rfl, by kernel_rfl⟩
  | n + 5, h => by omega
def Miss (s : ByteArray) : Prop := ∀ x ∈ nmL, ¬ (x.data.toList = s.data.toList)
theorem doc_loop (k : Nat) {s : ByteArray} (h : Miss s) (z : Typ) : tariffref08_DocParse.l2 (k + 20) s z (k + 20) 0 = some (.go z) := by
  have st : ∀ (n i : Nat), i < 10 → tariffref08_DocParse.l2 (k + 20) s z (n + 1) (i : Int) = tariffref08_DocParse.l2 (k + 20) s z n ((i + 1 : Nat) : Int) := by
    intro n i hi
    obtain ⟨x, hx, hn⟩ := names_in k i hi
    simp only [tariffref08_DocParse.l2]
    rw [if_pos (by simp only [decide_eq_true_eq]; omega), hn]
    simp only [Option.bind_some]
    rw [if_neg (by simpa using h x hx), wrap_n (by omega)]
  have h0 : ((0 : Nat) : Int) = 0 := rfl
  rw [← h0, st (k + 19) 0 (by omega), st (k + 18) 1 (by omega), st (k + 17) 2 (by omega), st (k + 16) 3 (by omega), st (k + 15) 4 (by omega), st (k + 14) 5 (by omega), st (k + 13) 6 (by omega), st (k + 12) 7 (by omega), st (k + 11) 8 (by omega), st (k + 10) 9 (by omega)]
  simp only [tariffref08_DocParse.l2]
  rw [if_neg (by decide)]
theorem doc_miss (k : Nat) {s : ByteArray} (h : Miss s) : tariffref08_DocParse (k + 20) s = some ((⟨0, 0⟩ : Typ), 8) := by
  unfold tariffref08_DocParse
  rw [doc_loop k h]
  rfl
theorem loop_miss (k : Nat) {v : ByteArray} {b : Bool} (h : ∀ x ∈ simpL, ¬ (x.data.toList = v.data.toList)) (z : Typ) : kind_Parse.l8 (k + 20) v b z (k + 20) 0 = some (.go z) := by
  have st : ∀ (n i : Nat), i < 5 → kind_Parse.l8 (k + 20) v b z (n + 1) (i : Int) = kind_Parse.l8 (k + 20) v b z n ((i + 1 : Nat) : Int) := by
    intro n i hi
    obtain ⟨x, hx, hn⟩ := simple_in i hi
    simp only [kind_Parse.l8]
    rw [if_pos (by simp only [decide_eq_true_eq]; omega), hn]
    simp only [Option.bind_some]
    rw [if_pos (by simpa using h x (List.mem_of_getElem? hx)), wrap_n (by omega)]
  have h0 : ((0 : Nat) : Int) = 0 := rfl
  rw [← h0, st (k + 19) 0 (by omega), st (k + 18) 1 (by omega), st (k + 17) 2 (by omega), st (k + 16) 3 (by omega), st (k + 15) 4 (by omega)]
  simp only [kind_Parse.l8]
  rw [if_neg (by decide)]
theorem wrap_id {n : Int} (h0 : 0 ≤ n) (h1 : n < 4000000) : IntKind.wrap .i64 n = n := by
  rw [IntKind.wrap_i64]
  omega
def preB : ByteArray := ByteArray.mk #[108, 105, 115, 116, 60]
def sufB : ByteArray := ByteArray.mk #[62]
theorem cutPre (s : ByteArray) : strings_CutPrefix s preB = some (if preB.data.toList = s.data.toList.take 5 then (s.extract 5 s.size, true) else (s, false)) := by
  have e5 : preB.size = 5 := rfl
  unfold strings_CutPrefix stringslite_CutPrefix stringslite_HasPrefix
  rw [e5]
  by_cases h5 : 5 ≤ s.size
  · rw [if_pos (by simp only [decide_eq_true_eq]; omega), if_pos (by omega)]
    simp only [Option.bind_some]
    have e : (s.extract (0 : Int).toNat ((5 : Nat) : Int).toNat).data.toList = s.data.toList.take 5 := by
      rw [ext_list]
      rfl
    rw [e]
    by_cases hp : preB.data.toList = s.data.toList.take 5
    · rw [if_pos hp, if_neg (by simp [hp]), if_pos (by omega)]
      rfl
    · rw [if_neg hp, if_pos (by simpa using fun e => hp e.symm)]
      rfl
  · rw [if_neg (by simp only [decide_eq_true_eq]; omega)]
    simp only [Option.bind_some]
    have hp : ¬ preB.data.toList = s.data.toList.take 5 := fun e => by
      have := congrArg List.length e
      rw [List.length_take] at this
      have h6 : s.data.toList.length = s.size := rfl
      have h7 : preB.data.toList.length = 5 := rfl
      omega
    rw [if_neg hp]
    rfl
theorem cutSuf {s : ByteArray} (hs : s.size ≤ 1048576) : strings_CutSuffix s sufB = some (if sufB.data.toList = s.data.toList.drop (s.size - 1) then (s.extract 0 (s.size - 1), true) else (s, false)) := by
  have e1 : sufB.size = 1 := rfl
  have hl : s.data.toList.length = s.size := rfl
  unfold strings_CutSuffix stringslite_CutSuffix stringslite_HasSuffix
  rw [e1]
  by_cases h1 : 1 ≤ s.size
  · have hw : IntKind.wrap .i64 ((s.size : Int) - ((1 : Nat) : Int)) = ((s.size - 1 : Nat) : Int) := by
      rw [wrap_id (by omega) (by omega)]
      omega
    rw [hw, if_pos (by simp only [decide_eq_true_eq]; omega), if_pos (by omega)]
    simp only [Option.bind_some, Int.toNat_natCast]
    have e : (s.extract (s.size - 1) s.size).data.toList = s.data.toList.drop (s.size - 1) := by
      rw [ext_list, List.take_of_length_le (by rw [List.length_drop]; omega)]
    rw [e]
    by_cases hp : sufB.data.toList = s.data.toList.drop (s.size - 1)
    · rw [if_pos hp, if_neg (by simp [hp]), if_pos (by omega)]
      rfl
    · rw [if_neg hp, if_pos (by simpa using fun e => hp e.symm)]
      rfl
  · rw [if_neg (by simp only [decide_eq_true_eq]; omega)]
    simp only [Option.bind_some]
    have hp : ¬ sufB.data.toList = s.data.toList.drop (s.size - 1) := fun e => by
      have := congrArg List.length e
      rw [List.length_drop] at this
      have h7 : sufB.data.toList.length = 1 := rfl
      omega
    rw [if_neg hp]
    rfl
theorem list_in : ∀ x ∈ simpL, ∃ y ∈ nmL, y.data.toList = preB.data.toList ++ (x.data.toList ++ sufB.data.toList) := by
  intro x hx
  simp only [simpL, List.mem_cons, List.not_mem_nil, or_false] at hx
  rcases hx with rfl | rfl | rfl | rfl | rfl
  · exact ⟨_, List.mem_of_getElem? (i := 5) rfl, rfl⟩
  · exact ⟨_, List.mem_of_getElem? (i := 6) rfl, rfl⟩
  · exact ⟨_, List.mem_of_getElem? (i := 7) rfl, rfl⟩
  · exact ⟨_, List.mem_of_getElem? (i := 8) rfl, rfl⟩
  · exact ⟨_, List.mem_of_getElem? (i := 9) rfl, rfl⟩
theorem parse_miss (k : Nat) {s : ByteArray} (hs : s.size ≤ 1048576) (h : Miss s) : kind_Parse (k + 20) s = some ((⟨0, 0⟩ : Typ), 8) := by
  have hl : s.data.toList.length = s.size := rfl
  show (strings_CutPrefix s preB).bind _ = _
  rw [cutPre s]
  simp only [Option.bind_some]
  by_cases hp : preB.data.toList = s.data.toList.take 5
  · rw [if_pos hp]
    have hsz : (s.extract 5 s.size).data.toList = s.data.toList.drop 5 := by
      rw [ext_list, List.take_of_length_le (by rw [List.length_drop]; omega)]
    have hn : (s.extract 5 s.size).size ≤ 1048576 := by
      have : (s.extract 5 s.size).data.toList.length = (s.extract 5 s.size).size := rfl
      rw [← this, hsz, List.length_drop]
      omega
    generalize hi : s.extract 5 s.size = u at hsz hn
    have hul : u.data.toList.length = u.size := rfl
    show ((if true = true then (strings_CutSuffix u sufB).bind _ else _ : Option (Fl (ByteArray × Bool × Typ) (Int × Typ))).bind _) = _
    rw [if_pos rfl, cutSuf hn]
    simp only [Option.bind_some]
    by_cases hq : sufB.data.toList = u.data.toList.drop (u.size - 1)
    · rw [if_pos hq, if_neg (by simp)]
      simp only [Option.bind_some]
      rw [loop_miss k (fun x hx e => ?_)]
      · rfl
      · obtain ⟨y, hy, he⟩ := list_in x hx
        refine h y hy ?_
        rw [he, e, ext_list, hq, hp, List.drop_zero, Nat.sub_zero, List.take_append_drop, hsz, List.take_append_drop]
    · rw [if_neg hq, if_pos (by simp)]
      rfl
  · rw [if_neg hp]
    show ((if false = true then _ else some (Fl.go (s, false, (⟨0, 0⟩ : Typ))) : Option (Fl (ByteArray × Bool × Typ) (Int × Typ))).bind _) = _
    rw [if_neg (by simp)]
    simp only [Option.bind_some]
    rw [loop_miss k (fun x hx e => h x (List.mem_append_left _ hx) e)]
    rfl
theorem hit (k : Nat) : ∀ x ∈ nmL, kind_Parse (k + 20) x = tariffref08_DocParse (k + 20) x ∧ ∃ r, tariffref08_DocParse (k + 20) x = some r := by
  intro x hx
  simp only [nmL, simpL, List.cons_append, List.nil_append, List.mem_cons, List.not_mem_nil, or_false] at hx
  rcases hx with rfl | rfl | rfl | rfl | rfl | rfl | rfl | rfl | rfl | rfl
  · exact ⟨by kernel_rfl, (⟨0, 0⟩, 0), by kernel_rfl⟩
  · exact ⟨by kernel_rfl, (⟨1, 0⟩, 0), by kernel_rfl⟩
  · exact ⟨by kernel_rfl, (⟨2, 0⟩, 0), by kernel_rfl⟩
  · exact ⟨by kernel_rfl, (⟨3, 0⟩, 0), by kernel_rfl⟩
  · exact ⟨by kernel_rfl, (⟨4, 0⟩, 0), by kernel_rfl⟩
  · exact ⟨by kernel_rfl, (⟨5, 0⟩, 0), by kernel_rfl⟩
  · exact ⟨by kernel_rfl, (⟨5, 1⟩, 0), by kernel_rfl⟩
  · exact ⟨by kernel_rfl, (⟨5, 2⟩, 0), by kernel_rfl⟩
  · exact ⟨by kernel_rfl, (⟨5, 3⟩, 0), by kernel_rfl⟩
  · exact ⟨by kernel_rfl, (⟨5, 4⟩, 0), by kernel_rfl⟩
theorem byteArray_eq {a b : ByteArray} (h : a.data.toList = b.data.toList) : a = b := by
  cases a
  cases b
  simp only [ByteArray.mk.injEq]
  exact Array.toList_inj.1 h
theorem parse_eq {k : Nat} (hk : 20 ≤ k) {s : ByteArray} (hs : s.size ≤ 1048576) : ∃ r, kind_Parse k s = some r ∧ tariffref08_DocParse k s = some r := by
  obtain ⟨k, rfl⟩ : ∃ k', k = k' + 20 := ⟨k - 20, by omega⟩
  by_cases h : ∃ x ∈ nmL, x.data.toList = s.data.toList
  · obtain ⟨x, hx, e⟩ := h
    have e := byteArray_eq e
    subst e
    obtain ⟨h1, r, h2⟩ := hit k x hx
    exact ⟨r, h1.trans h2, h2⟩
  · have h : Miss s := fun x hx e => h ⟨x, hx, e⟩
    exact ⟨_, parse_miss k hs h, doc_miss k h⟩
theorem type_eq {k : Nat} (hk : 1048600 ≤ k) {m : Model} (hm : Sh m.items) {s : ByteArray} (hs : s.size ≤ 1048576) : ∃ r, tariffref17_DocType k m s = some r ∧ model_Type k m s = some r := by
  obtain ⟨⟨t, e⟩, hp1, hp2⟩ := parse_eq (k := k) (by omega) hs
  have h0 : ((0 : Nat) : Int) = 0 := rfl
  have h1 := loop_find (L := model_Type.l7 k s m.items (m.items.length : Int) (⟨0, 0⟩ : Typ)) (l := m.items) (p := fun i => i.name.data.toList == s.data.toList) (g := fun i => (i.allowed, (0 : Int), i.type_)) (z := (⟨0, 0⟩ : Typ))
    (fun n i hi => by
      simp only [model_Type.l7]
      rw [if_neg (by simp only [decide_eq_true_eq]; omega)])
    (fun n i x hi hx => by
      simp only [model_Type.l7]
      rw [if_pos (by simp only [decide_eq_true_eq]; omega), idx_n, hx]
      simp only [Option.bind_some]
      rw [wrap_n (by omega)]) k 0 (Nat.zero_le _) (by omega)
  have h2 := loop_find (L := tariffref17_Type.l7 k s m (⟨0, 0⟩ : Typ)) (l := m.items) (p := fun i => i.name.data.toList == s.data.toList) (g := fun i => (i.allowed, true, i.type_)) (z := (⟨0, 0⟩ : Typ))
    (fun n i hi => by
      simp only [tariffref17_Type.l7]
      rw [if_neg (by simp only [decide_eq_true_eq]; omega)])
    (fun n i x hi hx => by
      simp only [tariffref17_Type.l7]
      rw [if_pos (by simp only [decide_eq_true_eq]; omega), idx_n, hx]
      simp only [Option.bind_some]
      rw [wrap_n (by omega)]) k 0 (Nat.zero_le _) (by omega)
  rw [h0, List.drop_zero] at h1 h2
  unfold tariffref17_DocType tariffref17_Type model_Type
  by_cases he : (s.data.toList == (ByteArray.mk #[]).data.toList) = true
  · rw [if_pos he, if_pos he]
    exact ⟨_, rfl, rfl⟩
  · rw [if_neg he, if_neg he, hp1, hp2]
    simp only [Option.bind_some]
    by_cases h5 : (e == (0 : Int)) = true
    · rw [if_pos h5, if_pos h5]
      exact ⟨_, rfl, rfl⟩
    · rw [if_neg h5, if_neg h5, h1, h2]
      cases m.items.find? fun i => i.name.data.toList == s.data.toList with
      | none => exact ⟨_, rfl, rfl⟩
      | some x => exact ⟨_, rfl, rfl⟩
theorem modelTypes_true {k : Nat} (hk : 2097200 ≤ k) {m : Model} (hm : ModOk m) {s : ByteArray} (hs : s.size ≤ 1048576) : tarifflaw17_ModelTypes k m s = some true := by
  unfold tarifflaw17_ModelTypes known
  obtain ⟨r, h1, h2⟩ := type_eq (k := k) (by omega) hm.items hs
  simp only [Option.bind_some]
  rw [if_neg (by decide), h1, h2]
  simp only [Option.bind_some]
  rw [if_pos (by simp), if_pos (by simp), if_pos (by simp), weight_eq (by omega) hm, rweight_eq hk hm]
  simp only [Option.bind_some, beq_self_eq_true]
end Go.EvT
end
