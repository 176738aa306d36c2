/- A part of the proof in YtjghbldehddemaaGreatDoorSame12: lemmas and contracts; nothing is claimed here. -/
import Derived.Test.YtjghbldehddemaaGreatDoorSame8
import Derived.Test.YtjghbldehddemaaGreatDoorProg
set_option linter.unusedVariables false
set_option linter.unusedSimpArgs false
section
set_option maxRecDepth 100000
namespace Go.EvT
open Go.Proofs Go.Ev
structure Typ where
  kind : Int
  of : Int
structure Item where
  name : ByteArray
  type_ : Typ
  allowed : ByteArray
structure Input where
  id : ByteArray
  name : ByteArray
  item : ByteArray
structure Column where
  text : ByteArray
  item : ByteArray
  values : List ByteArray
structure Rule where
  tests : List ByteArray
  says : List ByteArray
structure Tabl where
  policy : Int
  ins : List Column
  outs : List Column
  rules : List Rule
  default : List ByteArray
structure Decision where
  id : ByteArray
  name : ByteArray
  item : ByteArray
  needs : List ByteArray
  text : ByteArray
  table : Tabl
structure Model where
  id : ByteArray
  name : ByteArray
  items : List Item
  inputs : List Input
  decisions : List Decision
def car (id : Nat) : Type :=
  match id with
  | 0 => Model
  | 1 => Item
  | 2 => Typ
  | 3 => Input
  | 4 => Decision
  | 5 => Tabl
  | 6 => Column
  | 7 => Rule
  | _ => Unit
def tys (id : Nat) : List Ty :=
  match id with
  | 0 => [.str, .str, (.sl (.st 1)), (.sl (.st 3)), (.sl (.st 4))]
  | 1 => [.str, (.st 2), .str]
  | 2 => [(.int .i64), (.int .i64)]
  | 3 => [.str, .str, .str]
  | 4 => [.str, .str, .str, (.sl .str), .str, (.st 5)]
  | 5 => [(.int .i64), (.sl (.st 6)), (.sl (.st 6)), (.sl (.st 7)), (.sl .str)]
  | 6 => [.str, .str, (.sl .str)]
  | 7 => [(.sl .str), (.sl .str)]
  | _ => []
def get (id : Nat) (x : car id) : List (D car) :=
  match id, x with
  | 0, (x : Model) => [⟨.str, x.id⟩, ⟨.str, x.name⟩, ⟨(.sl (.st 1)), x.items⟩, ⟨(.sl (.st 3)), x.inputs⟩, ⟨(.sl (.st 4)), x.decisions⟩]
  | 1, (x : Item) => [⟨.str, x.name⟩, ⟨(.st 2), x.type_⟩, ⟨.str, x.allowed⟩]
  | 2, (x : Typ) => [⟨(.int .i64), x.kind⟩, ⟨(.int .i64), x.of⟩]
  | 3, (x : Input) => [⟨.str, x.id⟩, ⟨.str, x.name⟩, ⟨.str, x.item⟩]
  | 4, (x : Decision) => [⟨.str, x.id⟩, ⟨.str, x.name⟩, ⟨.str, x.item⟩, ⟨(.sl .str), x.needs⟩, ⟨.str, x.text⟩, ⟨(.st 5), x.table⟩]
  | 5, (x : Tabl) => [⟨(.int .i64), x.policy⟩, ⟨(.sl (.st 6)), x.ins⟩, ⟨(.sl (.st 6)), x.outs⟩, ⟨(.sl (.st 7)), x.rules⟩, ⟨(.sl .str), x.default⟩]
  | 6, (x : Column) => [⟨.str, x.text⟩, ⟨.str, x.item⟩, ⟨(.sl .str), x.values⟩]
  | 7, (x : Rule) => [⟨(.sl .str), x.tests⟩, ⟨(.sl .str), x.says⟩]
  | _, _ => []
def putU0 (y0 : D car) (y1 : D car) (y2 : D car) (y3 : D car) (y4 : D car) : Option Model :=
  match y0.as .str, y1.as .str, y2.as (.sl (.st 1)), y3.as (.sl (.st 3)), y4.as (.sl (.st 4)) with
  | some z0, some z1, some z2, some z3, some z4 => some (⟨z0, z1, z2, z3, z4⟩ : Model)
  | _, _, _, _, _ => none
def putU1 (y0 : D car) (y1 : D car) (y2 : D car) : Option Item :=
  match y0.as .str, y1.as (.st 2), y2.as .str with
  | some z0, some z1, some z2 => some (⟨z0, z1, z2⟩ : Item)
  | _, _, _ => none
def putU2 (y0 : D car) (y1 : D car) : Option Typ :=
  match y0.as (.int .i64), y1.as (.int .i64) with
  | some z0, some z1 => some (⟨z0, z1⟩ : Typ)
  | _, _ => none
def putU3 (y0 : D car) (y1 : D car) (y2 : D car) : Option Input :=
  match y0.as .str, y1.as .str, y2.as .str with
  | some z0, some z1, some z2 => some (⟨z0, z1, z2⟩ : Input)
  | _, _, _ => none
def putU4 (y0 : D car) (y1 : D car) (y2 : D car) (y3 : D car) (y4 : D car) (y5 : D car) : Option Decision :=
  match y0.as .str, y1.as .str, y2.as .str, y3.as (.sl .str), y4.as .str, y5.as (.st 5) with
  | some z0, some z1, some z2, some z3, some z4, some z5 => some (⟨z0, z1, z2, z3, z4, z5⟩ : Decision)
  | _, _, _, _, _, _ => none
def putU5 (y0 : D car) (y1 : D car) (y2 : D car) (y3 : D car) (y4 : D car) : Option Tabl :=
  match y0.as (.int .i64), y1.as (.sl (.st 6)), y2.as (.sl (.st 6)), y3.as (.sl (.st 7)), y4.as (.sl .str) with
  | some z0, some z1, some z2, some z3, some z4 => some (⟨z0, z1, z2, z3, z4⟩ : Tabl)
  | _, _, _, _, _ => none
def putU6 (y0 : D car) (y1 : D car) (y2 : D car) : Option Column :=
  match y0.as .str, y1.as .str, y2.as (.sl .str) with
  | some z0, some z1, some z2 => some (⟨z0, z1, z2⟩ : Column)
  | _, _, _ => none
def putU7 (y0 : D car) (y1 : D car) : Option Rule :=
  match y0.as (.sl .str), y1.as (.sl .str) with
  | some z0, some z1 => some (⟨z0, z1⟩ : Rule)
  | _, _ => none
def putU (id : Nat) (l : List (D car)) : Option (car id) :=
  match id, l with
  | 0, [y0, y1, y2, y3, y4] => putU0 y0 y1 y2 y3 y4
  | 1, [y0, y1, y2] => putU1 y0 y1 y2
  | 2, [y0, y1] => putU2 y0 y1
  | 3, [y0, y1, y2] => putU3 y0 y1 y2
  | 4, [y0, y1, y2, y3, y4, y5] => putU4 y0 y1 y2 y3 y4 y5
  | 5, [y0, y1, y2, y3, y4] => putU5 y0 y1 y2 y3 y4
  | 6, [y0, y1, y2] => putU6 y0 y1 y2
  | 7, [y0, y1] => putU7 y0 y1
  | _, _ => none
def zeroU (id : Nat) : Option (car id) :=
  match id with
  | 0 => some (⟨ByteArray.empty, ByteArray.empty, [], [], []⟩ : Model)
  | 1 => some (⟨ByteArray.empty, ⟨0, 0⟩, ByteArray.empty⟩ : Item)
  | 2 => some (⟨0, 0⟩ : Typ)
  | 3 => some (⟨ByteArray.empty, ByteArray.empty, ByteArray.empty⟩ : Input)
  | 4 => some (⟨ByteArray.empty, ByteArray.empty, ByteArray.empty, [], ByteArray.empty, ⟨0, [], [], [], []⟩⟩ : Decision)
  | 5 => some (⟨0, [], [], [], []⟩ : Tabl)
  | 6 => some (⟨ByteArray.empty, ByteArray.empty, []⟩ : Column)
  | 7 => some (⟨[], []⟩ : Rule)
  | _ => none
def U : Univ := ⟨car, tys, get, putU, zeroU⟩
def tyL : List (Nat × Ty) := [(3, (.int .i64)), (4, .bool), (9, .str), (22, (.sl (.st 1))), (23, (.sl (.st 3))), (24, (.sl (.st 4))), (26, (.st 0)), (36, (.st 2)), (41, (.st 1)), (44, (.st 3)), (46, (.sl .str)), (47, (.sl (.st 6))), (48, (.sl (.st 7))), (50, (.st 5)), (52, (.st 4)), (66, (.st 6)), (70, (.st 7))]
def tyOf (t : TypeId) : Option Ty := lk tyL t
def bytesL : List (Nat × Nat) := [(22, 48), (23, 48), (24, 192), (46, 16), (47, 56), (48, 48)]
def bytesOf (t : TypeId) : Option Nat := lk bytesL t
theorem ulaw.tys : ∀ id (x : U.car id), (U.get id x).map D.t = U.tys id
  | 0, _ => rfl
  | 1, _ => rfl
  | 2, _ => rfl
  | 3, _ => rfl
  | 4, _ => rfl
  | 5, _ => rfl
  | 6, _ => rfl
  | 7, _ => rfl
  | _ + 8, _ => rfl
theorem ulaw.put0 (ds : List U.D) (x : U.car 0) (h : U.put 0 ds = some x) : U.get 0 x = ds := by
  rcases ds with _ | ⟨y0, _ | ⟨y1, _ | ⟨y2, _ | ⟨y3, _ | ⟨y4, _ | ⟨w, ws⟩⟩⟩⟩⟩⟩
  · cases (show (none : Option Model) = some x from h)
  · cases (show (none : Option Model) = some x from h)
  · cases (show (none : Option Model) = some x from h)
  · cases (show (none : Option Model) = some x from h)
  · cases (show (none : Option Model) = some x from h)
  · replace h : putU0 y0 y1 y2 y3 y4 = some x := h
    unfold putU0 at h
    split at h
    · rename_i e0 e1 e2 e3 e4
      cases h
      rw [as_ok e0, as_ok e1, as_ok e2, as_ok e3, as_ok e4]
      rfl
    · cases h
  · cases (show (none : Option Model) = some x from h)
theorem ulaw.put1 (ds : List U.D) (x : U.car 1) (h : U.put 1 ds = some x) : U.get 1 x = ds := by
  rcases ds with _ | ⟨y0, _ | ⟨y1, _ | ⟨y2, _ | ⟨w, ws⟩⟩⟩⟩
  · cases (show (none : Option Item) = some x from h)
  · cases (show (none : Option Item) = some x from h)
  · cases (show (none : Option Item) = some x from h)
  · replace h : putU1 y0 y1 y2 = some x := h
    unfold putU1 at h
    split at h
    · rename_i e0 e1 e2
      cases h
      rw [as_ok e0, as_ok e1, as_ok e2]
      rfl
    · cases h
  · cases (show (none : Option Item) = some x from h)
theorem ulaw.put2 (ds : List U.D) (x : U.car 2) (h : U.put 2 ds = some x) : U.get 2 x = ds := by
  rcases ds with _ | ⟨y0, _ | ⟨y1, _ | ⟨w, ws⟩⟩⟩
  · cases (show (none : Option Typ) = some x from h)
  · cases (show (none : Option Typ) = some x from h)
  · replace h : putU2 y0 y1 = some x := h
    unfold putU2 at h
    split at h
    · rename_i e0 e1
      cases h
      rw [as_ok e0, as_ok e1]
      rfl
    · cases h
  · cases (show (none : Option Typ) = some x from h)
theorem ulaw.put3 (ds : List U.D) (x : U.car 3) (h : U.put 3 ds = some x) : U.get 3 x = ds := by
  rcases ds with _ | ⟨y0, _ | ⟨y1, _ | ⟨y2, _ | ⟨w, ws⟩⟩⟩⟩
  · cases (show (none : Option Input) = some x from h)
  · cases (show (none : Option Input) = some x from h)
  · cases (show (none : Option Input) = some x from h)
  · replace h : putU3 y0 y1 y2 = some x := h
    unfold putU3 at h
    split at h
    · rename_i e0 e1 e2
      cases h
      rw [as_ok e0, as_ok e1, as_ok e2]
      rfl
    · cases h
  · cases (show (none : Option Input) = some x from h)
theorem ulaw.put4 (ds : List U.D) (x : U.car 4) (h : U.put 4 ds = some x) : U.get 4 x = ds := by
  rcases ds with _ | ⟨y0, _ | ⟨y1, _ | ⟨y2, _ | ⟨y3, _ | ⟨y4, _ | ⟨y5, _ | ⟨w, ws⟩⟩⟩⟩⟩⟩⟩
  · cases (show (none : Option Decision) = some x from h)
  · cases (show (none : Option Decision) = some x from h)
  · cases (show (none : Option Decision) = some x from h)
  · cases (show (none : Option Decision) = some x from h)
  · cases (show (none : Option Decision) = some x from h)
  · cases (show (none : Option Decision) = some x from h)
  · replace h : putU4 y0 y1 y2 y3 y4 y5 = some x := h
    unfold putU4 at h
    split at h
    · rename_i e0 e1 e2 e3 e4 e5
      cases h
      rw [as_ok e0, as_ok e1, as_ok e2, as_ok e3, as_ok e4, as_ok e5]
      rfl
    · cases h
  · cases (show (none : Option Decision) = some x from h)
theorem ulaw.put5 (ds : List U.D) (x : U.car 5) (h : U.put 5 ds = some x) : U.get 5 x = ds := by
  rcases ds with _ | ⟨y0, _ | ⟨y1, _ | ⟨y2, _ | ⟨y3, _ | ⟨y4, _ | ⟨w, ws⟩⟩⟩⟩⟩⟩
  · cases (show (none : Option Tabl) = some x from h)
  · cases (show (none : Option Tabl) = some x from h)
  · cases (show (none : Option Tabl) = some x from h)
  · cases (show (none : Option Tabl) = some x from h)
  · cases (show (none : Option Tabl) = some x from h)
  · replace h : putU5 y0 y1 y2 y3 y4 = some x := h
    unfold putU5 at h
    split at h
    · rename_i e0 e1 e2 e3 e4
      cases h
      rw [as_ok e0, as_ok e1, as_ok e2, as_ok e3, as_ok e4]
      rfl
    · cases h
  · cases (show (none : Option Tabl) = some x from h)
theorem ulaw.put6 (ds : List U.D) (x : U.car 6) (h : U.put 6 ds = some x) : U.get 6 x = ds := by
  rcases ds with _ | ⟨y0, _ | ⟨y1, _ | ⟨y2, _ | ⟨w, ws⟩⟩⟩⟩
  · cases (show (none : Option Column) = some x from h)
  · cases (show (none : Option Column) = some x from h)
  · cases (show (none : Option Column) = some x from h)
  · replace h : putU6 y0 y1 y2 = some x := h
    unfold putU6 at h
    split at h
    · rename_i e0 e1 e2
      cases h
      rw [as_ok e0, as_ok e1, as_ok e2]
      rfl
    · cases h
  · cases (show (none : Option Column) = some x from h)
theorem ulaw.put7 (ds : List U.D) (x : U.car 7) (h : U.put 7 ds = some x) : U.get 7 x = ds := by
  rcases ds with _ | ⟨y0, _ | ⟨y1, _ | ⟨w, ws⟩⟩⟩
  · cases (show (none : Option Rule) = some x from h)
  · cases (show (none : Option Rule) = some x from h)
  · replace h : putU7 y0 y1 = some x := h
    unfold putU7 at h
    split at h
    · rename_i e0 e1
      cases h
      rw [as_ok e0, as_ok e1]
      rfl
    · cases h
  · cases (show (none : Option Rule) = some x from h)
theorem ulaw.put : ∀ id (ds : List U.D) (x : U.car id), U.put id ds = some x → U.get id x = ds
  | 0, ds, x, h => ulaw.put0 ds x h
  | 1, ds, x, h => ulaw.put1 ds x h
  | 2, ds, x, h => ulaw.put2 ds x h
  | 3, ds, x, h => ulaw.put3 ds x h
  | 4, ds, x, h => ulaw.put4 ds x h
  | 5, ds, x, h => ulaw.put5 ds x h
  | 6, ds, x, h => ulaw.put6 ds x h
  | 7, ds, x, h => ulaw.put7 ds x h
  | _ + 8, _, _, h => nomatch (show none = some _ from h)
theorem ulaw.zero : ∀ id (x : U.car id), U.zero id = some x → ZAll U (U.get id x)
  | 0, _, h => by
    cases h
    exact zall_cons deep rfl (zall_cons deep rfl (zall_cons deep rfl (zall_cons deep rfl (zall_cons deep rfl (zall_nil)))))
  | 1, _, h => by
    cases h
    exact zall_cons deep rfl (zall_cons deep rfl (zall_cons deep rfl (zall_nil)))
  | 2, _, h => by
    cases h
    exact zall_cons deep rfl (zall_cons deep rfl (zall_nil))
  | 3, _, h => by
    cases h
    exact zall_cons deep rfl (zall_cons deep rfl (zall_cons deep rfl (zall_nil)))
  | 4, _, h => by
    cases h
    exact zall_cons deep rfl (zall_cons deep rfl (zall_cons deep rfl (zall_cons deep rfl (zall_cons deep rfl (zall_cons deep rfl (zall_nil))))))
  | 5, _, h => by
    cases h
    exact zall_cons deep rfl (zall_cons deep rfl (zall_cons deep rfl (zall_cons deep rfl (zall_cons deep rfl (zall_nil)))))
  | 6, _, h => by
    cases h
    exact zall_cons deep rfl (zall_cons deep rfl (zall_cons deep rfl (zall_nil)))
  | 7, _, h => by
    cases h
    exact zall_cons deep rfl (zall_cons deep rfl (zall_nil))
  | _ + 8, _, h => nomatch (show none = some _ from h)
theorem ulaw : ULaw U := ⟨ulaw.tys, ulaw.put, ulaw.zero, ulaw_size (n := deep) (m := 8) (by kernel_rfl) fun id h => by
  obtain ⟨j, rfl⟩ := Nat.exists_eq_add_of_le' h
  rfl⟩
theorem tyL.ok : tyL.all (fun p => tyChk Tryz.prog U p.1 p.2) = true := by kernel_rfl
theorem bytesL.ok : bytesL.all (fun p => bytesChk Tryz.prog p.1 p.2) = true := by kernel_rfl
theorem gok {c1 : FuncId → List (Arg U) → Option (PRes U)} {c2 : FuncId → List (Arg U) → Option (PRes2 U)} {c3 : Nat → Bool} : GOk Tryz.prog U ⟨tyOf, bytesOf, c1, c2, c3⟩ := gOk tyL.ok bytesL.ok rfl rfl
abbrev Lay : (Nat → Prop) → World → Prop := fun _ _ => True
theorem hLay : LMono Lay := fun _ _ _ _ _ h => h
end Go.EvT
end
section
namespace Go.EvT
open Go Go.Ev
theorem frm_below {E : Env} {gh : Gh} {w : World} (h : Frm E gh E.w) (hB : Go.RowKit.Below E.w.heap.size E.w w) : Frm E gh w := by
  refine ⟨fun bn => ?_, h.fresh, h.ffresh, h.old, hB.size, fun bn h1 _ => hB.block bn h1, hB.os, hB.tape, hB.output⟩
  rcases h.bound bn with h | h
  · exact .inl h
  · exact .inr (Nat.lt_of_lt_of_le h hB.size)
def known : Option Bool := some true
def known.P : List PM := []
def known.S : Sig := ⟨[.d .bool], []⟩
def known.u (v : Unit) : Option Bool := known
theorem known.call : FnC Go.Proofs.Tryz.prog U Lay 4 known.P known.S known.u := by
  intro v y h
  cases h
  intro E gh args hE _
  have hh := hE.hand
  cases hh
  unfold Invokes
  rw [run_callFunc Go.Proofs.Tryz.func4 (by kernel_rfl) (by kernel_rfl)]
  refine (Go.EvK.known_calls E.w).mono fun e w' he => ?_
  cases e with
  | returned u =>
    obtain ⟨rfl, φ, hp, H⟩ := he
    have hB : Go.RowKit.Below E.w.heap.size E.w w' := ⟨H.os, H.tape, H.output, H.size, fun k hk => H.old k hk⟩
    exact ⟨gh, [.bool true], frm_below hE.frm hB, .nil, .cons (.d ⟨_, .bool, rfl⟩) .nil, rfl⟩
  | panicked c => exact he.elim
  | outgrown => exact he.elim
end Go.EvT
end
section
set_option maxRecDepth 100000
namespace Go.EvT
open Go.Proofs Go.Ev
def slices_Equal.S : Sig := ⟨[.d .bool], []⟩
def slices_Equal.P : List PM := [.d (.sl (.st 1)), .d (.sl (.st 1))]
def slices_Equal_11.S : Sig := ⟨[.d .bool], []⟩
def slices_Equal_11.P : List PM := [.d (.sl (.st 3)), .d (.sl (.st 3))]
def slices_Equal_25.S : Sig := ⟨[.d .bool], []⟩
def slices_Equal_25.P : List PM := [.d (.sl .str), .d (.sl .str)]
def model_sameColumn.S : Sig := ⟨[.d .bool], []⟩
def model_sameColumn.P : List PM := [.d (.st 6), .d (.st 6)]
def slices_EqualFunc_model_sameColumn.S : Sig := ⟨[.d .bool], []⟩
def slices_EqualFunc_model_sameColumn.P : List PM := [.d (.sl (.st 6)), .d (.sl (.st 6)), .fn 27]
def model_sameRule.S : Sig := ⟨[.d .bool], []⟩
def model_sameRule.P : List PM := [.d (.st 7), .d (.st 7)]
def slices_EqualFunc_model_sameRule.S : Sig := ⟨[.d .bool], []⟩
def slices_EqualFunc_model_sameRule.P : List PM := [.d (.sl (.st 7)), .d (.sl (.st 7)), .fn 29]
def model_sameDecision.S : Sig := ⟨[.d .bool], []⟩
def model_sameDecision.P : List PM := [.d (.st 4), .d (.st 4)]
def slices_EqualFunc_model_sameDecision.S : Sig := ⟨[.d .bool], []⟩
def slices_EqualFunc_model_sameDecision.P : List PM := [.d (.sl (.st 4)), .d (.sl (.st 4)), .fn 13]
def model_Same.S : Sig := ⟨[.d .bool], []⟩
def model_Same.P : List PM := [.d (.st 0), .d (.st 0)]
def tariffref17_sameTexts.S : Sig := ⟨[.d .bool], []⟩
def tariffref17_sameTexts.P : List PM := [.d (.sl .str), .d (.sl .str)]
def tariffref17_sameCols.S : Sig := ⟨[.d .bool], []⟩
def tariffref17_sameCols.P : List PM := [.d (.sl (.st 6)), .d (.sl (.st 6))]
def tariffref17_sameTable.S : Sig := ⟨[.d .bool], []⟩
def tariffref17_sameTable.P : List PM := [.d (.st 5), .d (.st 5)]
def tariffref17_Same.S : Sig := ⟨[.d .bool], []⟩
def tariffref17_Same.P : List PM := [.d (.st 0), .d (.st 0)]
def tarifflaw17_ModelSames.S : Sig := ⟨[.d .bool], []⟩
def tarifflaw17_ModelSames.P : List PM := [.d (.st 0), .d (.st 0)]
def slices_Equal.l4 (k : Nat) (v0 : List Item) (v1 : List Item) (v12 : Int) : Nat → Int → Option (Fl (Unit) (Bool))
 | 0, _ => none
 | n + 1, v13 =>
 if (decide (v13 < v12)) = true then
 (idx v0 v13).bind fun e1 =>
 (idx v1 v13).bind fun e2 =>
 if (!((e1.name.data.toList == e2.name.data.toList) && (((e1.type_.kind == e2.type_.kind) && ((e1.type_.of == e2.type_.of) && true)) && ((e1.allowed.data.toList == e2.allowed.data.toList) && true)))) = true then
 some (Fl.ret false)
 else
 slices_Equal.l4 k v0 v1 v12 n (IntKind.wrap .i64 (v13 + (1 : Int)))
 else
 some (Fl.go ())
def slices_Equal (k : Nat) (a0 : List Item) (a1 : List Item) : Option (Bool) :=
 if ((a0.length : Int) != (a1.length : Int)) = true then
 some false
 else
 (slices_Equal.l4 k a0 a1 (a0.length : Int) k (0 : Int)).bind fun o => (match o with
 | .go x3 =>
 some true
 | .ret x4 =>
 some x4)
def slices_Equal.u (k : Nat) (v : (List Item) × (List Item)) : Option (Bool) := slices_Equal k v.1 v.2
def slices_Equal.G (k : Nat) : Ctx U := ⟨tyOf, bytesOf, fun f xs => none, fun f xs => none, fun d => false⟩
def slices_Equal.l4.L (k : Nat) : ELoopR U := ⟨[.slot 0 (.sl (.st 1)), .slot 1 (.sl (.st 1)), .slot 12 (.int .i64), .slot 13 (.int .i64)], 0, [], [.slot 4 .bool], fun (v : (List Item) × (List Item) × Int × Int) => slices_Equal.l4 k v.1 v.2.1 v.2.2.1 k v.2.2.2⟩
def slices_Equal.H (k : Nat) : Hint U := ⟨[], fun i => none, fun i => if i == 58 then some (slices_Equal.l4.L k) else none, fun i => none⟩
theorem slices_Equal.l4.ok (k n : Nat) (v : Vars U (slices_Equal.l4.L k).ks) : loopRT (slices_Equal.G k) (slices_Equal.H k) (pick [true, true, false, true, false, false] (bodyOf Tryz.f10)) 58 (slices_Equal.l4.L k) n v = (fun (v : (List Item) × (List Item) × Int × Int) => slices_Equal.l4 k v.1 v.2.1 v.2.2.1 n v.2.2.2) v :=
  loopRT_eq (slices_Equal.G k) (slices_Equal.H k) _ _ (slices_Equal.l4.L k) (fun n (v : (List Item) × (List Item) × Int × Int) => slices_Equal.l4 k v.1 v.2.1 v.2.2.1 n v.2.2.2) (fun _ => rfl) (fun n v => by kernel_rfl) n v
theorem slices_Equal.ev (k : Nat) (v : (List Item) × (List Item)) : evFn (slices_Equal.G k) (slices_Equal.H k) slices_Equal.S Tryz.f10 (encA slices_Equal.P v) = slices_Equal.u k v := by kernel_rfl
theorem slices_Equal.fns : Fns Tryz.prog 10 Tryz.f10 slices_Equal.P := ⟨Tryz.func10, by kernel_rfl⟩
theorem slices_Equal.loops (k : Nat) : LoopsOk (slices_Equal.G k) (slices_Equal.H k) (bodyOf Tryz.f10) 1 := loops_of (ps := [(58, pick [true, true, false, true, false, false] (bodyOf Tryz.f10))]) (by kernel_rfl) ⟨loopR_ok rfl rfl fun v x hx => ⟨k, (slices_Equal.l4.ok k k v).trans hx⟩, trivial⟩
theorem slices_Equal.call (k : Nat) : FnC Tryz.prog U Lay 10 slices_Equal.P slices_Equal.S (slices_Equal.u k) := fnC hLay ulaw gok (fun f xs => (CallC.none : CallC Tryz.prog U Lay _ f xs)) (fun f xs => (CallC2.none : CallC2 Tryz.prog U Lay _ f xs)) slices_Equal.fns (slices_Equal.loops k) (slices_Equal.ev k)
def slices_Equal_11.l4 (k : Nat) (v0 : List Input) (v1 : List Input) (v12 : Int) : Nat → Int → Option (Fl (Unit) (Bool))
 | 0, _ => none
 | n + 1, v13 =>
 if (decide (v13 < v12)) = true then
 (idx v0 v13).bind fun e1 =>
 (idx v1 v13).bind fun e2 =>
 if (!((e1.id.data.toList == e2.id.data.toList) && ((e1.name.data.toList == e2.name.data.toList) && ((e1.item.data.toList == e2.item.data.toList) && true)))) = true then
 some (Fl.ret false)
 else
 slices_Equal_11.l4 k v0 v1 v12 n (IntKind.wrap .i64 (v13 + (1 : Int)))
 else
 some (Fl.go ())
def slices_Equal_11 (k : Nat) (a0 : List Input) (a1 : List Input) : Option (Bool) :=
 if ((a0.length : Int) != (a1.length : Int)) = true then
 some false
 else
 (slices_Equal_11.l4 k a0 a1 (a0.length : Int) k (0 : Int)).bind fun o => (match o with
 | .go x3 =>
 some true
 | .ret x4 =>
 some x4)
def slices_Equal_11.u (k : Nat) (v : (List Input) × (List Input)) : Option (Bool) := slices_Equal_11 k v.1 v.2
def slices_Equal_11.G (k : Nat) : Ctx U := ⟨tyOf, bytesOf, fun f xs => none, fun f xs => none, fun d => false⟩
def slices_Equal_11.l4.L (k : Nat) : ELoopR U := ⟨[.slot 0 (.sl (.st 3)), .slot 1 (.sl (.st 3)), .slot 12 (.int .i64), .slot 13 (.int .i64)], 0, [], [.slot 4 .bool], fun (v : (List Input) × (List Input) × Int × Int) => slices_Equal_11.l4 k v.1 v.2.1 v.2.2.1 k v.2.2.2⟩
def slices_Equal_11.H (k : Nat) : Hint U := ⟨[], fun i => none, fun i => if i == 58 then some (slices_Equal_11.l4.L k) else none, fun i => none⟩
theorem slices_Equal_11.l4.ok (k n : Nat) (v : Vars U (slices_Equal_11.l4.L k).ks) : loopRT (slices_Equal_11.G k) (slices_Equal_11.H k) (pick [true, true, false, true, false, false] (bodyOf Tryz.f11)) 58 (slices_Equal_11.l4.L k) n v = (fun (v : (List Input) × (List Input) × Int × Int) => slices_Equal_11.l4 k v.1 v.2.1 v.2.2.1 n v.2.2.2) v :=
  loopRT_eq (slices_Equal_11.G k) (slices_Equal_11.H k) _ _ (slices_Equal_11.l4.L k) (fun n (v : (List Input) × (List Input) × Int × Int) => slices_Equal_11.l4 k v.1 v.2.1 v.2.2.1 n v.2.2.2) (fun _ => rfl) (fun n v => by kernel_rfl) n v
theorem slices_Equal_11.ev (k : Nat) (v : (List Input) × (List Input)) : evFn (slices_Equal_11.G k) (slices_Equal_11.H k) slices_Equal_11.S Tryz.f11 (encA slices_Equal_11.P v) = slices_Equal_11.u k v := by kernel_rfl
theorem slices_Equal_11.fns : Fns Tryz.prog 11 Tryz.f11 slices_Equal_11.P := ⟨Tryz.func11, by kernel_rfl⟩
theorem slices_Equal_11.loops (k : Nat) : LoopsOk (slices_Equal_11.G k) (slices_Equal_11.H k) (bodyOf Tryz.f11) 1 := loops_of (ps := [(58, pick [true, true, false, true, false, false] (bodyOf Tryz.f11))]) (by kernel_rfl) ⟨loopR_ok rfl rfl fun v x hx => ⟨k, (slices_Equal_11.l4.ok k k v).trans hx⟩, trivial⟩
theorem slices_Equal_11.call (k : Nat) : FnC Tryz.prog U Lay 11 slices_Equal_11.P slices_Equal_11.S (slices_Equal_11.u k) := fnC hLay ulaw gok (fun f xs => (CallC.none : CallC Tryz.prog U Lay _ f xs)) (fun f xs => (CallC2.none : CallC2 Tryz.prog U Lay _ f xs)) slices_Equal_11.fns (slices_Equal_11.loops k) (slices_Equal_11.ev k)
def slices_Equal_25.l4 (k : Nat) (v0 : List ByteArray) (v1 : List ByteArray) (v12 : Int) : Nat → Int → Option (Fl (Unit) (Bool))
 | 0, _ => none
 | n + 1, v13 =>
 if (decide (v13 < v12)) = true then
 (idx v0 v13).bind fun e1 =>
 (idx v1 v13).bind fun e2 =>
 if (!(e1.data.toList == e2.data.toList)) = true then
 some (Fl.ret false)
 else
 slices_Equal_25.l4 k v0 v1 v12 n (IntKind.wrap .i64 (v13 + (1 : Int)))
 else
 some (Fl.go ())
def slices_Equal_25 (k : Nat) (a0 : List ByteArray) (a1 : List ByteArray) : Option (Bool) :=
 if ((a0.length : Int) != (a1.length : Int)) = true then
 some false
 else
 (slices_Equal_25.l4 k a0 a1 (a0.length : Int) k (0 : Int)).bind fun o => (match o with
 | .go x3 =>
 some true
 | .ret x4 =>
 some x4)
def slices_Equal_25.u (k : Nat) (v : (List ByteArray) × (List ByteArray)) : Option (Bool) := slices_Equal_25 k v.1 v.2
def slices_Equal_25.G (k : Nat) : Ctx U := ⟨tyOf, bytesOf, fun f xs => none, fun f xs => none, fun d => false⟩
def slices_Equal_25.l4.L (k : Nat) : ELoopR U := ⟨[.slot 0 (.sl .str), .slot 1 (.sl .str), .slot 12 (.int .i64), .slot 13 (.int .i64)], 0, [], [.slot 4 .bool], fun (v : (List ByteArray) × (List ByteArray) × Int × Int) => slices_Equal_25.l4 k v.1 v.2.1 v.2.2.1 k v.2.2.2⟩
def slices_Equal_25.H (k : Nat) : Hint U := ⟨[], fun i => none, fun i => if i == 58 then some (slices_Equal_25.l4.L k) else none, fun i => none⟩
theorem slices_Equal_25.l4.ok (k n : Nat) (v : Vars U (slices_Equal_25.l4.L k).ks) : loopRT (slices_Equal_25.G k) (slices_Equal_25.H k) (pick [true, true, false, true, false, false] (bodyOf Tryz.f25)) 58 (slices_Equal_25.l4.L k) n v = (fun (v : (List ByteArray) × (List ByteArray) × Int × Int) => slices_Equal_25.l4 k v.1 v.2.1 v.2.2.1 n v.2.2.2) v :=
  loopRT_eq (slices_Equal_25.G k) (slices_Equal_25.H k) _ _ (slices_Equal_25.l4.L k) (fun n (v : (List ByteArray) × (List ByteArray) × Int × Int) => slices_Equal_25.l4 k v.1 v.2.1 v.2.2.1 n v.2.2.2) (fun _ => rfl) (fun n v => by kernel_rfl) n v
theorem slices_Equal_25.ev (k : Nat) (v : (List ByteArray) × (List ByteArray)) : evFn (slices_Equal_25.G k) (slices_Equal_25.H k) slices_Equal_25.S Tryz.f25 (encA slices_Equal_25.P v) = slices_Equal_25.u k v := by kernel_rfl
theorem slices_Equal_25.fns : Fns Tryz.prog 25 Tryz.f25 slices_Equal_25.P := ⟨Tryz.func25, by kernel_rfl⟩
theorem slices_Equal_25.loops (k : Nat) : LoopsOk (slices_Equal_25.G k) (slices_Equal_25.H k) (bodyOf Tryz.f25) 1 := loops_of (ps := [(58, pick [true, true, false, true, false, false] (bodyOf Tryz.f25))]) (by kernel_rfl) ⟨loopR_ok rfl rfl fun v x hx => ⟨k, (slices_Equal_25.l4.ok k k v).trans hx⟩, trivial⟩
theorem slices_Equal_25.call (k : Nat) : FnC Tryz.prog U Lay 25 slices_Equal_25.P slices_Equal_25.S (slices_Equal_25.u k) := fnC hLay ulaw gok (fun f xs => (CallC.none : CallC Tryz.prog U Lay _ f xs)) (fun f xs => (CallC2.none : CallC2 Tryz.prog U Lay _ f xs)) slices_Equal_25.fns (slices_Equal_25.loops k) (slices_Equal_25.ev k)
def model_sameColumn (k : Nat) (a0 : Column) (a1 : Column) : Option (Bool) :=
 ((if (a0.text.data.toList == a1.text.data.toList) = true then
 some (a0.item.data.toList == a1.item.data.toList)
 else some false) : Option Bool).bind fun b1 =>
 ((if b1 = true then
 (slices_Equal_25 k a0.values a1.values).bind fun r2 =>
 some r2
 else some false) : Option Bool).bind fun b3 =>
 some b3
def model_sameColumn.u (k : Nat) (v : Column × Column) : Option (Bool) := model_sameColumn k v.1 v.2
def model_sameColumn.G (k : Nat) : Ctx U := ⟨tyOf, bytesOf, fun f xs => if f == 25 then entry slices_Equal_25.P slices_Equal_25.S (slices_Equal_25.u k) xs else none, fun f xs => none, fun d => false⟩
def model_sameColumn.H (k : Nat) : Hint U := ⟨[], fun i => none, fun i => none, fun i => none⟩
theorem model_sameColumn.ev (k : Nat) (v : Column × Column) : evFn (model_sameColumn.G k) (model_sameColumn.H k) model_sameColumn.S Tryz.f27 (encA model_sameColumn.P v) = model_sameColumn.u k v := by kernel_rfl
theorem model_sameColumn.fns : Fns Tryz.prog 27 Tryz.f27 model_sameColumn.P := ⟨Tryz.func27, by kernel_rfl⟩
theorem model_sameColumn.loops (k : Nat) : LoopsOk (model_sameColumn.G k) (model_sameColumn.H k) (bodyOf Tryz.f27) 1 := loops_of (ps := []) (by kernel_rfl) trivial
theorem model_sameColumn.call (k : Nat) : FnC Tryz.prog U Lay 27 model_sameColumn.P model_sameColumn.S (model_sameColumn.u k) := fnC hLay ulaw gok (fun f xs => (.ite (.entry (slices_Equal_25.call k)) (CallC.none) : CallC Tryz.prog U Lay _ f xs)) (fun f xs => (CallC2.none : CallC2 Tryz.prog U Lay _ f xs)) model_sameColumn.fns (model_sameColumn.loops k) (model_sameColumn.ev k)
def slices_EqualFunc_model_sameColumn.l4 (k : Nat) (v1 : List Column) (v15 : List Column) (v16 : Int) : Nat → Int → Option (Fl (Unit) (Bool))
 | 0, _ => none
 | n + 1, v17 =>
 if (decide (v17 < v16)) = true then
 (idx v15 v17).bind fun e1 =>
 (idx v1 v17).bind fun e2 =>
 (model_sameColumn k e1 e2).bind fun r3 =>
 if (!r3) = true then
 some (Fl.ret false)
 else
 slices_EqualFunc_model_sameColumn.l4 k v1 v15 v16 n (IntKind.wrap .i64 (v17 + (1 : Int)))
 else
 some (Fl.go ())
def slices_EqualFunc_model_sameColumn (k : Nat) (a0 : List Column) (a1 : List Column) : Option (Bool) :=
 if ((a0.length : Int) != (a1.length : Int)) = true then
 some false
 else
 (slices_EqualFunc_model_sameColumn.l4 k a1 a0 (a0.length : Int) k (0 : Int)).bind fun o => (match o with
 | .go x4 =>
 some true
 | .ret x5 =>
 some x5)
def slices_EqualFunc_model_sameColumn.u (k : Nat) (v : (List Column) × (List Column)) : Option (Bool) := slices_EqualFunc_model_sameColumn k v.1 v.2
def slices_EqualFunc_model_sameColumn.G (k : Nat) : Ctx U := ⟨tyOf, bytesOf, fun f xs => if f == 27 then entry model_sameColumn.P model_sameColumn.S (model_sameColumn.u k) xs else none, fun f xs => none, fun d => false⟩
def slices_EqualFunc_model_sameColumn.l4.L (k : Nat) : ELoopR U := ⟨[.slot 1 (.sl (.st 6)), .fn 2 27, .slot 15 (.sl (.st 6)), .slot 16 (.int .i64), .slot 17 (.int .i64)], 0, [], [.slot 6 .bool], fun (v : (List Column) × (List Column) × Int × Int) => slices_EqualFunc_model_sameColumn.l4 k v.1 v.2.1 v.2.2.1 k v.2.2.2⟩
def slices_EqualFunc_model_sameColumn.H (k : Nat) : Hint U := ⟨[], fun i => none, fun i => if i == 58 then some (slices_EqualFunc_model_sameColumn.l4.L k) else none, fun i => none⟩
theorem slices_EqualFunc_model_sameColumn.l4.ok (k n : Nat) (v : Vars U (slices_EqualFunc_model_sameColumn.l4.L k).ks) : loopRT (slices_EqualFunc_model_sameColumn.G k) (slices_EqualFunc_model_sameColumn.H k) (pick [true, true, false, true, false, false] (bodyOf Tryz.f26)) 58 (slices_EqualFunc_model_sameColumn.l4.L k) n v = (fun (v : (List Column) × (List Column) × Int × Int) => slices_EqualFunc_model_sameColumn.l4 k v.1 v.2.1 v.2.2.1 n v.2.2.2) v :=
  loopRT_eq (slices_EqualFunc_model_sameColumn.G k) (slices_EqualFunc_model_sameColumn.H k) _ _ (slices_EqualFunc_model_sameColumn.l4.L k) (fun n (v : (List Column) × (List Column) × Int × Int) => slices_EqualFunc_model_sameColumn.l4 k v.1 v.2.1 v.2.2.1 n v.2.2.2) (fun _ => rfl) (fun n v => by kernel_rfl) n v
theorem slices_EqualFunc_model_sameColumn.ev (k : Nat) (v : (List Column) × (List Column)) : evFn (slices_EqualFunc_model_sameColumn.G k) (slices_EqualFunc_model_sameColumn.H k) slices_EqualFunc_model_sameColumn.S Tryz.f26 (encA slices_EqualFunc_model_sameColumn.P v) = slices_EqualFunc_model_sameColumn.u k v := by kernel_rfl
theorem slices_EqualFunc_model_sameColumn.fns : Fns Tryz.prog 26 Tryz.f26 slices_EqualFunc_model_sameColumn.P := ⟨Tryz.func26, by kernel_rfl⟩
theorem slices_EqualFunc_model_sameColumn.loops (k : Nat) : LoopsOk (slices_EqualFunc_model_sameColumn.G k) (slices_EqualFunc_model_sameColumn.H k) (bodyOf Tryz.f26) 1 := loops_of (ps := [(58, pick [true, true, false, true, false, false] (bodyOf Tryz.f26))]) (by kernel_rfl) ⟨loopR_ok rfl rfl fun v x hx => ⟨k, (slices_EqualFunc_model_sameColumn.l4.ok k k v).trans hx⟩, trivial⟩
theorem slices_EqualFunc_model_sameColumn.call (k : Nat) : FnC Tryz.prog U Lay 26 slices_EqualFunc_model_sameColumn.P slices_EqualFunc_model_sameColumn.S (slices_EqualFunc_model_sameColumn.u k) := fnC hLay ulaw gok (fun f xs => (.ite (.entry (model_sameColumn.call k)) (CallC.none) : CallC Tryz.prog U Lay _ f xs)) (fun f xs => (CallC2.none : CallC2 Tryz.prog U Lay _ f xs)) slices_EqualFunc_model_sameColumn.fns (slices_EqualFunc_model_sameColumn.loops k) (slices_EqualFunc_model_sameColumn.ev k)
def model_sameRule (k : Nat) (a0 : Rule) (a1 : Rule) : Option (Bool) :=
 (slices_Equal_25 k a0.tests a1.tests).bind fun r1 =>
 ((if r1 = true then
 (slices_Equal_25 k a0.says a1.says).bind fun r2 =>
 some r2
 else some false) : Option Bool).bind fun b3 =>
 some b3
def model_sameRule.u (k : Nat) (v : Rule × Rule) : Option (Bool) := model_sameRule k v.1 v.2
def model_sameRule.G (k : Nat) : Ctx U := ⟨tyOf, bytesOf, fun f xs => if f == 25 then entry slices_Equal_25.P slices_Equal_25.S (slices_Equal_25.u k) xs else none, fun f xs => none, fun d => false⟩
def model_sameRule.H (k : Nat) : Hint U := ⟨[], fun i => none, fun i => none, fun i => none⟩
theorem model_sameRule.ev (k : Nat) (v : Rule × Rule) : evFn (model_sameRule.G k) (model_sameRule.H k) model_sameRule.S Tryz.f29 (encA model_sameRule.P v) = model_sameRule.u k v := by kernel_rfl
theorem model_sameRule.fns : Fns Tryz.prog 29 Tryz.f29 model_sameRule.P := ⟨Tryz.func29, by kernel_rfl⟩
theorem model_sameRule.loops (k : Nat) : LoopsOk (model_sameRule.G k) (model_sameRule.H k) (bodyOf Tryz.f29) 1 := loops_of (ps := []) (by kernel_rfl) trivial
theorem model_sameRule.call (k : Nat) : FnC Tryz.prog U Lay 29 model_sameRule.P model_sameRule.S (model_sameRule.u k) := fnC hLay ulaw gok (fun f xs => (.ite (.entry (slices_Equal_25.call k)) (CallC.none) : CallC Tryz.prog U Lay _ f xs)) (fun f xs => (CallC2.none : CallC2 Tryz.prog U Lay _ f xs)) model_sameRule.fns (model_sameRule.loops k) (model_sameRule.ev k)
def slices_EqualFunc_model_sameRule.l4 (k : Nat) (v1 : List Rule) (v15 : List Rule) (v16 : Int) : Nat → Int → Option (Fl (Unit) (Bool))
 | 0, _ => none
 | n + 1, v17 =>
 if (decide (v17 < v16)) = true then
 (idx v15 v17).bind fun e1 =>
 (idx v1 v17).bind fun e2 =>
 (model_sameRule k e1 e2).bind fun r3 =>
 if (!r3) = true then
 some (Fl.ret false)
 else
 slices_EqualFunc_model_sameRule.l4 k v1 v15 v16 n (IntKind.wrap .i64 (v17 + (1 : Int)))
 else
 some (Fl.go ())
def slices_EqualFunc_model_sameRule (k : Nat) (a0 : List Rule) (a1 : List Rule) : Option (Bool) :=
 if ((a0.length : Int) != (a1.length : Int)) = true then
 some false
 else
 (slices_EqualFunc_model_sameRule.l4 k a1 a0 (a0.length : Int) k (0 : Int)).bind fun o => (match o with
 | .go x4 =>
 some true
 | .ret x5 =>
 some x5)
def slices_EqualFunc_model_sameRule.u (k : Nat) (v : (List Rule) × (List Rule)) : Option (Bool) := slices_EqualFunc_model_sameRule k v.1 v.2
def slices_EqualFunc_model_sameRule.G (k : Nat) : Ctx U := ⟨tyOf, bytesOf, fun f xs => if f == 29 then entry model_sameRule.P model_sameRule.S (model_sameRule.u k) xs else none, fun f xs => none, fun d => false⟩
def slices_EqualFunc_model_sameRule.l4.L (k : Nat) : ELoopR U := ⟨[.slot 1 (.sl (.st 7)), .fn 2 29, .slot 15 (.sl (.st 7)), .slot 16 (.int .i64), .slot 17 (.int .i64)], 0, [], [.slot 6 .bool], fun (v : (List Rule) × (List Rule) × Int × Int) => slices_EqualFunc_model_sameRule.l4 k v.1 v.2.1 v.2.2.1 k v.2.2.2⟩
def slices_EqualFunc_model_sameRule.H (k : Nat) : Hint U := ⟨[], fun i => none, fun i => if i == 58 then some (slices_EqualFunc_model_sameRule.l4.L k) else none, fun i => none⟩
theorem slices_EqualFunc_model_sameRule.l4.ok (k n : Nat) (v : Vars U (slices_EqualFunc_model_sameRule.l4.L k).ks) : loopRT (slices_EqualFunc_model_sameRule.G k) (slices_EqualFunc_model_sameRule.H k) (pick [true, true, false, true, false, false] (bodyOf Tryz.f28)) 58 (slices_EqualFunc_model_sameRule.l4.L k) n v = (fun (v : (List Rule) × (List Rule) × Int × Int) => slices_EqualFunc_model_sameRule.l4 k v.1 v.2.1 v.2.2.1 n v.2.2.2) v :=
  loopRT_eq (slices_EqualFunc_model_sameRule.G k) (slices_EqualFunc_model_sameRule.H k) _ _ (slices_EqualFunc_model_sameRule.l4.L k) (fun n (v : (List Rule) × (List Rule) × Int × Int) => slices_EqualFunc_model_sameRule.l4 k v.1 v.2.1 v.2.2.1 n v.2.2.2) (fun _ => rfl) (fun n v => by kernel_rfl) n v
theorem slices_EqualFunc_model_sameRule.ev (k : Nat) (v : (List Rule) × (List Rule)) : evFn (slices_EqualFunc_model_sameRule.G k) (slices_EqualFunc_model_sameRule.H k) slices_EqualFunc_model_sameRule.S Tryz.f28 (encA slices_EqualFunc_model_sameRule.P v) = slices_EqualFunc_model_sameRule.u k v := by kernel_rfl
theorem slices_EqualFunc_model_sameRule.fns : Fns Tryz.prog 28 Tryz.f28 slices_EqualFunc_model_sameRule.P := ⟨Tryz.func28, by kernel_rfl⟩
theorem slices_EqualFunc_model_sameRule.loops (k : Nat) : LoopsOk (slices_EqualFunc_model_sameRule.G k) (slices_EqualFunc_model_sameRule.H k) (bodyOf Tryz.f28) 1 := loops_of (ps := [(58, pick [true, true, false, true, false, false] (bodyOf Tryz.f28))]) (by kernel_rfl) ⟨loopR_ok rfl rfl fun v x hx => ⟨k, (slices_EqualFunc_model_sameRule.l4.ok k k v).trans hx⟩, trivial⟩
theorem slices_EqualFunc_model_sameRule.call (k : Nat) : FnC Tryz.prog U Lay 28 slices_EqualFunc_model_sameRule.P slices_EqualFunc_model_sameRule.S (slices_EqualFunc_model_sameRule.u k) := fnC hLay ulaw gok (fun f xs => (.ite (.entry (model_sameRule.call k)) (CallC.none) : CallC Tryz.prog U Lay _ f xs)) (fun f xs => (CallC2.none : CallC2 Tryz.prog U Lay _ f xs)) slices_EqualFunc_model_sameRule.fns (slices_EqualFunc_model_sameRule.loops k) (slices_EqualFunc_model_sameRule.ev k)
def model_sameDecision (k : Nat) (a0 : Decision) (a1 : Decision) : Option (Bool) :=
 ((if (a0.id.data.toList == a1.id.data.toList) = true then
 some (a0.name.data.toList == a1.name.data.toList)
 else some false) : Option Bool).bind fun b1 =>
 ((if b1 = true then
 some (a0.item.data.toList == a1.item.data.toList)
 else some false) : Option Bool).bind fun b2 =>
 ((if b2 = true then
 some (a0.text.data.toList == a1.text.data.toList)
 else some false) : Option Bool).bind fun b3 =>
 ((if b3 = true then
 (slices_Equal_25 k a0.needs a1.needs).bind fun r4 =>
 some r4
 else some false) : Option Bool).bind fun b5 =>
 ((if b5 = true then
 some (a0.table.policy == a1.table.policy)
 else some false) : Option Bool).bind fun b6 =>
 ((if b6 = true then
 (slices_EqualFunc_model_sameColumn k a0.table.ins a1.table.ins).bind fun r7 =>
 some r7
 else some false) : Option Bool).bind fun b8 =>
 ((if b8 = true then
 (slices_EqualFunc_model_sameColumn k a0.table.outs a1.table.outs).bind fun r9 =>
 some r9
 else some false) : Option Bool).bind fun b10 =>
 ((if b10 = true then
 (slices_EqualFunc_model_sameRule k a0.table.rules a1.table.rules).bind fun r11 =>
 some r11
 else some false) : Option Bool).bind fun b12 =>
 ((if b12 = true then
 (slices_Equal_25 k a0.table.default a1.table.default).bind fun r13 =>
 some r13
 else some false) : Option Bool).bind fun b14 =>
 some b14
def model_sameDecision.u (k : Nat) (v : Decision × Decision) : Option (Bool) := model_sameDecision k v.1 v.2
def model_sameDecision.G (k : Nat) : Ctx U := ⟨tyOf, bytesOf, fun f xs => if f == 25 then entry slices_Equal_25.P slices_Equal_25.S (slices_Equal_25.u k) xs else if f == 26 then entry slices_EqualFunc_model_sameColumn.P slices_EqualFunc_model_sameColumn.S (slices_EqualFunc_model_sameColumn.u k) xs else if f == 28 then entry slices_EqualFunc_model_sameRule.P slices_EqualFunc_model_sameRule.S (slices_EqualFunc_model_sameRule.u k) xs else none, fun f xs => none, fun d => false⟩
def model_sameDecision.H (k : Nat) : Hint U := ⟨[], fun i => none, fun i => none, fun i => none⟩
theorem model_sameDecision.ev (k : Nat) (v : Decision × Decision) : evFn (model_sameDecision.G k) (model_sameDecision.H k) model_sameDecision.S Tryz.f13 (encA model_sameDecision.P v) = model_sameDecision.u k v := by kernel_rfl
theorem model_sameDecision.fns : Fns Tryz.prog 13 Tryz.f13 model_sameDecision.P := ⟨Tryz.func13, by kernel_rfl⟩
theorem model_sameDecision.loops (k : Nat) : LoopsOk (model_sameDecision.G k) (model_sameDecision.H k) (bodyOf Tryz.f13) 1 := loops_of (ps := []) (by kernel_rfl) trivial
theorem model_sameDecision.call (k : Nat) : FnC Tryz.prog U Lay 13 model_sameDecision.P model_sameDecision.S (model_sameDecision.u k) := fnC hLay ulaw gok (fun f xs => (.ite (.entry (slices_Equal_25.call k)) (.ite (.entry (slices_EqualFunc_model_sameColumn.call k)) (.ite (.entry (slices_EqualFunc_model_sameRule.call k)) (CallC.none))) : CallC Tryz.prog U Lay _ f xs)) (fun f xs => (CallC2.none : CallC2 Tryz.prog U Lay _ f xs)) model_sameDecision.fns (model_sameDecision.loops k) (model_sameDecision.ev k)
def slices_EqualFunc_model_sameDecision.l4 (k : Nat) (v1 : List Decision) (v15 : List Decision) (v16 : Int) : Nat → Int → Option (Fl (Unit) (Bool))
 | 0, _ => none
 | n + 1, v17 =>
 if (decide (v17 < v16)) = true then
 (idx v15 v17).bind fun e1 =>
 (idx v1 v17).bind fun e2 =>
 (model_sameDecision k e1 e2).bind fun r3 =>
 if (!r3) = true then
 some (Fl.ret false)
 else
 slices_EqualFunc_model_sameDecision.l4 k v1 v15 v16 n (IntKind.wrap .i64 (v17 + (1 : Int)))
 else
 some (Fl.go ())
def slices_EqualFunc_model_sameDecision (k : Nat) (a0 : List Decision) (a1 : List Decision) : Option (Bool) :=
 if ((a0.length : Int) != (a1.length : Int)) = true then
 some false
 else
 (slices_EqualFunc_model_sameDecision.l4 k a1 a0 (a0.length : Int) k (0 : Int)).bind fun o => (match o with
 | .go x4 =>
 some true
 | .ret x5 =>
 some x5)
def slices_EqualFunc_model_sameDecision.u (k : Nat) (v : (List Decision) × (List Decision)) : Option (Bool) := slices_EqualFunc_model_sameDecision k v.1 v.2
def slices_EqualFunc_model_sameDecision.G (k : Nat) : Ctx U := ⟨tyOf, bytesOf, fun f xs => if f == 13 then entry model_sameDecision.P model_sameDecision.S (model_sameDecision.u k) xs else none, fun f xs => none, fun d => false⟩
def slices_EqualFunc_model_sameDecision.l4.L (k : Nat) : ELoopR U := ⟨[.slot 1 (.sl (.st 4)), .fn 2 13, .slot 15 (.sl (.st 4)), .slot 16 (.int .i64), .slot 17 (.int .i64)], 0, [], [.slot 6 .bool], fun (v : (List Decision) × (List Decision) × Int × Int) => slices_EqualFunc_model_sameDecision.l4 k v.1 v.2.1 v.2.2.1 k v.2.2.2⟩
def slices_EqualFunc_model_sameDecision.H (k : Nat) : Hint U := ⟨[], fun i => none, fun i => if i == 58 then some (slices_EqualFunc_model_sameDecision.l4.L k) else none, fun i => none⟩
theorem slices_EqualFunc_model_sameDecision.l4.ok (k n : Nat) (v : Vars U (slices_EqualFunc_model_sameDecision.l4.L k).ks) : loopRT (slices_EqualFunc_model_sameDecision.G k) (slices_EqualFunc_model_sameDecision.H k) (pick [true, true, false, true, false, false] (bodyOf Tryz.f12)) 58 (slices_EqualFunc_model_sameDecision.l4.L k) n v = (fun (v : (List Decision) × (List Decision) × Int × Int) => slices_EqualFunc_model_sameDecision.l4 k v.1 v.2.1 v.2.2.1 n v.2.2.2) v :=
  loopRT_eq (slices_EqualFunc_model_sameDecision.G k) (slices_EqualFunc_model_sameDecision.H k) _ _ (slices_EqualFunc_model_sameDecision.l4.L k) (fun n (v : (List Decision) × (List Decision) × Int × Int) => slices_EqualFunc_model_sameDecision.l4 k v.1 v.2.1 v.2.2.1 n v.2.2.2) (fun _ => rfl) (fun n v => by kernel_rfl) n v
theorem slices_EqualFunc_model_sameDecision.ev (k : Nat) (v : (List Decision) × (List Decision)) : evFn (slices_EqualFunc_model_sameDecision.G k) (slices_EqualFunc_model_sameDecision.H k) slices_EqualFunc_model_sameDecision.S Tryz.f12 (encA slices_EqualFunc_model_sameDecision.P v) = slices_EqualFunc_model_sameDecision.u k v := by kernel_rfl
theorem slices_EqualFunc_model_sameDecision.fns : Fns Tryz.prog 12 Tryz.f12 slices_EqualFunc_model_sameDecision.P := ⟨Tryz.func12, by kernel_rfl⟩
theorem slices_EqualFunc_model_sameDecision.loops (k : Nat) : LoopsOk (slices_EqualFunc_model_sameDecision.G k) (slices_EqualFunc_model_sameDecision.H k) (bodyOf Tryz.f12) 1 := loops_of (ps := [(58, pick [true, true, false, true, false, false] (bodyOf Tryz.f12))]) (by kernel_rfl) ⟨loopR_ok rfl rfl fun v x hx => ⟨k, (slices_EqualFunc_model_sameDecision.l4.ok k k v).trans hx⟩, trivial⟩
theorem slices_EqualFunc_model_sameDecision.call (k : Nat) : FnC Tryz.prog U Lay 12 slices_EqualFunc_model_sameDecision.P slices_EqualFunc_model_sameDecision.S (slices_EqualFunc_model_sameDecision.u k) := fnC hLay ulaw gok (fun f xs => (.ite (.entry (model_sameDecision.call k)) (CallC.none) : CallC Tryz.prog U Lay _ f xs)) (fun f xs => (CallC2.none : CallC2 Tryz.prog U Lay _ f xs)) slices_EqualFunc_model_sameDecision.fns (slices_EqualFunc_model_sameDecision.loops k) (slices_EqualFunc_model_sameDecision.ev k)
def model_Same (k : Nat) (a0 : Model) (a1 : Model) : Option (Bool) :=
 ((if (a0.id.data.toList == a1.id.data.toList) = true then
 some (a0.name.data.toList == a1.name.data.toList)
 else some false) : Option Bool).bind fun b1 =>
 ((if b1 = true then
 (slices_Equal k a0.items a1.items).bind fun r2 =>
 some r2
 else some false) : Option Bool).bind fun b3 =>
 ((if b3 = true then
 (slices_Equal_11 k a0.inputs a1.inputs).bind fun r4 =>
 some r4
 else some false) : Option Bool).bind fun b5 =>
 ((if b5 = true then
 (slices_EqualFunc_model_sameDecision k a0.decisions a1.decisions).bind fun r6 =>
 some r6
 else some false) : Option Bool).bind fun b7 =>
 some b7
def model_Same.u (k : Nat) (v : Model × Model) : Option (Bool) := model_Same k v.1 v.2
def model_Same.G (k : Nat) : Ctx U := ⟨tyOf, bytesOf, fun f xs => if f == 10 then entry slices_Equal.P slices_Equal.S (slices_Equal.u k) xs else if f == 11 then entry slices_Equal_11.P slices_Equal_11.S (slices_Equal_11.u k) xs else if f == 12 then entry slices_EqualFunc_model_sameDecision.P slices_EqualFunc_model_sameDecision.S (slices_EqualFunc_model_sameDecision.u k) xs else none, fun f xs => none, fun d => false⟩
def model_Same.H (k : Nat) : Hint U := ⟨[], fun i => none, fun i => none, fun i => none⟩
theorem model_Same.ev (k : Nat) (v : Model × Model) : evFn (model_Same.G k) (model_Same.H k) model_Same.S Tryz.f5 (encA model_Same.P v) = model_Same.u k v := by kernel_rfl
theorem model_Same.fns : Fns Tryz.prog 5 Tryz.f5 model_Same.P := ⟨Tryz.func5, by kernel_rfl⟩
theorem model_Same.loops (k : Nat) : LoopsOk (model_Same.G k) (model_Same.H k) (bodyOf Tryz.f5) 1 := loops_of (ps := []) (by kernel_rfl) trivial
theorem model_Same.call (k : Nat) : FnC Tryz.prog U Lay 5 model_Same.P model_Same.S (model_Same.u k) := fnC hLay ulaw gok (fun f xs => (.ite (.entry (slices_Equal.call k)) (.ite (.entry (slices_Equal_11.call k)) (.ite (.entry (slices_EqualFunc_model_sameDecision.call k)) (CallC.none))) : CallC Tryz.prog U Lay _ f xs)) (fun f xs => (CallC2.none : CallC2 Tryz.prog U Lay _ f xs)) model_Same.fns (model_Same.loops k) (model_Same.ev k)
def tariffref17_sameTexts.l4 (k : Nat) (v0 : List ByteArray) (v1 : List ByteArray) : Nat → Int → Option (Fl (Unit) (Bool))
 | 0, _ => none
 | n + 1, v5 =>
 if (decide (v5 < (v0.length : Int))) = true then
 (idx v0 v5).bind fun e1 =>
 (idx v1 v5).bind fun e2 =>
 if (!(e1.data.toList == e2.data.toList)) = true then
 some (Fl.ret false)
 else
 tariffref17_sameTexts.l4 k v0 v1 n (IntKind.wrap .i64 (v5 + (1 : Int)))
 else
 some (Fl.go ())
def tariffref17_sameTexts (k : Nat) (a0 : List ByteArray) (a1 : List ByteArray) : Option (Bool) :=
 if ((a0.length : Int) != (a1.length : Int)) = true then
 some false
 else
 (tariffref17_sameTexts.l4 k a0 a1 k (0 : Int)).bind fun o => (match o with
 | .go x3 =>
 some true
 | .ret x4 =>
 some x4)
def tariffref17_sameTexts.u (k : Nat) (v : (List ByteArray) × (List ByteArray)) : Option (Bool) := tariffref17_sameTexts k v.1 v.2
def tariffref17_sameTexts.G (k : Nat) : Ctx U := ⟨tyOf, bytesOf, fun f xs => none, fun f xs => none, fun d => false⟩
def tariffref17_sameTexts.l4.L (k : Nat) : ELoopR U := ⟨[.slot 0 (.sl .str), .slot 1 (.sl .str), .slot 5 (.int .i64)], 0, [], [.slot 4 .bool], fun (v : (List ByteArray) × (List ByteArray) × Int) => tariffref17_sameTexts.l4 k v.1 v.2.1 k v.2.2⟩
def tariffref17_sameTexts.H (k : Nat) : Hint U := ⟨[], fun i => none, fun i => if i == 58 then some (tariffref17_sameTexts.l4.L k) else none, fun i => none⟩
theorem tariffref17_sameTexts.l4.ok (k n : Nat) (v : Vars U (tariffref17_sameTexts.l4.L k).ks) : loopRT (tariffref17_sameTexts.G k) (tariffref17_sameTexts.H k) (pick [true, true, false, true, false, false] (bodyOf Tryz.f14)) 58 (tariffref17_sameTexts.l4.L k) n v = (fun (v : (List ByteArray) × (List ByteArray) × Int) => tariffref17_sameTexts.l4 k v.1 v.2.1 n v.2.2) v :=
  loopRT_eq (tariffref17_sameTexts.G k) (tariffref17_sameTexts.H k) _ _ (tariffref17_sameTexts.l4.L k) (fun n (v : (List ByteArray) × (List ByteArray) × Int) => tariffref17_sameTexts.l4 k v.1 v.2.1 n v.2.2) (fun _ => rfl) (fun n v => by kernel_rfl) n v
theorem tariffref17_sameTexts.ev (k : Nat) (v : (List ByteArray) × (List ByteArray)) : evFn (tariffref17_sameTexts.G k) (tariffref17_sameTexts.H k) tariffref17_sameTexts.S Tryz.f14 (encA tariffref17_sameTexts.P v) = tariffref17_sameTexts.u k v := by kernel_rfl
theorem tariffref17_sameTexts.fns : Fns Tryz.prog 14 Tryz.f14 tariffref17_sameTexts.P := ⟨Tryz.func14, by kernel_rfl⟩
theorem tariffref17_sameTexts.loops (k : Nat) : LoopsOk (tariffref17_sameTexts.G k) (tariffref17_sameTexts.H k) (bodyOf Tryz.f14) 1 := loops_of (ps := [(58, pick [true, true, false, true, false, false] (bodyOf Tryz.f14))]) (by kernel_rfl) ⟨loopR_ok rfl rfl fun v x hx => ⟨k, (tariffref17_sameTexts.l4.ok k k v).trans hx⟩, trivial⟩
theorem tariffref17_sameTexts.call (k : Nat) : FnC Tryz.prog U Lay 14 tariffref17_sameTexts.P tariffref17_sameTexts.S (tariffref17_sameTexts.u k) := fnC hLay ulaw gok (fun f xs => (CallC.none : CallC Tryz.prog U Lay _ f xs)) (fun f xs => (CallC2.none : CallC2 Tryz.prog U Lay _ f xs)) tariffref17_sameTexts.fns (tariffref17_sameTexts.loops k) (tariffref17_sameTexts.ev k)
def tariffref17_sameCols.l4 (k : Nat) (v0 : List Column) (v1 : List Column) : Nat → Int → Option (Fl (Unit) (Bool))
 | 0, _ => none
 | n + 1, v5 =>
 if (decide (v5 < (v0.length : Int))) = true then
 (idx v0 v5).bind fun e1 =>
 (idx v1 v5).bind fun e2 =>
 if (!(e1.text.data.toList == e2.text.data.toList)) = false then
 (idx v0 v5).bind fun e3 =>
 (idx v1 v5).bind fun e4 =>
 if (!(e3.item.data.toList == e4.item.data.toList)) = false then
 (idx v0 v5).bind fun e5 =>
 (idx v1 v5).bind fun e6 =>
 (tariffref17_sameTexts k e5.values e6.values).bind fun r7 =>
 if (!r7) = true then
 some (Fl.ret false)
 else
 tariffref17_sameCols.l4 k v0 v1 n (IntKind.wrap .i64 (v5 + (1 : Int)))
 else
 some (Fl.ret false)
 else
 if true = false then
 (idx v0 v5).bind fun e8 =>
 (idx v1 v5).bind fun e9 =>
 (tariffref17_sameTexts k e8.values e9.values).bind fun r10 =>
 if (!r10) = true then
 some (Fl.ret false)
 else
 tariffref17_sameCols.l4 k v0 v1 n (IntKind.wrap .i64 (v5 + (1 : Int)))
 else
 some (Fl.ret false)
 else
 some (Fl.go ())
def tariffref17_sameCols (k : Nat) (a0 : List Column) (a1 : List Column) : Option (Bool) :=
 if ((a0.length : Int) != (a1.length : Int)) = true then
 some false
 else
 (tariffref17_sameCols.l4 k a0 a1 k (0 : Int)).bind fun o => (match o with
 | .go x11 =>
 some true
 | .ret x12 =>
 some x12)
def tariffref17_sameCols.u (k : Nat) (v : (List Column) × (List Column)) : Option (Bool) := tariffref17_sameCols k v.1 v.2
def tariffref17_sameCols.G (k : Nat) : Ctx U := ⟨tyOf, bytesOf, fun f xs => if f == 14 then entry tariffref17_sameTexts.P tariffref17_sameTexts.S (tariffref17_sameTexts.u k) xs else none, fun f xs => none, fun d => false⟩
def tariffref17_sameCols.l4.L (k : Nat) : ELoopR U := ⟨[.slot 0 (.sl (.st 6)), .slot 1 (.sl (.st 6)), .slot 5 (.int .i64)], 0, [], [.slot 4 .bool], fun (v : (List Column) × (List Column) × Int) => tariffref17_sameCols.l4 k v.1 v.2.1 k v.2.2⟩
def tariffref17_sameCols.H (k : Nat) : Hint U := ⟨[], fun i => none, fun i => if i == 58 then some (tariffref17_sameCols.l4.L k) else none, fun i => none⟩
theorem tariffref17_sameCols.l4.ok (k n : Nat) (v : Vars U (tariffref17_sameCols.l4.L k).ks) : loopRT (tariffref17_sameCols.G k) (tariffref17_sameCols.H k) (pick [true, true, false, true, false, false] (bodyOf Tryz.f30)) 58 (tariffref17_sameCols.l4.L k) n v = (fun (v : (List Column) × (List Column) × Int) => tariffref17_sameCols.l4 k v.1 v.2.1 n v.2.2) v :=
  loopRT_eq (tariffref17_sameCols.G k) (tariffref17_sameCols.H k) _ _ (tariffref17_sameCols.l4.L k) (fun n (v : (List Column) × (List Column) × Int) => tariffref17_sameCols.l4 k v.1 v.2.1 n v.2.2) (fun _ => rfl) (fun n v => by kernel_rfl) n v
theorem tariffref17_sameCols.ev (k : Nat) (v : (List Column) × (List Column)) : evFn (tariffref17_sameCols.G k) (tariffref17_sameCols.H k) tariffref17_sameCols.S Tryz.f30 (encA tariffref17_sameCols.P v) = tariffref17_sameCols.u k v := by kernel_rfl
theorem tariffref17_sameCols.fns : Fns Tryz.prog 30 Tryz.f30 tariffref17_sameCols.P := ⟨Tryz.func30, by kernel_rfl⟩
theorem tariffref17_sameCols.loops (k : Nat) : LoopsOk (tariffref17_sameCols.G k) (tariffref17_sameCols.H k) (bodyOf Tryz.f30) 1 := loops_of (ps := [(58, pick [true, true, false, true, false, false] (bodyOf Tryz.f30))]) (by kernel_rfl) ⟨loopR_ok rfl rfl fun v x hx => ⟨k, (tariffref17_sameCols.l4.ok k k v).trans hx⟩, trivial⟩
theorem tariffref17_sameCols.call (k : Nat) : FnC Tryz.prog U Lay 30 tariffref17_sameCols.P tariffref17_sameCols.S (tariffref17_sameCols.u k) := fnC hLay ulaw gok (fun f xs => (.ite (.entry (tariffref17_sameTexts.call k)) (CallC.none) : CallC Tryz.prog U Lay _ f xs)) (fun f xs => (CallC2.none : CallC2 Tryz.prog U Lay _ f xs)) tariffref17_sameCols.fns (tariffref17_sameCols.loops k) (tariffref17_sameCols.ev k)
def tariffref17_sameTable.l4 (k : Nat) (b2 : Tabl) (b3 : Tabl) : Nat → Int → Option (Fl (Unit) (Bool))
 | 0, _ => none
 | n + 1, v5 =>
 if (decide (v5 < (b2.rules.length : Int))) = true then
 (idx b2.rules v5).bind fun e8 =>
 (idx b3.rules v5).bind fun e9 =>
 (tariffref17_sameTexts k e8.tests e9.tests).bind fun r10 =>
 if (!r10) = false then
 (idx b2.rules v5).bind fun e11 =>
 (idx b3.rules v5).bind fun e12 =>
 (tariffref17_sameTexts k e11.says e12.says).bind fun r13 =>
 if (!r13) = true then
 some (Fl.ret false)
 else
 tariffref17_sameTable.l4 k b2 b3 n (IntKind.wrap .i64 (v5 + (1 : Int)))
 else
 some (Fl.ret false)
 else
 some (Fl.go ())
def tariffref17_sameTable (k : Nat) (a0 : Tabl) (a1 : Tabl) : Option (Bool) :=
 ((if (a0.policy != a1.policy) = false then
 (tariffref17_sameCols k a0.ins a1.ins).bind fun r1 =>
 some (!r1)
 else some true) : Option Bool).bind fun b2 =>
 ((if b2 = false then
 (tariffref17_sameCols k a0.outs a1.outs).bind fun r3 =>
 some (!r3)
 else some true) : Option Bool).bind fun b4 =>
 ((if b4 = false then
 some ((a0.rules.length : Int) != (a1.rules.length : Int))
 else some true) : Option Bool).bind fun b5 =>
 ((if b5 = false then
 (tariffref17_sameTexts k a0.default a1.default).bind fun r6 =>
 some (!r6)
 else some true) : Option Bool).bind fun b7 =>
 if b7 = true then
 some false
 else
 (tariffref17_sameTable.l4 k a0 a1 k (0 : Int)).bind fun o => (match o with
 | .go x14 =>
 some true
 | .ret x15 =>
 some x15)
def tariffref17_sameTable.u (k : Nat) (v : Tabl × Tabl) : Option (Bool) := tariffref17_sameTable k v.1 v.2
def tariffref17_sameTable.G (k : Nat) : Ctx U := ⟨tyOf, bytesOf, fun f xs => if f == 30 then entry tariffref17_sameCols.P tariffref17_sameCols.S (tariffref17_sameCols.u k) xs else if f == 14 then entry tariffref17_sameTexts.P tariffref17_sameTexts.S (tariffref17_sameTexts.u k) xs else none, fun f xs => none, fun d => false⟩
def tariffref17_sameTable.l4.L (k : Nat) : ELoopR U := ⟨[.ptr 2 2 [] (.st 5), .ptr 3 3 [] (.st 5), .slot 5 (.int .i64), .box 2 (.st 5) [], .box 3 (.st 5) []], 0, [], [.slot 4 .bool], fun (v : Int × Tabl × Tabl) => tariffref17_sameTable.l4 k v.2.1 v.2.2 k v.1⟩
def tariffref17_sameTable.H (k : Nat) : Hint U := ⟨[], fun i => none, fun i => if i == 58 then some (tariffref17_sameTable.l4.L k) else none, fun i => none⟩
theorem tariffref17_sameTable.l4.ok (k n : Nat) (v : Vars U (tariffref17_sameTable.l4.L k).ks) : loopRT (tariffref17_sameTable.G k) (tariffref17_sameTable.H k) (pick [true, true, false, true, false, false] (bodyOf Tryz.f15)) 58 (tariffref17_sameTable.l4.L k) n v = (fun (v : Int × Tabl × Tabl) => tariffref17_sameTable.l4 k v.2.1 v.2.2 n v.1) v :=
  loopRT_eq (tariffref17_sameTable.G k) (tariffref17_sameTable.H k) _ _ (tariffref17_sameTable.l4.L k) (fun n (v : Int × Tabl × Tabl) => tariffref17_sameTable.l4 k v.2.1 v.2.2 n v.1) (fun _ => rfl) (fun n v => by kernel_rfl) n v
theorem tariffref17_sameTable.ev (k : Nat) (v : Tabl × Tabl) : evFn (tariffref17_sameTable.G k) (tariffref17_sameTable.H k) tariffref17_sameTable.S Tryz.f15 (encA tariffref17_sameTable.P v) = tariffref17_sameTable.u k v := by kernel_rfl
theorem tariffref17_sameTable.fns : Fns Tryz.prog 15 Tryz.f15 tariffref17_sameTable.P := ⟨Tryz.func15, by kernel_rfl⟩
theorem tariffref17_sameTable.loops (k : Nat) : LoopsOk (tariffref17_sameTable.G k) (tariffref17_sameTable.H k) (bodyOf Tryz.f15) 1 := loops_of (ps := [(58, pick [true, true, false, true, false, false] (bodyOf Tryz.f15))]) (by kernel_rfl) ⟨loopR_ok rfl rfl fun v x hx => ⟨k, (tariffref17_sameTable.l4.ok k k v).trans hx⟩, trivial⟩
theorem tariffref17_sameTable.call (k : Nat) : FnC Tryz.prog U Lay 15 tariffref17_sameTable.P tariffref17_sameTable.S (tariffref17_sameTable.u k) := fnC hLay ulaw gok (fun f xs => (.ite (.entry (tariffref17_sameCols.call k)) (.ite (.entry (tariffref17_sameTexts.call k)) (CallC.none)) : CallC Tryz.prog U Lay _ f xs)) (fun f xs => (CallC2.none : CallC2 Tryz.prog U Lay _ f xs)) tariffref17_sameTable.fns (tariffref17_sameTable.loops k) (tariffref17_sameTable.ev k)
def tariffref17_Same.l4 (k : Nat) (b2 : Model) (b3 : Model) : Nat → Int → Option (Fl (Model × Model) (Bool))
 | 0, _ => none
 | n + 1, v5 =>
 if (decide (v5 < (b2.items.length : Int))) = true then
 (idx b2.items v5).bind fun e5 =>
 (idx b3.items v5).bind fun e6 =>
 if (!((e5.name.data.toList == e6.name.data.toList) && (((e5.type_.kind == e6.type_.kind) && ((e5.type_.of == e6.type_.of) && true)) && ((e5.allowed.data.toList == e6.allowed.data.toList) && true)))) = true then
 some (Fl.ret false)
 else
 tariffref17_Same.l4 k b2 b3 n (IntKind.wrap .i64 (v5 + (1 : Int)))
 else
 some (Fl.go (b2, b3))
def tariffref17_Same.l9 (k : Nat) (b2 : Model) (b3 : Model) : Nat → Int → Option (Fl (Model × Model) (Bool))
 | 0, _ => none
 | n + 1, v6 =>
 if (decide (v6 < (b2.inputs.length : Int))) = true then
 (idx b2.inputs v6).bind fun e9 =>
 (idx b3.inputs v6).bind fun e10 =>
 if (!((e9.id.data.toList == e10.id.data.toList) && ((e9.name.data.toList == e10.name.data.toList) && ((e9.item.data.toList == e10.item.data.toList) && true)))) = true then
 some (Fl.ret false)
 else
 tariffref17_Same.l9 k b2 b3 n (IntKind.wrap .i64 (v6 + (1 : Int)))
 else
 some (Fl.go (b2, b3))
def tariffref17_Same.l14 (k : Nat) (b2 : Model) (b3 : Model) : Nat → Int → Option (Fl (Unit) (Bool))
 | 0, _ => none
 | n + 1, v7 =>
 if (decide (v7 < (b2.decisions.length : Int))) = true then
 (idx b2.decisions v7).bind fun e13 =>
 (idx b3.decisions v7).bind fun e14 =>
 ((if (!(e13.id.data.toList == e14.id.data.toList)) = false then
 some (!(e13.name.data.toList == e14.name.data.toList))
 else some true) : Option Bool).bind fun b15 =>
 ((if b15 = false then
 some (!(e13.item.data.toList == e14.item.data.toList))
 else some true) : Option Bool).bind fun b16 =>
 ((if b16 = false then
 some (!(e13.text.data.toList == e14.text.data.toList))
 else some true) : Option Bool).bind fun b17 =>
 ((if b17 = false then
 (tariffref17_sameTexts k e13.needs e14.needs).bind fun r18 =>
 some (!r18)
 else some true) : Option Bool).bind fun b19 =>
 ((if b19 = false then
 (tariffref17_sameTable k e13.table e14.table).bind fun r20 =>
 some (!r20)
 else some true) : Option Bool).bind fun b21 =>
 if b21 = true then
 some (Fl.ret false)
 else
 tariffref17_Same.l14 k b2 b3 n (IntKind.wrap .i64 (v7 + (1 : Int)))
 else
 some (Fl.go ())
def tariffref17_Same (k : Nat) (a0 : Model) (a1 : Model) : Option (Bool) :=
 ((if (!(a0.id.data.toList == a1.id.data.toList)) = false then
 some (!(a0.name.data.toList == a1.name.data.toList))
 else some true) : Option Bool).bind fun b1 =>
 ((if b1 = false then
 some ((a0.items.length : Int) != (a1.items.length : Int))
 else some true) : Option Bool).bind fun b2 =>
 ((if b2 = false then
 some ((a0.inputs.length : Int) != (a1.inputs.length : Int))
 else some true) : Option Bool).bind fun b3 =>
 ((if b3 = false then
 some ((a0.decisions.length : Int) != (a1.decisions.length : Int))
 else some true) : Option Bool).bind fun b4 =>
 if b4 = true then
 some false
 else
 (tariffref17_Same.l4 k a0 a1 k (0 : Int)).bind fun o => (match o with
 | .go x7 =>
 (tariffref17_Same.l9 k x7.1 x7.2 k (0 : Int)).bind fun o => (match o with
 | .go x11 =>
 (tariffref17_Same.l14 k x11.1 x11.2 k (0 : Int)).bind fun o => (match o with
 | .go x22 =>
 some true
 | .ret x23 =>
 some x23)
 | .ret x12 =>
 some x12)
 | .ret x8 =>
 some x8)
def tariffref17_Same.u (k : Nat) (v : Model × Model) : Option (Bool) := tariffref17_Same k v.1 v.2
def tariffref17_Same.G (k : Nat) : Ctx U := ⟨tyOf, bytesOf, fun f xs => if f == 14 then entry tariffref17_sameTexts.P tariffref17_sameTexts.S (tariffref17_sameTexts.u k) xs else if f == 15 then entry tariffref17_sameTable.P tariffref17_sameTable.S (tariffref17_sameTable.u k) xs else none, fun f xs => none, fun d => false⟩
def tariffref17_Same.l4.L (k : Nat) : ELoopR U := ⟨[.ptr 2 2 [] (.st 0), .ptr 3 3 [] (.st 0), .slot 5 (.int .i64), .box 2 (.st 0) [], .box 3 (.st 0) []], 0, [.ptr 2 2 [] (.st 0), .ptr 3 3 [] (.st 0), .box 2 (.st 0) [], .box 3 (.st 0) []], [.slot 4 .bool], fun (v : Int × Model × Model) => tariffref17_Same.l4 k v.2.1 v.2.2 k v.1⟩
def tariffref17_Same.l9.L (k : Nat) : ELoopR U := ⟨[.ptr 2 2 [] (.st 0), .ptr 3 3 [] (.st 0), .slot 6 (.int .i64), .box 2 (.st 0) [], .box 3 (.st 0) []], 2, [.ptr 2 2 [] (.st 0), .ptr 3 3 [] (.st 0), .box 2 (.st 0) [], .box 3 (.st 0) []], [.slot 4 .bool], fun (v : Int × Model × Model) => tariffref17_Same.l9 k v.2.1 v.2.2 k v.1⟩
def tariffref17_Same.l14.L (k : Nat) : ELoopR U := ⟨[.ptr 2 2 [] (.st 0), .ptr 3 3 [] (.st 0), .slot 7 (.int .i64), .box 2 (.st 0) [], .box 3 (.st 0) []], 4, [], [.slot 4 .bool], fun (v : Int × Model × Model) => tariffref17_Same.l14 k v.2.1 v.2.2 k v.1⟩
def tariffref17_Same.H (k : Nat) : Hint U := ⟨[], fun i => none, fun i => if i == 250 then some (tariffref17_Same.l14.L k) else if i == 122 then some (tariffref17_Same.l9.L k) else if i == 58 then some (tariffref17_Same.l4.L k) else none, fun i => none⟩
theorem tariffref17_Same.l4.ok (k n : Nat) (v : Vars U (tariffref17_Same.l4.L k).ks) : loopRT (tariffref17_Same.G k) (tariffref17_Same.H k) (pick [true, true, false, true, false, false] (bodyOf Tryz.f6)) 58 (tariffref17_Same.l4.L k) n v = (fun (v : Int × Model × Model) => tariffref17_Same.l4 k v.2.1 v.2.2 n v.1) v :=
  loopRT_eq (tariffref17_Same.G k) (tariffref17_Same.H k) _ _ (tariffref17_Same.l4.L k) (fun n (v : Int × Model × Model) => tariffref17_Same.l4 k v.2.1 v.2.2 n v.1) (fun _ => rfl) (fun n v => by kernel_rfl) n v
theorem tariffref17_Same.l9.ok (k n : Nat) (v : Vars U (tariffref17_Same.l9.L k).ks) : loopRT (tariffref17_Same.G k) (tariffref17_Same.H k) (pick [true, true, true, false, true, false, false] (bodyOf Tryz.f6)) 122 (tariffref17_Same.l9.L k) n v = (fun (v : Int × Model × Model) => tariffref17_Same.l9 k v.2.1 v.2.2 n v.1) v :=
  loopRT_eq (tariffref17_Same.G k) (tariffref17_Same.H k) _ _ (tariffref17_Same.l9.L k) (fun n (v : Int × Model × Model) => tariffref17_Same.l9 k v.2.1 v.2.2 n v.1) (fun _ => rfl) (fun n v => by kernel_rfl) n v
theorem tariffref17_Same.l14.ok (k n : Nat) (v : Vars U (tariffref17_Same.l14.L k).ks) : loopRT (tariffref17_Same.G k) (tariffref17_Same.H k) (pick [true, true, true, true, false, true, false, false] (bodyOf Tryz.f6)) 250 (tariffref17_Same.l14.L k) n v = (fun (v : Int × Model × Model) => tariffref17_Same.l14 k v.2.1 v.2.2 n v.1) v :=
  loopRT_eq (tariffref17_Same.G k) (tariffref17_Same.H k) _ _ (tariffref17_Same.l14.L k) (fun n (v : Int × Model × Model) => tariffref17_Same.l14 k v.2.1 v.2.2 n v.1) (fun _ => rfl) (fun n v => by kernel_rfl) n v
theorem tariffref17_Same.ev (k : Nat) (v : Model × Model) : evFn (tariffref17_Same.G k) (tariffref17_Same.H k) tariffref17_Same.S Tryz.f6 (encA tariffref17_Same.P v) = tariffref17_Same.u k v := by kernel_rfl
theorem tariffref17_Same.fns : Fns Tryz.prog 6 Tryz.f6 tariffref17_Same.P := ⟨Tryz.func6, by kernel_rfl⟩
theorem tariffref17_Same.loops (k : Nat) : LoopsOk (tariffref17_Same.G k) (tariffref17_Same.H k) (bodyOf Tryz.f6) 1 := loops_of (ps := [(58, pick [true, true, false, true, false, false] (bodyOf Tryz.f6)), (122, pick [true, true, true, false, true, false, false] (bodyOf Tryz.f6)), (250, pick [true, true, true, true, false, true, false, false] (bodyOf Tryz.f6))]) (by kernel_rfl) ⟨loopR_ok rfl rfl fun v x hx => ⟨k, (tariffref17_Same.l4.ok k k v).trans hx⟩, ⟨loopR_ok rfl rfl fun v x hx => ⟨k, (tariffref17_Same.l9.ok k k v).trans hx⟩, ⟨loopR_ok rfl rfl fun v x hx => ⟨k, (tariffref17_Same.l14.ok k k v).trans hx⟩, trivial⟩⟩⟩
theorem tariffref17_Same.call (k : Nat) : FnC Tryz.prog U Lay 6 tariffref17_Same.P tariffref17_Same.S (tariffref17_Same.u k) := fnC hLay ulaw gok (fun f xs => (.ite (.entry (tariffref17_sameTexts.call k)) (.ite (.entry (tariffref17_sameTable.call k)) (CallC.none)) : CallC Tryz.prog U Lay _ f xs)) (fun f xs => (CallC2.none : CallC2 Tryz.prog U Lay _ f xs)) tariffref17_Same.fns (tariffref17_Same.loops k) (tariffref17_Same.ev k)
def tarifflaw17_ModelSames (k : Nat) (a0 : Model) (a1 : Model) : Option (Bool) :=
 (known).bind fun r1 =>
 if r1 = true then
 (model_Same k a0 a1).bind fun r2 =>
 (tariffref17_Same k a0 a1).bind fun r3 =>
 if (r2 == r3) = true then
 (model_Same k a0 a0).bind fun r4 =>
 some r4
 else
 some false
 else
 if false = true then
 (model_Same k a0 a0).bind fun r5 =>
 some r5
 else
 some false
def tarifflaw17_ModelSames.u (k : Nat) (v : Model × Model) : Option (Bool) := tarifflaw17_ModelSames k v.1 v.2
def tarifflaw17_ModelSames.G (k : Nat) : Ctx U := ⟨tyOf, bytesOf, fun f xs => if f == 4 then entry known.P known.S (known.u) xs else if f == 5 then entry model_Same.P model_Same.S (model_Same.u k) xs else if f == 6 then entry tariffref17_Same.P tariffref17_Same.S (tariffref17_Same.u k) xs else none, fun f xs => none, fun d => false⟩
def tarifflaw17_ModelSames.H (k : Nat) : Hint U := ⟨[], fun i => none, fun i => none, fun i => none⟩
theorem tarifflaw17_ModelSames.ev (k : Nat) (v : Model × Model) : evFn (tarifflaw17_ModelSames.G k) (tarifflaw17_ModelSames.H k) tarifflaw17_ModelSames.S Tryz.f3 (encA tarifflaw17_ModelSames.P v) = tarifflaw17_ModelSames.u k v := by kernel_rfl
theorem tarifflaw17_ModelSames.fns : Fns Tryz.prog 3 Tryz.f3 tarifflaw17_ModelSames.P := ⟨Tryz.func3, by kernel_rfl⟩
theorem tarifflaw17_ModelSames.loops (k : Nat) : LoopsOk (tarifflaw17_ModelSames.G k) (tarifflaw17_ModelSames.H k) (bodyOf Tryz.f3) 1 := loops_of (ps := []) (by kernel_rfl) trivial
theorem tarifflaw17_ModelSames.call (k : Nat) : FnC Tryz.prog U Lay 3 tarifflaw17_ModelSames.P tarifflaw17_ModelSames.S (tarifflaw17_ModelSames.u k) := fnC hLay ulaw gok (fun f xs => (.ite (.entry (known.call)) (.ite (.entry (model_Same.call k)) (.ite (.entry (tariffref17_Same.call k)) (CallC.none))) : CallC Tryz.prog U Lay _ f xs)) (fun f xs => (CallC2.none : CallC2 Tryz.prog U Lay _ f xs)) tarifflaw17_ModelSames.fns (tarifflaw17_ModelSames.loops k) (tarifflaw17_ModelSames.ev k)
end Go.EvT
end
section
set_option maxRecDepth 100000
namespace Go.EvT
open Go.Ev Go
def eqS (a b : ByteArray) : Bool := a.data.toList == b.data.toList
def eqLs {α : Type} (f : α → α → Bool) : List α → List α → Bool
  | [], [] => true
  | a :: x, b :: y => f a b && eqLs f x y
  | _, _ => false
def itemE (a b : Item) : Bool := eqS a.name b.name && ((a.type_.kind == b.type_.kind && a.type_.of == b.type_.of) && eqS a.allowed b.allowed)
def inputE (a b : Input) : Bool := eqS a.id b.id && (eqS a.name b.name && eqS a.item b.item)
def colE (a b : Column) : Bool := eqS a.text b.text && (eqS a.item b.item && eqLs eqS a.values b.values)
def ruleE (a b : Rule) : Bool := eqLs eqS a.tests b.tests && eqLs eqS a.says b.says
def tabE (a b : Tabl) : Bool := a.policy == b.policy && (eqLs colE a.ins b.ins && (eqLs colE a.outs b.outs && (eqLs ruleE a.rules b.rules && eqLs eqS a.default b.default)))
def decE (a b : Decision) : Bool := eqS a.id b.id && (eqS a.name b.name && (eqS a.item b.item && (eqS a.text b.text && (eqLs eqS a.needs b.needs && tabE a.table b.table))))
def modE (a b : Model) : Bool := eqS a.id b.id && (eqS a.name b.name && (eqLs itemE a.items b.items && (eqLs inputE a.inputs b.inputs && eqLs decE a.decisions b.decisions)))
theorem eqS_refl (a : ByteArray) : eqS a a = true := by simp [eqS]
theorem eqLs_refl {α : Type} {f : α → α → Bool} (h : ∀ a, f a a = true) : ∀ l : List α, eqLs f l l = true
  | [] => rfl
  | a :: l => by simp [eqLs, h a, eqLs_refl h l]
theorem eqLs_len {α : Type} {f : α → α → Bool} : ∀ {x y : List α}, x.length ≠ y.length → eqLs f x y = false
  | [], [], h => absurd rfl h
  | [], _ :: _, _ => rfl
  | _ :: _, [], _ => rfl
  | a :: x, b :: y, h => by
    have : eqLs f x y = false := eqLs_len (by simpa using h)
    simp [eqLs, this]
theorem modE_refl (a : Model) : modE a a = true := by
  have hc : ∀ c, colE c c = true := fun c => by simp [colE, eqS_refl, eqLs_refl eqS_refl]
  have hr : ∀ c, ruleE c c = true := fun c => by simp [ruleE, eqLs_refl eqS_refl]
  have ht : ∀ c, tabE c c = true := fun c => by simp [tabE, eqLs_refl hc, eqLs_refl hr, eqLs_refl eqS_refl]
  have hd : ∀ c, decE c c = true := fun c => by simp [decE, eqS_refl, eqLs_refl eqS_refl, ht]
  have hi : ∀ c, itemE c c = true := fun c => by simp [itemE, eqS_refl]
  have hn : ∀ c, inputE c c = true := fun c => by simp [inputE, eqS_refl]
  simp [modE, eqS_refl, eqLs_refl hi, eqLs_refl hn, eqLs_refl hd]
abbrev Sh {α : Type} (l : List α) : Prop := l.length ≤ 1048576
theorem idx_n {α : Type} (l : List α) (i : Nat) : idx l (i : Int) = l[i]? := by
  unfold idx
  rw [if_pos (by omega), Int.toNat_natCast]
theorem wrap_n {i : Nat} (h : i < 4000000) : IntKind.wrap .i64 ((i : Int) + 1) = ((i + 1 : Nat) : Int) := by
  have e : ∀ n : Int, -9223372036854775808 ≤ n → n < 9223372036854775808 → IntKind.i64.wrap n = n := by
    intro n h0 h1
    rw [IntKind.wrap_i64]
    omega
  rw [e _ (by omega) (by omega)]
  omega
theorem loop_all {α γ : Type} {l : Nat → Int → Option (Fl γ Bool)} {v0 v1 : List α} {f : α → α → Bool} {g : γ} (hl : v0.length = v1.length)
    (h0 : ∀ n (i : Nat), v0.length ≤ i → l (n + 1) (i : Int) = some (.go g))
    (h1 : ∀ n (i : Nat) x y, i < v0.length → v0[i]? = some x → v1[i]? = some y → l (n + 1) (i : Int) = if f x y = true then l n ((i + 1 : Nat) : Int) else some (.ret false)) :
    ∀ (n i : Nat), i ≤ v0.length → v0.length - i < n → l n (i : Int) = if eqLs f (v0.drop i) (v1.drop i) = true then some (.go g) else some (.ret false) := by
  intro n
  induction n with
  | zero => intro i _ h; omega
  | succ n ih =>
    intro i hi hn
    by_cases hlt : i < v0.length
    · have e0 : v0[i]? = some v0[i] := List.getElem?_eq_getElem hlt
      have hlt1 : i < v1.length := by omega
      have e1 : v1[i]? = some v1[i] := List.getElem?_eq_getElem hlt1
      have ec : ∀ (x y : α) (A B : List α), eqLs f (x :: A) (y :: B) = (f x y && eqLs f A B) := fun _ _ _ _ => rfl
      rw [h1 n i _ _ hlt e0 e1, List.drop_eq_getElem_cons hlt, List.drop_eq_getElem_cons hlt1, ec]
      by_cases hf : f v0[i] v1[i] = true
      · rw [if_pos hf, hf, Bool.true_and]
        exact ih (i + 1) (by omega) (by omega)
      · have hf2 : f v0[i] v1[i] = false := by simpa using hf
        rw [if_neg hf, hf2, Bool.false_and]
        rfl
    · rw [h0 n i (by omega), List.drop_of_length_le (by omega), List.drop_of_length_le (by omega)]
      rfl
theorem len_ne {α : Type} (a b : List α) : (((a.length : Int) != (b.length : Int)) = true) ↔ a.length ≠ b.length := by
  simp [bne_iff_ne]
  omega
section
variable {k : Nat} (hk : 1048580 ≤ k)
theorem texts_eq (hk : 1048580 ≤ k) {a b : List ByteArray} (ha : Sh a) : slices_Equal_25 k a b = some (eqLs eqS a b) := by
  unfold slices_Equal_25
  by_cases hl : a.length = b.length
  · rw [if_neg (by rw [len_ne]; simpa using hl)]
    have := loop_all (l := slices_Equal_25.l4 k a b (a.length : Int)) (f := eqS) (g := ()) hl (fun n i hi => by
        simp only [slices_Equal_25.l4]
        rw [if_neg (by simp; omega)]) (fun n i x y hi hx hy => by
        simp only [slices_Equal_25.l4]
        rw [if_pos (by simp; omega), idx_n, idx_n, hx, hy]
        simp only [Option.bind_some]
        rw [wrap_n (by omega)]
        show (if (!eqS x y) = true then _ else _) = _
        cases eqS x y <;> rfl) k 0 (Nat.zero_le _) (by omega)
    have h0 : ((0 : Nat) : Int) = 0 := rfl
    rw [h0] at this
    rw [this]
    simp only [List.drop_zero]
    cases eqLs eqS a b <;> rfl
  · rw [if_pos (by rw [len_ne]; exact hl), eqLs_len hl]
theorem rtexts_eq (hk : 1048580 ≤ k) {a b : List ByteArray} (ha : Sh a) : tariffref17_sameTexts k a b = some (eqLs eqS a b) := by
  unfold tariffref17_sameTexts
  by_cases hl : a.length = b.length
  · rw [if_neg (by rw [len_ne]; simpa using hl)]
    have := loop_all (l := tariffref17_sameTexts.l4 k a b) (f := eqS) (g := ()) hl (fun n i hi => by
        simp only [tariffref17_sameTexts.l4]
        rw [if_neg (by simp; omega)]) (fun n i x y hi hx hy => by
        simp only [tariffref17_sameTexts.l4]
        rw [if_pos (by simp; omega), idx_n, idx_n, hx, hy]
        simp only [Option.bind_some]
        rw [wrap_n (by omega)]
        show (if (!eqS x y) = true then _ else _) = _
        cases eqS x y <;> rfl) k 0 (Nat.zero_le _) (by omega)
    have h0 : ((0 : Nat) : Int) = 0 := rfl
    rw [h0] at this
    rw [this]
    simp only [List.drop_zero]
    cases eqLs eqS a b <;> rfl
  · rw [if_pos (by rw [len_ne]; exact hl), eqLs_len hl]
theorem items_eq (hk : 1048580 ≤ k) {a b : List Item} (ha : Sh a) : slices_Equal k a b = some (eqLs itemE a b) := by
  unfold slices_Equal
  by_cases hl : a.length = b.length
  · rw [if_neg (by rw [len_ne]; simpa using hl)]
    have := loop_all (l := slices_Equal.l4 k a b (a.length : Int)) (f := itemE) (g := ()) hl (fun n i hi => by
        simp only [slices_Equal.l4]
        rw [if_neg (by simp; omega)]) (fun n i x y hi hx hy => by
        simp only [slices_Equal.l4]
        rw [if_pos (by simp; omega), idx_n, idx_n, hx, hy]
        simp only [Option.bind_some]
        rw [wrap_n (by omega)]
        have e : (x.name.data.toList == y.name.data.toList && (x.type_.kind == y.type_.kind && (x.type_.of == y.type_.of && true) && (x.allowed.data.toList == y.allowed.data.toList && true))) = itemE x y := by simp [itemE, eqS]
        rw [e]
        cases itemE x y <;> rfl) k 0 (Nat.zero_le _) (by omega)
    have h0 : ((0 : Nat) : Int) = 0 := rfl
    rw [h0] at this
    rw [this]
    simp only [List.drop_zero]
    cases eqLs itemE a b <;> rfl
  · rw [if_pos (by rw [len_ne]; exact hl), eqLs_len hl]
theorem inputs_eq (hk : 1048580 ≤ k) {a b : List Input} (ha : Sh a) : slices_Equal_11 k a b = some (eqLs inputE a b) := by
  unfold slices_Equal_11
  by_cases hl : a.length = b.length
  · rw [if_neg (by rw [len_ne]; simpa using hl)]
    have := loop_all (l := slices_Equal_11.l4 k a b (a.length : Int)) (f := inputE) (g := ()) hl (fun n i hi => by
        simp only [slices_Equal_11.l4]
        rw [if_neg (by simp; omega)]) (fun n i x y hi hx hy => by
        simp only [slices_Equal_11.l4]
        rw [if_pos (by simp; omega), idx_n, idx_n, hx, hy]
        simp only [Option.bind_some]
        rw [wrap_n (by omega)]
        have e : (x.id.data.toList == y.id.data.toList && (x.name.data.toList == y.name.data.toList && (x.item.data.toList == y.item.data.toList && true))) = inputE x y := by simp [inputE, eqS]
        rw [e]
        cases inputE x y <;> rfl) k 0 (Nat.zero_le _) (by omega)
    have h0 : ((0 : Nat) : Int) = 0 := rfl
    rw [h0] at this
    rw [this]
    simp only [List.drop_zero]
    cases eqLs inputE a b <;> rfl
  · rw [if_pos (by rw [len_ne]; exact hl), eqLs_len hl]
abbrev ColOk (c : Column) : Prop := Sh c.values
abbrev RuleOk (r : Rule) : Prop := Sh r.tests ∧ Sh r.says
structure TablOk (t : Tabl) : Prop where
  ins : Sh t.ins
  outs : Sh t.outs
  rules : Sh t.rules
  default : Sh t.default
  insC : ∀ c ∈ t.ins, ColOk c
  outsC : ∀ c ∈ t.outs, ColOk c
  rulesC : ∀ c ∈ t.rules, RuleOk c
structure DecOk (d : Decision) : Prop where
  needs : Sh d.needs
  table : TablOk d.table
structure ModOk (m : Model) : Prop where
  items : Sh m.items
  inputs : Sh m.inputs
  decisions : Sh m.decisions
  decC : ∀ d ∈ m.decisions, DecOk d
theorem col_eq (hk : 1048580 ≤ k) {a b : Column} (ha : ColOk a) : model_sameColumn k a b = some (colE a b) := by
  unfold model_sameColumn
  rw [texts_eq hk ha]
  have e1 : (a.text.data.toList == b.text.data.toList) = eqS a.text b.text := rfl
  have e2 : (a.item.data.toList == b.item.data.toList) = eqS a.item b.item := rfl
  unfold colE
  rw [e1, e2]
  cases eqS a.text b.text <;> cases eqS a.item b.item <;> cases eqLs eqS a.values b.values <;> rfl
theorem rule_eq (hk : 1048580 ≤ k) {a b : Rule} (ha : RuleOk a) : model_sameRule k a b = some (ruleE a b) := by
  unfold model_sameRule
  rw [texts_eq hk ha.1, texts_eq hk ha.2]
  unfold ruleE
  cases eqLs eqS a.tests b.tests <;> cases eqLs eqS a.says b.says <;> rfl
theorem cols_eq (hk : 1048580 ≤ k) {a b : List Column} (ha : Sh a) (hc : ∀ c ∈ a, ColOk c) : slices_EqualFunc_model_sameColumn k a b = some (eqLs colE a b) := by
  unfold slices_EqualFunc_model_sameColumn
  by_cases hl : a.length = b.length
  · rw [if_neg (by rw [len_ne]; simpa using hl)]
    have := loop_all (l := slices_EqualFunc_model_sameColumn.l4 k b a (a.length : Int)) (f := colE) (g := ()) hl (fun n i hi => by
        simp only [slices_EqualFunc_model_sameColumn.l4]
        rw [if_neg (by simp; omega)]) (fun n i x y hi hx hy => by
        simp only [slices_EqualFunc_model_sameColumn.l4]
        rw [if_pos (by simp; omega), idx_n, idx_n, hx, hy]
        simp only [Option.bind_some]
        rw [wrap_n (by omega), col_eq hk (hc x (List.mem_of_getElem? hx))]
        simp only [Option.bind_some]
        cases colE x y <;> rfl) k 0 (Nat.zero_le _) (by omega)
    have h0 : ((0 : Nat) : Int) = 0 := rfl
    rw [h0] at this
    rw [this]
    simp only [List.drop_zero]
    cases eqLs colE a b <;> rfl
  · rw [if_pos (by rw [len_ne]; exact hl), eqLs_len hl]
theorem rules_eq (hk : 1048580 ≤ k) {a b : List Rule} (ha : Sh a) (hc : ∀ c ∈ a, RuleOk c) : slices_EqualFunc_model_sameRule k a b = some (eqLs ruleE a b) := by
  unfold slices_EqualFunc_model_sameRule
  by_cases hl : a.length = b.length
  · rw [if_neg (by rw [len_ne]; simpa using hl)]
    have := loop_all (l := slices_EqualFunc_model_sameRule.l4 k b a (a.length : Int)) (f := ruleE) (g := ()) hl (fun n i hi => by
        simp only [slices_EqualFunc_model_sameRule.l4]
        rw [if_neg (by simp; omega)]) (fun n i x y hi hx hy => by
        simp only [slices_EqualFunc_model_sameRule.l4]
        rw [if_pos (by simp; omega), idx_n, idx_n, hx, hy]
        simp only [Option.bind_some]
        rw [wrap_n (by omega), rule_eq hk (hc x (List.mem_of_getElem? hx))]
        simp only [Option.bind_some]
        cases ruleE x y <;> rfl) k 0 (Nat.zero_le _) (by omega)
    have h0 : ((0 : Nat) : Int) = 0 := rfl
    rw [h0] at this
    rw [this]
    simp only [List.drop_zero]
    cases eqLs ruleE a b <;> rfl
  · rw [if_pos (by rw [len_ne]; exact hl), eqLs_len hl]
theorem dec_eq (hk : 1048580 ≤ k) {a b : Decision} (ha : DecOk a) : model_sameDecision k a b = some (decE a b) := by
  unfold model_sameDecision
  rw [texts_eq hk ha.needs, cols_eq hk ha.table.ins ha.table.insC, cols_eq hk ha.table.outs ha.table.outsC, rules_eq hk ha.table.rules ha.table.rulesC, texts_eq hk ha.table.default]
  have e1 : (a.id.data.toList == b.id.data.toList) = eqS a.id b.id := rfl
  have e2 : (a.name.data.toList == b.name.data.toList) = eqS a.name b.name := rfl
  have e3 : (a.item.data.toList == b.item.data.toList) = eqS a.item b.item := rfl
  have e4 : (a.text.data.toList == b.text.data.toList) = eqS a.text b.text := rfl
  unfold decE tabE
  rw [e1, e2, e3, e4]
  cases eqS a.id b.id <;> try rfl
  cases eqS a.name b.name <;> try rfl
  cases eqS a.item b.item <;> try rfl
  cases eqS a.text b.text <;> try rfl
  cases eqLs eqS a.needs b.needs <;> try rfl
  cases (a.table.policy == b.table.policy) <;> try rfl
  cases eqLs colE a.table.ins b.table.ins <;> try rfl
  cases eqLs colE a.table.outs b.table.outs <;> try rfl
  cases eqLs ruleE a.table.rules b.table.rules <;> try rfl
theorem decs_eq (hk : 1048580 ≤ k) {a b : List Decision} (ha : Sh a) (hc : ∀ c ∈ a, DecOk c) : slices_EqualFunc_model_sameDecision k a b = some (eqLs decE a b) := by
  unfold slices_EqualFunc_model_sameDecision
  by_cases hl : a.length = b.length
  · rw [if_neg (by rw [len_ne]; simpa using hl)]
    have := loop_all (l := slices_EqualFunc_model_sameDecision.l4 k b a (a.length : Int)) (f := decE) (g := ()) hl (fun n i hi => by
        simp only [slices_EqualFunc_model_sameDecision.l4]
        rw [if_neg (by simp; omega)]) (fun n i x y hi hx hy => by
        simp only [slices_EqualFunc_model_sameDecision.l4]
        rw [if_pos (by simp; omega), idx_n, idx_n, hx, hy]
        simp only [Option.bind_some]
        rw [wrap_n (by omega), dec_eq hk (hc x (List.mem_of_getElem? hx))]
        simp only [Option.bind_some]
        cases decE x y <;> rfl) k 0 (Nat.zero_le _) (by omega)
    have h0 : ((0 : Nat) : Int) = 0 := rfl
    rw [h0] at this
    rw [this]
    simp only [List.drop_zero]
    cases eqLs decE a b <;> rfl
  · rw [if_pos (by rw [len_ne]; exact hl), eqLs_len hl]
theorem same_eq (hk : 1048580 ≤ k) {a b : Model} (ha : ModOk a) : model_Same k a b = some (modE a b) := by
  unfold model_Same
  rw [items_eq hk ha.items, inputs_eq hk ha.inputs, decs_eq hk ha.decisions ha.decC]
  have e1 : (a.id.data.toList == b.id.data.toList) = eqS a.id b.id := rfl
  have e2 : (a.name.data.toList == b.name.data.toList) = eqS a.name b.name := rfl
  unfold modE
  rw [e1, e2]
  cases eqS a.id b.id <;> try rfl
  cases eqS a.name b.name <;> try rfl
  cases eqLs itemE a.items b.items <;> try rfl
  cases eqLs inputE a.inputs b.inputs <;> try rfl
theorem rcols_eq (hk : 1048580 ≤ k) {a b : List Column} (ha : Sh a) (hc : ∀ c ∈ a, ColOk c) : tariffref17_sameCols k a b = some (eqLs colE a b) := by
  unfold tariffref17_sameCols
  by_cases hl : a.length = b.length
  · rw [if_neg (by rw [len_ne]; simpa using hl)]
    have := loop_all (l := tariffref17_sameCols.l4 k a b) (f := colE) (g := ()) hl (fun n i hi => by
        simp only [tariffref17_sameCols.l4]
        rw [if_neg (by simp; omega)]) (fun n i x y hi hx hy => by
        simp only [tariffref17_sameCols.l4]
        rw [if_pos (by simp; omega), idx_n, idx_n, hx, hy]
        simp only [Option.bind_some]
        rw [wrap_n (by omega), rtexts_eq hk (hc x (List.mem_of_getElem? hx))]
        simp only [Option.bind_some]
        have e1 : (x.text.data.toList == y.text.data.toList) = eqS x.text y.text := rfl
        have e2 : (x.item.data.toList == y.item.data.toList) = eqS x.item y.item := rfl
        rw [e1, e2]
        unfold colE
        cases eqS x.text y.text <;> cases eqS x.item y.item <;> cases eqLs eqS x.values y.values <;> rfl) k 0 (Nat.zero_le _) (by omega)
    have h0 : ((0 : Nat) : Int) = 0 := rfl
    rw [h0] at this
    rw [this]
    simp only [List.drop_zero]
    cases eqLs colE a b <;> rfl
  · rw [if_pos (by rw [len_ne]; exact hl), eqLs_len hl]
theorem rtab_eq (hk : 1048580 ≤ k) {a b : Tabl} (ha : TablOk a) : tariffref17_sameTable k a b = some (tabE a b) := by
  unfold tariffref17_sameTable
  rw [rcols_eq hk ha.ins ha.insC, rcols_eq hk ha.outs ha.outsC, rtexts_eq hk ha.default]
  have ep : (a.policy != b.policy) = !(a.policy == b.policy) := rfl
  have el : ((a.rules.length : Int) != (b.rules.length : Int)) = !decide (a.rules.length = b.rules.length) := by
    by_cases h : a.rules.length = b.rules.length
    · simp [h]
    · have : ((a.rules.length : Int) != (b.rules.length : Int)) = true := (len_ne _ _).2 h
      rw [this]
      simp [h]
  rw [ep, el]
  unfold tabE
  cases (a.policy == b.policy) <;> try rfl
  cases eqLs colE a.ins b.ins <;> try rfl
  cases eqLs colE a.outs b.outs <;> try rfl
  by_cases hl : a.rules.length = b.rules.length
  · have := loop_all (l := tariffref17_sameTable.l4 k a b) (v0 := a.rules) (v1 := b.rules) (f := ruleE) (g := ()) hl (fun n i hi => by
        simp only [tariffref17_sameTable.l4]
        rw [if_neg (by simp; omega)]) (fun n i x y hi hx hy => by
        have hr := ha.rulesC x (List.mem_of_getElem? hx)
        have hs := ha.rules
        simp only [tariffref17_sameTable.l4]
        rw [if_pos (by simp; omega), idx_n, idx_n, hx, hy]
        simp only [Option.bind_some]
        rw [wrap_n (by omega), rtexts_eq hk hr.1, rtexts_eq hk hr.2]
        simp only [Option.bind_some]
        unfold ruleE
        cases eqLs eqS x.tests y.tests <;> cases eqLs eqS x.says y.says <;> rfl) k 0 (Nat.zero_le _) (by have := ha.rules; omega)
    have h0 : ((0 : Nat) : Int) = 0 := rfl
    rw [h0] at this
    rw [this]
    simp only [List.drop_zero, hl]
    cases eqLs ruleE a.rules b.rules <;> cases eqLs eqS a.default b.default <;> rfl
  · rw [eqLs_len (f := ruleE) hl]
    simp only [hl]
    rfl
theorem rsame_eq (hk : 1048580 ≤ k) {a b : Model} (ha : ModOk a) : tariffref17_Same k a b = some (modE a b) := by
  have el : ∀ {α : Type} (x y : List α), ((x.length : Int) != (y.length : Int)) = !decide (x.length = y.length) := by
    intro α x y
    by_cases h : x.length = y.length
    · simp [h]
    · have : ((x.length : Int) != (y.length : Int)) = true := (len_ne _ _).2 h
      rw [this]
      simp [h]
  unfold tariffref17_Same
  rw [el, el, el]
  have e1 : (a.id.data.toList == b.id.data.toList) = eqS a.id b.id := rfl
  have e2 : (a.name.data.toList == b.name.data.toList) = eqS a.name b.name := rfl
  rw [e1, e2]
  unfold modE
  cases eqS a.id b.id <;> try rfl
  cases eqS a.name b.name <;> try rfl
  by_cases h1 : a.items.length = b.items.length
  case neg => rw [eqLs_len (f := itemE) h1]; simp only [h1]; rfl
  by_cases h2 : a.inputs.length = b.inputs.length
  case neg => rw [eqLs_len (f := inputE) h2]; simp only [h1, h2]; cases eqLs itemE a.items b.items <;> rfl
  by_cases h3 : a.decisions.length = b.decisions.length
  case neg => rw [eqLs_len (f := decE) h3]; simp only [h1, h2, h3]; cases eqLs itemE a.items b.items <;> cases eqLs inputE a.inputs b.inputs <;> rfl
  have s1 := ha.items
  have s2 := ha.inputs
  have s3 := ha.decisions
  have h0 : ((0 : Nat) : Int) = 0 := rfl
  have l1 := loop_all (l := tariffref17_Same.l4 k a b) (v0 := a.items) (v1 := b.items) (f := itemE) (g := (a, b)) h1 (fun n i hi => by
        simp only [tariffref17_Same.l4]
        rw [if_neg (by simp; omega)]) (fun n i x y hi hx hy => by
        simp only [tariffref17_Same.l4]
        rw [if_pos (by simp; omega), idx_n, idx_n, hx, hy]
        simp only [Option.bind_some]
        rw [wrap_n (by omega)]
        have e : (x.name.data.toList == y.name.data.toList && (x.type_.kind == y.type_.kind && (x.type_.of == y.type_.of && true) && (x.allowed.data.toList == y.allowed.data.toList && true))) = itemE x y := by simp [itemE, eqS]
        rw [e]
        cases itemE x y <;> rfl) k 0 (Nat.zero_le _) (by omega)
  have l2 := loop_all (l := tariffref17_Same.l9 k a b) (v0 := a.inputs) (v1 := b.inputs) (f := inputE) (g := (a, b)) h2 (fun n i hi => by
        simp only [tariffref17_Same.l9]
        rw [if_neg (by simp; omega)]) (fun n i x y hi hx hy => by
        simp only [tariffref17_Same.l9]
        rw [if_pos (by simp; omega), idx_n, idx_n, hx, hy]
        simp only [Option.bind_some]
        rw [wrap_n (by omega)]
        have e : (x.id.data.toList == y.id.data.toList && (x.name.data.toList == y.name.data.toList && (x.item.data.toList == y.item.data.toList && true))) = inputE x y := by simp [inputE, eqS]
        rw [e]
        cases inputE x y <;> rfl) k 0 (Nat.zero_le _) (by omega)
  have l3 := loop_all (l := tariffref17_Same.l14 k a b) (v0 := a.decisions) (v1 := b.decisions) (f := decE) (g := ()) h3 (fun n i hi => by
        simp only [tariffref17_Same.l14]
        rw [if_neg (by simp; omega)]) (fun n i x y hi hx hy => by
        have hd := ha.decC x (List.mem_of_getElem? hx)
        simp only [tariffref17_Same.l14]
        rw [if_pos (by simp; omega), idx_n, idx_n, hx, hy]
        simp only [Option.bind_some]
        rw [wrap_n (by omega), rtexts_eq hk hd.needs, rtab_eq hk hd.table]
        have e1 : (x.id.data.toList == y.id.data.toList) = eqS x.id y.id := rfl
        have e2 : (x.name.data.toList == y.name.data.toList) = eqS x.name y.name := rfl
        have e3 : (x.item.data.toList == y.item.data.toList) = eqS x.item y.item := rfl
        have e4 : (x.text.data.toList == y.text.data.toList) = eqS x.text y.text := rfl
        rw [e1, e2, e3, e4]
        unfold decE
        cases eqS x.id y.id <;> try rfl
        cases eqS x.name y.name <;> try rfl
        cases eqS x.item y.item <;> try rfl
        cases eqS x.text y.text <;> try rfl
        cases eqLs eqS x.needs y.needs <;> try rfl
        cases tabE x.table y.table <;> rfl) k 0 (Nat.zero_le _) (by omega)
  rw [h0] at l1 l2 l3
  simp only [List.drop_zero] at l1 l2 l3
  simp only [h1, h2, h3, decide_true, Bool.not_true, Option.bind_some, if_true, Bool.false_eq_true, if_false, l1]
  cases eqLs itemE a.items b.items <;> try rfl
  simp only [if_true, Option.bind_some, l2]
  cases eqLs inputE a.inputs b.inputs <;> try rfl
  simp only [if_true, Option.bind_some, l3]
  cases eqLs decE a.decisions b.decisions <;> rfl
theorem modelSames_true (hk : 1048580 ≤ k) {a b : Model} (ha : ModOk a) : tarifflaw17_ModelSames k a b = some true := by
  unfold tarifflaw17_ModelSames
  rw [same_eq hk ha, rsame_eq hk ha, same_eq hk ha, modE_refl]
  have : known = some true := rfl
  rw [this]
  simp
end
end Go.EvT
end
