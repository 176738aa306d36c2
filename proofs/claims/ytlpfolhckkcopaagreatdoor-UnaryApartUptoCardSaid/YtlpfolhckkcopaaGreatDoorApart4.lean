/- A part of the proof in YtlpfolhckkcopaaGreatDoorApart7: lemmas and contracts; nothing is claimed here. -/
import Derived.Test.YtlpfolhckkcopaaGreatDoorApart3
import Derived.Deep.DeepHandedRow
import Derived.Deep.DeepWitnessRowRef
import Derived.Lib.LaidTab
import Derived.Lib.LaidIn
import Derived.Shelf.Unicode.ValidAny
import Derived.Shelf.Spec.BitsCarry
import Derived.Test.YtlpfolhckkcopaaGreatDoorProg
import Derived.Ground.NamesProg
import Derived.Ground.Names7Prog
import Derived.WalkKit
import Derived.WalkSpells
import Derived.WalkMore
import Derived.WalkSmall
import Derived.Deep.LoopGhost
import Derived.Lib.OthersKept
import Derived.Lib.RuneCount
set_option linter.unusedVariables false
set_option linter.unusedSimpArgs false
section
namespace Go.Ev
open Go.ChangeShapes Go.WideShapes Go.RowKit
variable {U : Univ} {P : Program}
theorem vof_okWide {w : World} {r : Reach} {b : Nat} {T : TypeId} {t : Ty} {v : Value} (hs : Shape P U T t) (h : Value.okWide P w r b T v) : VOf t v.cells.toList v := by
  cases t with
  | int k =>
    obtain ⟨n, rfl⟩ := okWide_int hs h
    rfl
  | bool =>
    obtain ⟨n, rfl⟩ := okWide_bool hs h
    rfl
  | str =>
    obtain ⟨n, rfl⟩ := okWide_string hs h
    rfl
  | sl e =>
    obtain ⟨E, hE, _⟩ := hs
    obtain ⟨a, len, cap, rfl⟩ := okWide_slice hE h
    rfl
  | arr m e =>
    obtain ⟨E, hE, _⟩ := hs
    unfold Value.okWide at h
    rw [hE] at h
    obtain ⟨cs, rfl, _⟩ := h
    rfl
  | st id =>
    obtain ⟨fs, hfs, _⟩ := hs
    obtain ⟨cs, rfl, _⟩ := okWide_struct hfs h
    rfl
section
variable {H : Type} {enc : TypeId × Value → H} {W : World}
theorem args_of {B : DataW H → Nat} (hB : BulkOk B) {tl : List (Nat × Ty)} (hR : RdOk P U tl) {r : Reach} {b0 : Nat} : ∀ {Ts : List TypeId} {ts : List Ty} {vs : List Value} {ds : List (DataW H)} {p : List MemPlace}, (∀ x ∈ Ts.zip ts, x ∈ tl) → Ts.length = ts.length →
    DataW.TrodAll enc P W 0 (fun _ => true) true Ts vs ds p → (∀ (j : Nat) T v, Ts[j]? = some T → vs[j]? = some v → Value.okWide P W r b0 T v) → ∃ xs : List U.D, xs.map D.t = ts ∧ Args U W xs vs ∧ DBL U (sumB B ds) xs
  | [], ts, vs, ds, p, _, hl, h, _ => by
    obtain ⟨rfl, rfl, rfl⟩ := trodAll_nil h
    have : ts = [] := List.length_eq_zero_iff.1 hl.symm
    subst this
    exact ⟨[], rfl, .nil, .nil⟩
  | T :: Ts, [], vs, ds, p, _, hl, _, _ => by simp at hl
  | T :: Ts, t :: ts, vs, ds, p, hm, hl, h, hv => by
    obtain ⟨v, vs1, d, ds1, a, b, rfl, rfl, rfl, h1, h2⟩ := trodAll_cons h
    obtain ⟨xs, g1, g2, g3⟩ := args_of hB hR (fun x hx => hm x (by rw [List.zip_cons_cons]; exact List.mem_cons_of_mem _ hx)) (by simpa using hl) h2 (fun j T v hT hw => hv (j + 1) T v (by simpa using hT) (by simpa using hw))
    obtain ⟨fuel, h1⟩ := h1
    have hmT : (T, t) ∈ tl := hm (T, t) (by rw [List.zip_cons_cons]; exact List.mem_cons_self)
    obtain ⟨y, q1, q2⟩ := trod_db hB hR (F := fun b => b < W.heap.size) (fun _ h => h) fuel T t v.cells.toList (d, a) hmT h1
    exact ⟨⟨t, y⟩ :: xs, by simp [g1], .cons ⟨_, q1, vof_okWide (hR.at hmT).2.1 (hv 0 T v rfl rfl)⟩ g2, .cons q2 g3 (Nat.le_refl _)⟩
theorem row_contract {B : DataW H → Nat} (hB : BulkOk B) {tl : List (Nat × Ty)} (hR : RdOk P U tl) (hl : laidOutB P = true) {fn : Func} {f : FuncId} {s : ChangeSpec} {ps : List PM} {bt : TypeId} {Ts : List TypeId} {ts : List Ty} {N : Nat} {L : (Nat → Prop) → World → Prop}
    (hpar : fn.params.toList = Ts) (hm : ∀ x ∈ Ts.zip ts, x ∈ tl) (hlen : Ts.length = ts.length) (hts : ∀ t ∈ Ts, P.readableRec t = true ∧ t < P.types.size) (hv : s.vars = []) (hr : fn.resultTypes = #[bt]) (hbt : P.underlying bt = some .bool)
    (hfn : ∀ ds : List (DataW H), ds.length = Ts.length → s.fn H ds = { results := [.lit (.bool true)], args := ds })
    (hf : Fns P f fn ps) (law : ∀ xs : List U.D, xs.map D.t = ts → DBL U N xs → ∃ (F : Tup U.car (ptys ps) → Option (Tup U.car [.bool])) (v : Tup U.car (ptys ps)), FnC P U L f ps ⟨[.d .bool], []⟩ F ∧ F v = some true ∧ encA ps v = xs.map .d)
    {base : Nat} {args : Array Value} {ds gs : List (DataW H)} {before : List MemPlace}
    (hval : ∀ (j : Nat) t v, fn.params[j]? = some t → args[j]? = some v → Value.okWide P W .any base t v)
    (hW : DataW.Whole enc P fn.params.toList s.vars false W args.toList ds gs before) (hbulk : sumB B ds ≤ N) (hL : L (fun b => b < W.heap.size) W) :
    Calls P f args W fun e W' => ∃ v, e = .returned v ∧ s.post enc P fn false true false false W args v W' := by
  have hW0 := hW
  obtain ⟨p, q, hA, hV, rfl, _, _⟩ := hW
  have hV' : DataW.TrodVars enc P W (fun _ => true) [] gs q := hv ▸ hV
  obtain ⟨rfl, rfl⟩ := trodVars_none hV'
  rw [hpar] at hA
  have hdl : ds.length = Ts.length := by
    have : ∀ {Ts : List TypeId} {vs : List Value} {ds : List (DataW H)} {p : List MemPlace}, DataW.TrodAll enc P W 0 (fun _ => true) true Ts vs ds p → ds.length = Ts.length := by
      intro Ts
      induction Ts with
      | nil => intro vs ds p h; obtain ⟨_, rfl, _⟩ := trodAll_nil h; rfl
      | cons T Ts ih =>
        intro vs ds p h
        obtain ⟨v, vs1, d, ds1, a, b, rfl, rfl, rfl, h1, h2⟩ := trodAll_cons h
        simp [ih h2]
    exact this hA
  obtain ⟨xs, g1, g2, g3⟩ := args_of hB hR hm hlen hA (fun j T v hT hw => hval j T v (by
    rw [← hpar] at hT
    simpa using hT) (by simpa using hw))
  have g3' : DBL U N xs := by
    cases g3 with
    | nil => exact .nil
    | cons h1 h2 h3 => exact .cons h1 h2 (by omega)
  obtain ⟨F, v, hC, hF, hx⟩ := law xs g1 g3'
  have hcall := law_calls hC hf hF hx g2 hL
  have hargs : args.toList.toArray = args := by simp
  rw [hargs] at hcall
  refine Calls.mono hcall fun e W' ⟨he, hB'⟩ => ⟨_, he, ?_⟩
  refine post_true hl (fun t ht => hts t (hpar ▸ ht)) hv hr hbt ?_ hW0 hB'
  rw [List.append_nil]
  exact hfn ds hdl
end
end Go.Ev
end
section
namespace Go.Ev
open Go.Proofs Go.Shelf Go.RowKit
def bits_Add64 (x y c : Int) : Option (Int × Int) := if c ≤ 1 then some ((x + y + c) % 18446744073709551616, (x + y + c) / 18446744073709551616) else none
def bits_Add64.P : List PM := [.d (.int .u64), .d (.int .u64), .d (.int .u64)]
def bits_Add64.S : Sig := ⟨[.d (.int .u64), .d (.int .u64)], []⟩
def bits_Add64.u (v : Int × Int × Int) : Option (Int × Int) := bits_Add64 v.1 v.2.1 v.2.2
variable {U : Univ} {P : Program}
theorem repV_int {F : Nat → Prop} {w : World} {k : IntKind} {n : Int} {v : Value} (h : RepV U F w ⟨.int k, n⟩ v) : v = .int k n ∧ fitInt k n := by
  obtain ⟨cs, h1, h2⟩ := h
  cases h1 with
  | int hf =>
    have h2 : [Value.int k n] = [v] := h2
    cases h2
    exact ⟨rfl, hf⟩
theorem repV_str {F : Nat → Prop} {w : World} {s : ByteArray} {v : Value} (h : RepV U F w ⟨.str, s⟩ v) : v = .string s ∧ s.size ≤ maxLen := by
  obtain ⟨cs, h1, h2⟩ := h
  cases h1 with
  | str hf =>
    have h2 : [Value.string s] = [v] := h2
    cases h2
    exact ⟨rfl, hf⟩
theorem repV_bool {F : Nat → Prop} {w : World} {b : Bool} {v : Value} (h : RepV U F w ⟨.bool, b⟩ v) : v = .bool b := by
  obtain ⟨cs, h1, h2⟩ := h
  cases h1 with
  | bool =>
    have h2 : [Value.bool b] = [v] := h2
    cases h2
    rfl
theorem mkV_int {F : Nat → Prop} {w : World} {k : IntKind} {n : Int} (h : fitInt k n) : RepV U F w ⟨.int k, n⟩ (.int k n) := ⟨_, .int h, rfl⟩
theorem mkV_bool {F : Nat → Prop} {w : World} {b : Bool} : RepV U F w ⟨.bool, b⟩ (.bool b) := ⟨_, .bool, rfl⟩
theorem Frm.below {E : Env} {gh : Gh} {w : World} (h : Frm E gh E.w) (hB : Below E.w.heap.size E.w w) : Frm E gh w := by
  refine ⟨fun bn => ?_, h.fresh, h.ffresh, h.old, hB.size, fun bn h1 _ => hB.block bn h1, hB.os, hB.tape, hB.output⟩
  rcases h.bound bn with h | h
  · exact .inl h
  · exact .inr (Nat.lt_of_lt_of_le h hB.size)
theorem fit_u64 {n : Int} (h : fitInt .u64 n) : 0 ≤ n ∧ n < 18446744073709551616 := by
  have h1 : (0 : Int) ≤ n ∧ n ≤ 18446744073709551615 := h
  omega
theorem bits_Add64.call {L : (Nat → Prop) → World → Prop} {ρ : Ren} (hl : Lays7.n25 P ρ) : FnC P U L (ρ.f 25) bits_Add64.P bits_Add64.S bits_Add64.u := by
  have key : ∀ (x y c : Int) (r : Int × Int), bits_Add64 x y c = some r → CallOk P U L (ρ.f 25) [.d ⟨.int .u64, x⟩, .d ⟨.int .u64, y⟩, .d ⟨.int .u64, c⟩] [] ⟨[.d ⟨.int .u64, r.1⟩, .d ⟨.int .u64, r.2⟩], []⟩ := ?_
  · exact fun v r h => key _ _ _ r h
  intro x y c r hr E gh args hE _
  have hh := hE.hand
  cases hh with
  | d h1 hh =>
  cases hh with
  | d h2 hh =>
  cases hh with
  | d h3 hh =>
  cases hh
  obtain ⟨rfl, f1⟩ := repV_int h1
  obtain ⟨rfl, f2⟩ := repV_int h2
  obtain ⟨rfl, f3⟩ := repV_int h3
  unfold bits_Add64 at hr
  split at hr
  · rename_i hc
    cases hr
    obtain ⟨x0, hx⟩ := fit_u64 f1
    obtain ⟨y0, hy⟩ := fit_u64 f2
    obtain ⟨c0, _⟩ := fit_u64 f3
    obtain ⟨x, rfl⟩ := Int.eq_ofNat_of_zero_le x0
    obtain ⟨y, rfl⟩ := Int.eq_ofNat_of_zero_le y0
    obtain ⟨c, rfl⟩ := Int.eq_ofNat_of_zero_le c0
    unfold Invokes
    rw [show [Value.int .u64 (x : Int), .int .u64 (y : Int), .int .u64 (c : Int)].toArray = #[.int .u64 (x : Int), .int .u64 (y : Int), .int .u64 (c : Int)] from rfl, Any7.bits_Add64 hl x y c (by omega) E.w]
    simp only
    refine ⟨gh, [.int .u64 (((x + y + c) % 18446744073709551616 : Nat) : Int), .int .u64 (((x + y + c) / 18446744073709551616 : Nat) : Int)], hE.frm, .d (.d (.d .nil)), .cons (.d ?_) (.cons (.d ?_) .nil), rfl⟩
    · have : (((x + y + c) % 18446744073709551616 : Nat) : Int) = ((x : Int) + y + c) % 18446744073709551616 := by omega
      rw [this]
      refine mkV_int (show (0 : Int) ≤ _ ∧ _ ≤ (18446744073709551615 : Int) from ?_)
      omega
    · have : (((x + y + c) / 18446744073709551616 : Nat) : Int) = ((x : Int) + y + c) / 18446744073709551616 := by omega
      rw [this]
      refine mkV_int (show (0 : Int) ≤ _ ∧ _ ≤ (18446744073709551615 : Int) from ?_)
      omega
  · cases hr
theorem calls_plain {L : (Nat → Prop) → World → Prop} {f : FuncId} {fn : Func} {ps : List PM} {t : Ty} {F : Tup U.car (ptys ps) → Option (Tup U.car [t])} (hC : FnC P U L f ps ⟨[.d t], []⟩ F) (hf : Fns P f fn ps) {v : Tup U.car (ptys ps)} {y : t.den U.car} (hF : F v = some y) {W : World} {xs : List U.D} {vs : List Value} (hx : encA ps v = xs.map .d)
    (hA : Args U W xs vs) (hL : L (fun b => b < W.heap.size) W) : Calls P f vs.toArray W fun e W' => ∃ r gh, e = .returned r ∧ RepV U gh W' ⟨t, y⟩ r ∧ Below W.heap.size W W' := by
  have h := hC v y hF
  rw [hx] at h
  have h := h (outEnv W) (outGh W) vs hA.enters hL
  unfold Invokes at h
  have hk := hf.ok
  rw [run_callFunc hk.hfn hk.hname hk.hbody] at h
  refine Calls.mono h fun e w' hr => ?_
  cases e with
  | returned v =>
    obtain ⟨gh', vs', hfr, _, hvs, rfl⟩ := hr
    have hvs : RepRVs U gh' w' (List.map Arg.d xs).length [.d ⟨t, y⟩] vs' := hvs
    cases hvs with
    | cons h1 h2 =>
      cases h2
      cases h1 with
      | d h1 => exact ⟨_, gh'.F, rfl, h1, hfr.os, hfr.tape, hfr.output, hfr.grown, fun k hk => hfr.kept k hk fun h => h⟩
  | _ => exact hr.elim
def Utf8Lay (g3 g4 : Nat) (F : Nat → Prop) (w : World) : Prop := F g3 ∧ F g4 ∧ Lib.Utf8Tabs g3 g4 w
theorem Utf8Lay.mono (g3 g4 : Nat) : LMono (Utf8Lay g3 g4) := by
  rintro F F' w w' h ⟨h1, h2, h3, h4⟩
  refine ⟨(h _ h1).1, (h _ h2).1, fun c hc => ?_, fun i hi => ⟨?_, ?_⟩⟩
  · rw [World.cell?_of_block (w := w) (h _ h1).2]; exact h3 c hc
  · rw [World.cell?_of_block (w := w) (h _ h2).2]; exact (h4 i hi).1
  · rw [World.cell?_of_block (w := w) (h _ h2).2]; exact (h4 i hi).2
def runesAll (ok : Int → Bool) (s : ByteArray) : Nat → Nat → Bool
  | 0, _ => true
  | b + 1, pos => if pos < s.size then ok ((Utf8.decode s pos).1 : Int) && runesAll ok s b (pos + (Utf8.decode s pos).2) else true
end Go.Ev
end
section
set_option maxRecDepth 100000
namespace Go.EvT
open Go.Proofs Go.Ev
structure Wide where
  hi : Int
  lo : Int
structure Dec where
  neg : Bool
  coef : Wide
  scale : Int
structure Node where
  op : Int
  kids : Int
  text : ByteArray
  num : Dec
  day : Int
structure Val where
  kind : Int
  yes : Bool
  num : Dec
  text : ByteArray
  day : Int
  list : List Val
  names : List ByteArray
structure unary_machine where
  v : Val
  stack : List Val
  ends : List Val
  is : Bool
  asked : Bool
structure expr_thing where
  sort_ : Int
  depth : Int
  at_ : Int
def car (id : Nat) : Type :=
  match id with
  | 0 => Node
  | 1 => Dec
  | 2 => Wide
  | 3 => Val
  | 4 => unary_machine
  | 5 => expr_thing
  | _ => Unit
def tys (id : Nat) : List Ty :=
  match id with
  | 0 => [(.int .i64), (.int .i64), .str, (.st 1), (.int .i64)]
  | 1 => [.bool, (.st 2), (.int .i64)]
  | 2 => [(.int .u64), (.int .u64)]
  | 3 => [(.int .i64), .bool, (.st 1), .str, (.int .i64), (.sl (.st 3)), (.sl .str)]
  | 4 => [(.st 3), (.sl (.st 3)), (.sl (.st 3)), .bool, .bool]
  | 5 => [(.int .i64), (.int .i64), (.int .i64)]
  | _ => []
def get (id : Nat) (x : car id) : List (D car) :=
  match id, x with
  | 0, (x : Node) => [⟨(.int .i64), x.op⟩, ⟨(.int .i64), x.kids⟩, ⟨.str, x.text⟩, ⟨(.st 1), x.num⟩, ⟨(.int .i64), x.day⟩]
  | 1, (x : Dec) => [⟨.bool, x.neg⟩, ⟨(.st 2), x.coef⟩, ⟨(.int .i64), x.scale⟩]
  | 2, (x : Wide) => [⟨(.int .u64), x.hi⟩, ⟨(.int .u64), x.lo⟩]
  | 3, (x : Val) => [⟨(.int .i64), x.kind⟩, ⟨.bool, x.yes⟩, ⟨(.st 1), x.num⟩, ⟨.str, x.text⟩, ⟨(.int .i64), x.day⟩, ⟨(.sl (.st 3)), x.list⟩, ⟨(.sl .str), x.names⟩]
  | 4, (x : unary_machine) => [⟨(.st 3), x.v⟩, ⟨(.sl (.st 3)), x.stack⟩, ⟨(.sl (.st 3)), x.ends⟩, ⟨.bool, x.is⟩, ⟨.bool, x.asked⟩]
  | 5, (x : expr_thing) => [⟨(.int .i64), x.sort_⟩, ⟨(.int .i64), x.depth⟩, ⟨(.int .i64), x.at_⟩]
  | _, _ => []
def putU0 (y0 : D car) (y1 : D car) (y2 : D car) (y3 : D car) (y4 : D car) : Option Node :=
  match y0.as (.int .i64), y1.as (.int .i64), y2.as .str, y3.as (.st 1), y4.as (.int .i64) with
  | some z0, some z1, some z2, some z3, some z4 => some (⟨z0, z1, z2, z3, z4⟩ : Node)
  | _, _, _, _, _ => none
def putU1 (y0 : D car) (y1 : D car) (y2 : D car) : Option Dec :=
  match y0.as .bool, y1.as (.st 2), y2.as (.int .i64) with
  | some z0, some z1, some z2 => some (⟨z0, z1, z2⟩ : Dec)
  | _, _, _ => none
def putU2 (y0 : D car) (y1 : D car) : Option Wide :=
  match y0.as (.int .u64), y1.as (.int .u64) with
  | some z0, some z1 => some (⟨z0, z1⟩ : Wide)
  | _, _ => none
def putU3 (y0 : D car) (y1 : D car) (y2 : D car) (y3 : D car) (y4 : D car) (y5 : D car) (y6 : D car) : Option Val :=
  match y0.as (.int .i64), y1.as .bool, y2.as (.st 1), y3.as .str, y4.as (.int .i64), y5.as (.sl (.st 3)), y6.as (.sl .str) with
  | some z0, some z1, some z2, some z3, some z4, some z5, some z6 => some (⟨z0, z1, z2, z3, z4, z5, z6⟩ : Val)
  | _, _, _, _, _, _, _ => none
def putU4 (y0 : D car) (y1 : D car) (y2 : D car) (y3 : D car) (y4 : D car) : Option unary_machine :=
  match y0.as (.st 3), y1.as (.sl (.st 3)), y2.as (.sl (.st 3)), y3.as .bool, y4.as .bool with
  | some z0, some z1, some z2, some z3, some z4 => some (⟨z0, z1, z2, z3, z4⟩ : unary_machine)
  | _, _, _, _, _ => none
def putU5 (y0 : D car) (y1 : D car) (y2 : D car) : Option expr_thing :=
  match y0.as (.int .i64), y1.as (.int .i64), y2.as (.int .i64) with
  | some z0, some z1, some z2 => some (⟨z0, z1, z2⟩ : expr_thing)
  | _, _, _ => none
def putU (id : Nat) (l : List (D car)) : Option (car id) :=
  match id, l with
  | 0, [y0, y1, y2, y3, y4] => putU0 y0 y1 y2 y3 y4
  | 1, [y0, y1, y2] => putU1 y0 y1 y2
  | 2, [y0, y1] => putU2 y0 y1
  | 3, [y0, y1, y2, y3, y4, y5, y6] => putU3 y0 y1 y2 y3 y4 y5 y6
  | 4, [y0, y1, y2, y3, y4] => putU4 y0 y1 y2 y3 y4
  | 5, [y0, y1, y2] => putU5 y0 y1 y2
  | _, _ => none
def zeroU (id : Nat) : Option (car id) :=
  match id with
  | 0 => some (⟨0, 0, ByteArray.empty, ⟨false, ⟨0, 0⟩, 0⟩, 0⟩ : Node)
  | 1 => some (⟨false, ⟨0, 0⟩, 0⟩ : Dec)
  | 2 => some (⟨0, 0⟩ : Wide)
  | 3 => some (⟨0, false, ⟨false, ⟨0, 0⟩, 0⟩, ByteArray.empty, 0, [], []⟩ : Val)
  | 4 => some (⟨⟨0, false, ⟨false, ⟨0, 0⟩, 0⟩, ByteArray.empty, 0, [], []⟩, [], [], false, false⟩ : unary_machine)
  | 5 => some (⟨0, 0, 0⟩ : expr_thing)
  | _ => none
def U : Univ := ⟨car, tys, get, putU, zeroU⟩
def tyL : List (Nat × Ty) := [(3, (.int .i64)), (4, .bool), (5, (.int .u8)), (9, .str), (21, (.int .i32)), (22, (.sl (.st 0))), (23, (.int .u64)), (25, (.st 2)), (27, (.st 1)), (28, (.sl (.st 3))), (29, (.sl .str)), (31, (.st 3)), (33, (.int .i64)), (44, (.st 0)), (60, (.st 4)), (69, (.sl (.sl (.int .i64)))), (70, (.sl (.int .i64))), (79, (.sl (.st 5))), (82, (.int .i64)), (84, (.st 5)), (90, (.sl (.sl (.st 3)))), (150, (.sl (.int .u64))), (158, (.arr 4 (.int .u64))), (166, (.int .u64)), (169, (.sl (.st 1))), (221, (.arr 2 (.int .u64)))]
def tyOf (t : TypeId) : Option Ty := lk tyL t
def bytesL : List (Nat × Nat) := [(22, 72), (28, 120), (29, 16), (69, 24), (70, 8), (79, 24), (90, 24), (150, 8), (169, 32)]
def bytesOf (t : TypeId) : Option Nat := lk bytesL t
theorem ulaw.tys : ∀ id (x : U.car id), (U.get id x).map D.t = U.tys id
  | 0, _ => rfl
  | 1, _ => rfl
  | 2, _ => rfl
  | 3, _ => rfl
  | 4, _ => rfl
  | 5, _ => rfl
  | _ + 6, _ => rfl
theorem ulaw.put0 (ds : List U.D) (x : U.car 0) (h : U.put 0 ds = some x) : U.get 0 x = ds := by
  rcases ds with _ | ⟨y0, _ | ⟨y1, _ | ⟨y2, _ | ⟨y3, _ | ⟨y4, _ | ⟨w, ws⟩⟩⟩⟩⟩⟩
  · cases (show (none : Option Node) = some x from h)
  · cases (show (none : Option Node) = some x from h)
  · cases (show (none : Option Node) = some x from h)
  · cases (show (none : Option Node) = some x from h)
  · cases (show (none : Option Node) = some x from h)
  · replace h : putU0 y0 y1 y2 y3 y4 = some x := h
    unfold putU0 at h
    split at h
    · rename_i e0 e1 e2 e3 e4
      cases h
      rw [as_ok e0, as_ok e1, as_ok e2, as_ok e3, as_ok e4]
      rfl
    · cases h
  · cases (show (none : Option Node) = some x from h)
theorem ulaw.put1 (ds : List U.D) (x : U.car 1) (h : U.put 1 ds = some x) : U.get 1 x = ds := by
  rcases ds with _ | ⟨y0, _ | ⟨y1, _ | ⟨y2, _ | ⟨w, ws⟩⟩⟩⟩
  · cases (show (none : Option Dec) = some x from h)
  · cases (show (none : Option Dec) = some x from h)
  · cases (show (none : Option Dec) = some x from h)
  · replace h : putU1 y0 y1 y2 = some x := h
    unfold putU1 at h
    split at h
    · rename_i e0 e1 e2
      cases h
      rw [as_ok e0, as_ok e1, as_ok e2]
      rfl
    · cases h
  · cases (show (none : Option Dec) = some x from h)
theorem ulaw.put2 (ds : List U.D) (x : U.car 2) (h : U.put 2 ds = some x) : U.get 2 x = ds := by
  rcases ds with _ | ⟨y0, _ | ⟨y1, _ | ⟨w, ws⟩⟩⟩
  · cases (show (none : Option Wide) = some x from h)
  · cases (show (none : Option Wide) = some x from h)
  · replace h : putU2 y0 y1 = some x := h
    unfold putU2 at h
    split at h
    · rename_i e0 e1
      cases h
      rw [as_ok e0, as_ok e1]
      rfl
    · cases h
  · cases (show (none : Option Wide) = some x from h)
theorem ulaw.put3 (ds : List U.D) (x : U.car 3) (h : U.put 3 ds = some x) : U.get 3 x = ds := by
  rcases ds with _ | ⟨y0, _ | ⟨y1, _ | ⟨y2, _ | ⟨y3, _ | ⟨y4, _ | ⟨y5, _ | ⟨y6, _ | ⟨w, ws⟩⟩⟩⟩⟩⟩⟩⟩
  · cases (show (none : Option Val) = some x from h)
  · cases (show (none : Option Val) = some x from h)
  · cases (show (none : Option Val) = some x from h)
  · cases (show (none : Option Val) = some x from h)
  · cases (show (none : Option Val) = some x from h)
  · cases (show (none : Option Val) = some x from h)
  · cases (show (none : Option Val) = some x from h)
  · replace h : putU3 y0 y1 y2 y3 y4 y5 y6 = some x := h
    unfold putU3 at h
    split at h
    · rename_i e0 e1 e2 e3 e4 e5 e6
      cases h
      rw [as_ok e0, as_ok e1, as_ok e2, as_ok e3, as_ok e4, as_ok e5, as_ok e6]
      rfl
    · cases h
  · cases (show (none : Option Val) = some x from h)
theorem ulaw.put4 (ds : List U.D) (x : U.car 4) (h : U.put 4 ds = some x) : U.get 4 x = ds := by
  rcases ds with _ | ⟨y0, _ | ⟨y1, _ | ⟨y2, _ | ⟨y3, _ | ⟨y4, _ | ⟨w, ws⟩⟩⟩⟩⟩⟩
  · cases (show (none : Option unary_machine) = some x from h)
  · cases (show (none : Option unary_machine) = some x from h)
  · cases (show (none : Option unary_machine) = some x from h)
  · cases (show (none : Option unary_machine) = some x from h)
  · cases (show (none : Option unary_machine) = some x from h)
  · replace h : putU4 y0 y1 y2 y3 y4 = some x := h
    unfold putU4 at h
    split at h
    · rename_i e0 e1 e2 e3 e4
      cases h
      rw [as_ok e0, as_ok e1, as_ok e2, as_ok e3, as_ok e4]
      rfl
    · cases h
  · cases (show (none : Option unary_machine) = some x from h)
theorem ulaw.put5 (ds : List U.D) (x : U.car 5) (h : U.put 5 ds = some x) : U.get 5 x = ds := by
  rcases ds with _ | ⟨y0, _ | ⟨y1, _ | ⟨y2, _ | ⟨w, ws⟩⟩⟩⟩
  · cases (show (none : Option expr_thing) = some x from h)
  · cases (show (none : Option expr_thing) = some x from h)
  · cases (show (none : Option expr_thing) = some x from h)
  · replace h : putU5 y0 y1 y2 = some x := h
    unfold putU5 at h
    split at h
    · rename_i e0 e1 e2
      cases h
      rw [as_ok e0, as_ok e1, as_ok e2]
      rfl
    · cases h
  · cases (show (none : Option expr_thing) = some x from h)
theorem ulaw.put : ∀ id (ds : List U.D) (x : U.car id), U.put id ds = some x → U.get id x = ds
  | 0, ds, x, h => ulaw.put0 ds x h
  | 1, ds, x, h => ulaw.put1 ds x h
  | 2, ds, x, h => ulaw.put2 ds x h
  | 3, ds, x, h => ulaw.put3 ds x h
  | 4, ds, x, h => ulaw.put4 ds x h
  | 5, ds, x, h => ulaw.put5 ds x h
  | _ + 6, _, _, h => nomatch (show none = some _ from h)
theorem ulaw.zero : ∀ id (x : U.car id), U.zero id = some x → ZAll U (U.get id x)
  | 0, _, h => by
    cases h
    exact zall_cons deep rfl (zall_cons deep rfl (zall_cons deep rfl (zall_cons deep rfl (zall_cons deep rfl (zall_nil)))))
  | 1, _, h => by
    cases h
    exact zall_cons deep rfl (zall_cons deep rfl (zall_cons deep rfl (zall_nil)))
  | 2, _, h => by
    cases h
    exact zall_cons deep rfl (zall_cons deep rfl (zall_nil))
  | 3, _, h => by
    cases h
    exact zall_cons deep rfl (zall_cons deep rfl (zall_cons deep rfl (zall_cons deep rfl (zall_cons deep rfl (zall_cons deep rfl (zall_cons deep rfl (zall_nil)))))))
  | 4, _, h => by
    cases h
    exact zall_cons deep rfl (zall_cons deep rfl (zall_cons deep rfl (zall_cons deep rfl (zall_cons deep rfl (zall_nil)))))
  | 5, _, h => by
    cases h
    exact zall_cons deep rfl (zall_cons deep rfl (zall_cons deep rfl (zall_nil)))
  | _ + 6, _, h => nomatch (show none = some _ from h)
theorem ulaw : ULaw U := ⟨ulaw.tys, ulaw.put, ulaw.zero, ulaw_size (n := deep) (m := 6) (by kernel_rfl) fun id h => by
  obtain ⟨j, rfl⟩ := Nat.exists_eq_add_of_le' h
  rfl⟩
theorem tyL.ok : tyL.all (fun p => tyChk Tryz.prog U p.1 p.2) = true := by kernel_rfl
theorem bytesL.ok : bytesL.all (fun p => bytesChk Tryz.prog p.1 p.2) = true := by kernel_rfl
theorem gok {c1 : FuncId → List (Arg U) → Option (PRes U)} {c2 : FuncId → List (Arg U) → Option (PRes2 U)} {c3 : Nat → Bool} : GOk Tryz.prog U ⟨tyOf, bytesOf, c1, c2, c3⟩ := gOk tyL.ok bytesL.ok rfl rfl
abbrev Lay : (Nat → Prop) → World → Prop := Utf8Lay 0 1
theorem hLay : LMono Lay := Utf8Lay.mono 0 1
def chars_char.S : Sig := ⟨[.d .bool], []⟩
def chars_char.P : List PM := [.d (.int .i32)]
def chars_Valid_1.S : Sig := ⟨[.d .bool], []⟩
def chars_Valid_1.P : List PM := [.d (.int .i32)]
def chars_char (a0 : Int) : Option (Bool) :=
 ((if (a0 == (9 : Int)) = false then
 some (a0 == (10 : Int))
 else some true) : Option Bool).bind fun b1 =>
 ((if b1 = false then
 some (a0 == (13 : Int))
 else some true) : Option Bool).bind fun b2 =>
 if b2 = true then
 some true
 else
 ((if (decide (a0 < (32 : Int))) = false then
 ((if (decide (a0 ≥ (55296 : Int))) = true then
 some (decide (a0 < (57344 : Int)))
 else some false) : Option Bool).bind fun b3 =>
 some b3
 else some true) : Option Bool).bind fun b4 =>
 ((if b4 = false then
 some (a0 == (65534 : Int))
 else some true) : Option Bool).bind fun b5 =>
 ((if b5 = false then
 some (a0 == (65535 : Int))
 else some true) : Option Bool).bind fun b6 =>
 if b6 = true then
 some false
 else
 some (decide (a0 ≤ (1114111 : Int)))
def chars_char.u (v : Int) : Option (Bool) := chars_char v
def chars_char.G : Ctx U := ⟨tyOf, bytesOf, fun f xs => none, fun f xs => none, fun d => false⟩
def chars_char.H : Hint U := ⟨[], fun i => none, fun i => none, fun i => none⟩
theorem chars_char.ev (v : Int) : evFn (chars_char.G) (chars_char.H) chars_char.S Tryz.f108 (encA chars_char.P v) = chars_char.u v := by kernel_rfl
theorem chars_char.fns : Fns Tryz.prog 108 Tryz.f108 chars_char.P := ⟨Tryz.func108, by kernel_rfl⟩
theorem chars_char.loops : LoopsOk (chars_char.G) (chars_char.H) (bodyOf Tryz.f108) 1 := loops_of (ps := []) (by kernel_rfl) trivial
theorem chars_char.call : FnC Tryz.prog U Lay 108 chars_char.P chars_char.S (chars_char.u) := fnC hLay ulaw gok (fun f xs => (CallC.none : CallC Tryz.prog U Lay _ f xs)) (fun f xs => (CallC2.none : CallC2 Tryz.prog U Lay _ f xs)) chars_char.fns (chars_char.loops) (chars_char.ev)
def chars_Valid_1 (a0 : Int) : Option (Bool) :=
 (chars_char a0).bind fun r1 =>
 some (!r1)
def chars_Valid_1.u (v : Int) : Option (Bool) := chars_Valid_1 v
def chars_Valid_1.G : Ctx U := ⟨tyOf, bytesOf, fun f xs => if f == 108 then entry chars_char.P chars_char.S (chars_char.u) xs else none, fun f xs => none, fun d => false⟩
def chars_Valid_1.H : Hint U := ⟨[], fun i => none, fun i => none, fun i => none⟩
theorem chars_Valid_1.ev (v : Int) : evFn (chars_Valid_1.G) (chars_Valid_1.H) chars_Valid_1.S Tryz.f107 (encA chars_Valid_1.P v) = chars_Valid_1.u v := by kernel_rfl
theorem chars_Valid_1.fns : Fns Tryz.prog 107 Tryz.f107 chars_Valid_1.P := ⟨Tryz.func107, by kernel_rfl⟩
theorem chars_Valid_1.loops : LoopsOk (chars_Valid_1.G) (chars_Valid_1.H) (bodyOf Tryz.f107) 1 := loops_of (ps := []) (by kernel_rfl) trivial
theorem chars_Valid_1.call : FnC Tryz.prog U Lay 107 chars_Valid_1.P chars_Valid_1.S (chars_Valid_1.u) := fnC hLay ulaw gok (fun f xs => (.ite (.entry (chars_char.call)) (CallC.none) : CallC Tryz.prog U Lay _ f xs)) (fun f xs => (CallC2.none : CallC2 Tryz.prog U Lay _ f xs)) chars_Valid_1.fns (chars_Valid_1.loops) (chars_Valid_1.ev)
end Go.EvT
end
section
namespace Go.Proofs
open Go.Shelf
def Tryz.lays25_ren : Go.Shelf.Ren := ⟨fun | 25 => 205 | n => n, fun | 22 => 23 | n => n, fun | n => n⟩
theorem Tryz.lays25 : Go.Proofs.Lays7.n25 Tryz.prog Tryz.lays25_ren := {
  mixed := by kernel_rfl
  f25 := Tryz.func205.trans (congrArg some (by kernel_rfl))
  t22 := Tryz.underlying23
  a22 := Tryz.isAgg23
  z22 := Tryz.sizeOf23
  v22 := Tryz.zeroValue23
  i22 := by kernel_rfl }
def Tryz.laysValid_ren : Go.Shelf.Ren := ⟨fun | 196 => 105 | 259 => 139 | n => n, fun | 9 => 9 | 4 => 4 | 3 => 3 | 5 => 5 | 12 => 12 | 119 => 162 | 0 => 0 | 46 => 166 | 139 => 165 | 138 => 164 | 53 => 23 | n => n, fun | 3 => 0 | 4 => 1 | n => n⟩
theorem Tryz.laysValid : Go.Proofs.Lays.n196 Tryz.prog Tryz.laysValid_ren := {
  mixed := by kernel_rfl
  f196 := Tryz.func105.trans (congrArg some (by kernel_rfl))
  f259 := Tryz.func139.trans (congrArg some (by kernel_rfl))
  t0 := Tryz.underlying0
  a0 := Tryz.isAgg0
  z0 := Tryz.sizeOf0
  v0 := Tryz.zeroValue0
  t3 := Tryz.underlying3
  a3 := Tryz.isAgg3
  z3 := Tryz.sizeOf3
  v3 := Tryz.zeroValue3
  t4 := Tryz.underlying4
  a4 := Tryz.isAgg4
  z4 := Tryz.sizeOf4
  v4 := Tryz.zeroValue4
  t5 := Tryz.underlying5
  a5 := Tryz.isAgg5
  z5 := Tryz.sizeOf5
  v5 := Tryz.zeroValue5
  t9 := Tryz.underlying9
  a9 := Tryz.isAgg9
  z9 := Tryz.sizeOf9
  v9 := Tryz.zeroValue9
  t12 := Tryz.underlying12
  a12 := Tryz.isAgg12
  z12 := Tryz.sizeOf12
  v12 := Tryz.zeroValue12
  t46 := Tryz.underlying166
  a46 := Tryz.isAgg166
  z46 := Tryz.sizeOf166
  v46 := Tryz.zeroValue166
  t53 := Tryz.underlying23
  a53 := Tryz.isAgg23
  z53 := Tryz.sizeOf23
  v53 := Tryz.zeroValue23
  t119 := Tryz.underlying162
  a119 := Tryz.isAgg162
  z119 := Tryz.sizeOf162
  t138 := Tryz.underlying164
  a138 := Tryz.isAgg164
  z138 := Tryz.sizeOf164
  v138 := Tryz.zeroValue164
  t139 := Tryz.underlying165
  a139 := Tryz.isAgg165
  z139 := Tryz.sizeOf165
  v139 := Tryz.zeroValue165
  g3 := by kernel_rfl
  g4 := by kernel_rfl }
end Go.Proofs
end
section
set_option maxRecDepth 100000
namespace Go.EvT
open Go.Ev Go.Proofs Go.RowKit Go.Shelf
def charB (r : Int) : Bool := (r == 9 || r == 10 || r == 13) || !(decide (r < 32) || (decide (r ≥ 55296) && decide (r < 57344)) || r == 65534 || r == 65535) && decide (r ≤ 1114111)
theorem chars_Valid_1_eq (r : Int) : chars_Valid_1 r = some (!charB r) := by
  unfold chars_Valid_1 chars_char charB
  by_cases h1 : r = 9
  · subst h1; rfl
  by_cases h2 : r = 10
  · subst h2; rfl
  by_cases h3 : r = 13
  · subst h3; rfl
  by_cases h4 : r < 32
  · simp [h1, h2, h3, h4]
  have e1 : (r == 9) = false := by simpa using h1
  have e2 : (r == 10) = false := by simpa using h2
  have e3 : (r == 13) = false := by simpa using h3
  by_cases h5 : r ≥ 55296 <;> by_cases h6 : r < 57344 <;> by_cases h7 : r = 65534 <;> by_cases h8 : r = 65535 <;> simp [e1, e2, e3, h1, h2, h3, h4, h5, h6, h7, h8]
def badAt (s : ByteArray) : Nat → Nat → Int
  | 0, _ => -1
  | b + 1, pos => if pos < s.size then (if charB ((Utf8.decode s pos).1 : Int) then badAt s b (pos + (Utf8.decode s pos).2) else (pos : Int)) else -1
theorem badAt_neg (s : ByteArray) : ∀ b pos, decide (badAt s b pos < 0) = runesAll charB s b pos
  | 0, _ => rfl
  | b + 1, pos => by
    simp only [badAt, runesAll]
    by_cases h : pos < s.size
    · simp only [h, if_true]
      cases hc : charB ((Utf8.decode s pos).1 : Int) with
      | true => simpa using badAt_neg s b (pos + (Utf8.decode s pos).2)
      | false => simp
    · simp [h]
theorem width_pos (s : ByteArray) (pos : Nat) (h : pos < s.size) : 1 ≤ (Utf8.decode s pos).2 := Lib.decode_width_pos s pos h
theorem c107 (r : Int) (hr : fitInt .i32 r) (W : World) (hL : Lay (fun b => b < W.heap.size) W) : Calls Tryz.prog 107 #[.int .i32 r] W fun e W' => e = .returned (.bool (!charB r)) ∧ Below W.heap.size W W' := by
  refine (calls_plain (U := U) (v := r) (y := !charB r) (vs := [.int .i32 r]) (xs := [⟨.int .i32, r⟩]) chars_Valid_1.call chars_Valid_1.fns (chars_Valid_1_eq r) rfl (.cons (mkV_int hr) .nil) hL).mono ?_
  rintro e w' ⟨v, gh, rfl, h1, h2⟩
  rw [repV_bool h1]
  exact ⟨rfl, h2⟩
theorem lay_below {w W : World} (h : Lay (fun b => b < w.heap.size) w) (hB : Below w.heap.size w W) : Lay (fun b => b < W.heap.size) W :=
  hLay _ _ _ _ (fun b hb => ⟨Nat.lt_of_lt_of_le hb hB.size, hB.block b hb⟩) h
set_option maxHeartbeats 4000000 in
set_option maxRecDepth 1000000 in
theorem indexFunc_walk (s : ByteArray) (w : World) (hL : Lay (fun b => b < w.heap.size) w) (hs : s.size ≤ maxLen) :
    Calls Tryz.prog 140 #[.string s, .func (.func 107) #[] #[], .bool true] w fun e w' => e = .returned (.int .i64 (badAt s s.size 0)) ∧ Below w.heap.size w w' := by
  go_enter Tryz.func140, Tryz.ntmps140
  go_wp2
  go_loopw [] (fun wr => ∃ (pos fuel : Nat), wr.heap[w.heap.size]? = some (.stringIter s pos) ∧ Below w.heap.size w wr ∧ badAt s fuel pos = badAt s s.size 0 ∧ s.size ≤ pos + fuel) (fun wr => s.size - wr.iterPos w.heap.size)
  case atStart => exact ⟨0, s.size, World.iter_heap w s 0, (Below.refl _ _).alloc (Nat.le_refl _) _, rfl, by omega⟩
  case round =>
    obtain ⟨pos, fuel, hit, hbw, HS, hb⟩ := hrel
    have hpos0 := iterPos_of hit
    by_cases hp : pos < s.size
    · have hnx : ∀ ty, (Instr.next (.pointer (some ⟨w.heap.size, 0, none⟩)) true ty).run Tryz.prog wr = _ := fun ty => Lib.run_next_any_at wr w.heap.size s pos ty hit hp
      have hwd := width_pos s pos hp
      obtain ⟨fuel, rfl⟩ : ∃ f', fuel = f' + 1 := ⟨fuel - 1, by omega⟩
      have hit2 := Lib.iterAt_heap wr w.heap.size s pos (pos + (Utf8.decode s pos).2) hit
      have hbw2 := Lib.below_iterAt hbw (k := w.heap.size) (Nat.le_refl _) s (pos + (Utf8.decode s pos).2)
      obtain ⟨W1, hW1⟩ : ∃ W1, W1 = wr.iterAt w.heap.size s (pos + (Utf8.decode s pos).2) := ⟨_, rfl⟩
      rw [← hW1] at hnx hit2 hbw2
      have hBlt := lt_of_block hit2
      have c := c107 ((Utf8.decode s pos).1 : Int) (show (-2147483648 : Int) ≤ _ ∧ _ ≤ (2147483647 : Int) from by have := decode_le s pos; omega) W1 (lay_below hL hbw2)
      have HS2 : badAt s (fuel + 1) pos = if charB ((Utf8.decode s pos).1 : Int) = true then badAt s fuel (pos + (Utf8.decode s pos).2) else (pos : Int) := by simp [badAt, hp]
      generalize hC : charB ((Utf8.decode s pos).1 : Int) = C at c HS2
      have hitn : ∀ w', Below W1.heap.size W1 w' → w'.heap[w.heap.size]? = some (.stringIter s (pos + (Utf8.decode s pos).2)) ∧ Below w.heap.size w w' := fun w' hb => ⟨by rw [hb.block _ hBlt]; exact hit2, hbw2.trans (hb.mono (Nat.le_of_lt hBlt))⟩
      clear hW1 hit hbw hL
      cases C with
      | true =>
        simp only [if_true] at HS2
        simp only [Bool.not_true] at c
        go_wp2_with (go_at_call 107; refine c.mono ?_; rintro e w' ⟨rfl, hb⟩)
        go_roundw
        case rel => exact ⟨_, fuel, (hitn _ hb).1, (hitn _ hb).2, by rw [← HS2]; exact HS, by omega⟩
        case measure => rw [iterPos_of (hitn _ hb).1, hpos0]; omega
      | false =>
        simp only [Bool.false_eq_true, if_false] at HS2
        simp only [Bool.not_false] at c
        go_wp2_with (go_at_call 107; refine c.mono ?_; rintro e w' ⟨rfl, hb⟩)
        go_ret
        exact ⟨(by rw [← HS, HS2]; rfl), (hitn _ hb).2⟩
    · have hnx : ∀ ty, (Instr.next (.pointer (some ⟨w.heap.size, 0, none⟩)) true ty).run Tryz.prog wr = _ := fun ty => Lib.run_next_end_at wr w.heap.size s pos ty hit hp
      have HS2 : badAt s fuel pos = -1 := by cases fuel <;> simp [badAt, hp]
      go_wp2
      go_ret
      exact ⟨(by rw [← HS, HS2]; rfl), hbw⟩
theorem IndexFunc_walk (s : ByteArray) (w : World) (hL : Lay (fun b => b < w.heap.size) w) (hs : s.size ≤ maxLen) :
    Calls Tryz.prog 106 #[.string s, .func (.func 107) #[] #[]] w fun e w' => e = .returned (.int .i64 (badAt s s.size 0)) ∧ Below w.heap.size w w' := by
  have c := indexFunc_walk s w hL hs
  go_enter Tryz.func106, Tryz.ntmps106
  go_wp2_with (go_at_call 140; refine c.mono ?_; rintro e w' ⟨rfl, hb⟩)
  go_ret
  exact ⟨rfl, hb⟩
def validText (s : ByteArray) : Bool := Lib.validD s.data.toList && runesAll charB s s.size 0
set_option maxHeartbeats 4000000 in
theorem Valid_walk (s : ByteArray) (w : World) (hL : Lay (fun b => b < w.heap.size) w) (hs : s.size ≤ maxLen) :
    Calls Tryz.prog 70 #[.string s] w fun e w' => e = .returned (.bool (validText s)) ∧ Below w.heap.size w w' := by
  have cV : Calls Tryz.prog 105 #[.string s] w _ := Any.utf8_ValidString Tryz.laysValid s w (Nat.le_trans hs (by decide)) hL.2.2
  have cI := fun w' (hb : Below w.heap.size w w') => IndexFunc_walk s w' (lay_below hL hb) hs
  unfold validText
  rw [← badAt_neg]
  generalize Lib.validD s.data.toList = V at cV ⊢
  generalize badAt s s.size 0 = Z at cI ⊢
  go_enter Tryz.func70, Tryz.ntmps70
  cases V with
  | true =>
    by_cases hz : Z < 0
    · rw [decide_eq_true hz]
      go_wp2_with (first
        | (go_at_call 105; refine cV.mono ?_; rintro e w' ⟨rfl, hb⟩)
        | (go_at_call 106; refine (cI _ hb).mono ?_; rintro e w2 ⟨rfl, hb2⟩))
      go_ret
      exact ⟨rfl, hb.trans (hb2.mono hb.size)⟩
    · rw [decide_eq_false hz]
      go_wp2_with (first
        | (go_at_call 105; refine cV.mono ?_; rintro e w' ⟨rfl, hb⟩)
        | (go_at_call 106; refine (cI _ hb).mono ?_; rintro e w2 ⟨rfl, hb2⟩))
      go_ret
      exact ⟨(by show Ending.returned (.bool (decide (Z < 0))) = _; rw [decide_eq_false (show ¬ Z < 0 by omega)]; rfl), hb.trans (hb2.mono hb.size)⟩
  | false =>
    go_wp2_with (first
      | (go_at_call 105; refine cV.mono ?_; rintro e w' ⟨rfl, hb⟩)
      | (go_at_call 106; refine (cI _ hb).mono ?_; rintro e w2 ⟨rfl, hb2⟩))
    go_ret
    exact ⟨rfl, hb⟩
def chars_Valid (s : ByteArray) : Option Bool := some (validText s)
def chars_Valid.P : List PM := [.d .str]
def chars_Valid.S : Sig := ⟨[.d .bool], []⟩
def chars_Valid.u (s : ByteArray) : Option Bool := chars_Valid s
theorem chars_Valid.fns : Fns Tryz.prog 70 Tryz.f70 chars_Valid.P := ⟨Tryz.func70, by kernel_rfl⟩
theorem chars_Valid.call : FnC Tryz.prog U Lay 70 chars_Valid.P chars_Valid.S chars_Valid.u := by
  have key : ∀ (s : ByteArray) (r : Bool), chars_Valid s = some r → CallOk Tryz.prog U Lay 70 [.d ⟨.str, s⟩] [] ⟨[.d ⟨.bool, r⟩], []⟩ := ?_
  · exact fun v r h => key _ r h
  intro s r hr E gh args hE hL
  have hh := hE.hand
  cases hh with
  | d h1 hh =>
  cases hh
  obtain ⟨rfl, hs⟩ := repV_str h1
  cases hr
  have hk := chars_Valid.fns.ok
  unfold Invokes
  rw [run_callFunc hk.hfn hk.hname hk.hbody]
  refine Calls.mono (Valid_walk s E.w (hLay _ _ _ _ (fun b hb => ⟨hE.Flt b hb, rfl⟩) hL) hs) ?_
  rintro e w' ⟨rfl, hb⟩
  exact ⟨gh, [.bool (validText s)], hE.frm.below hb, .d .nil, .cons (.d mkV_bool) .nil, rfl⟩
theorem bits_Add64.call : FnC Tryz.prog U Lay 205 bits_Add64.P bits_Add64.S bits_Add64.u := Go.Ev.bits_Add64.call Tryz.lays25
end Go.EvT
end
section
set_option maxRecDepth 100000
namespace Go.EvT
open Go.Proofs Go.Ev
def tarifflaw12_below5.S : Sig := ⟨[.d (.sl (.st 0))], []⟩
def tarifflaw12_below5.P : List PM := []
def tarifflaw12_num.S : Sig := ⟨[.d (.st 3)], []⟩
def tarifflaw12_num.P : List PM := [.d (.int .u64)]
def bits_Mul64.S : Sig := ⟨[.d (.int .u64), .d (.int .u64)], []⟩
def bits_Mul64.P : List PM := [.d (.int .u64), .d (.int .u64)]
def wide_Mul.S : Sig := ⟨[.d (.arr 4 (.int .u64))], []⟩
def wide_Mul.P : List PM := [.d (.st 2), .d (.st 2)]
def wide_Narrow.S : Sig := ⟨[.d (.st 2), .d (.int .i64)], []⟩
def wide_Narrow.P : List PM := [.d (.arr 4 (.int .u64))]
def wide_Ten.S : Sig := ⟨[.d (.st 2), .d (.int .i64)], []⟩
def wide_Ten.P : List PM := [.d (.int .i64)]
def dec_power.S : Sig := ⟨[.d (.st 2)], []⟩
def dec_power.P : List PM := [.d (.int .i64)]
def dec_bound.S : Sig := ⟨[.d (.st 2)], []⟩
def dec_bound.P : List PM := []
def wide_Cmp.S : Sig := ⟨[.d (.int .i64)], []⟩
def wide_Cmp.P : List PM := [.d (.st 2), .d (.st 2)]
def dec_zero.S : Sig := ⟨[.d .bool], []⟩
def dec_zero.P : List PM := [.d (.st 1)]
def bits_Len64.S : Sig := ⟨[.d (.int .i64)], []⟩
def bits_Len64.P : List PM := [.d (.int .u64)]
def bits_LeadingZeros64.S : Sig := ⟨[.d (.int .i64)], []⟩
def bits_LeadingZeros64.P : List PM := [.d (.int .u64)]
def bits_Div64.S : Sig := ⟨[.d (.int .u64), .d (.int .u64)], []⟩
def bits_Div64.P : List PM := [.d (.int .u64), .d (.int .u64), .d (.int .u64)]
def wide_tenth.S : Sig := ⟨[.d (.arr 4 (.int .u64)), .d (.int .u64)], []⟩
def wide_tenth.P : List PM := [.d (.arr 4 (.int .u64))]
def wide_Trim.S : Sig := ⟨[.d (.st 2), .d (.int .i64)], []⟩
def wide_Trim.P : List PM := [.d (.st 2)]
def dec_Form.S : Sig := ⟨[.d .bool], []⟩
def dec_Form.P : List PM := [.d (.st 1)]
def chars_Word.S : Sig := ⟨[.d .bool], []⟩
def chars_Word.P : List PM := [.d .str]
def chars_Name.S : Sig := ⟨[.d .bool], []⟩
def chars_Name.P : List PM := [.d .str]
def expr_plain.S : Sig := ⟨[.d (.st 0), .d .bool], []⟩
def expr_plain.P : List PM := [.d (.st 0)]
def expr_arity.S : Sig := ⟨[.d (.int .i64), .d (.int .i64)], []⟩
def expr_arity.P : List PM := [.d (.int .i64)]
def expr_fits.S : Sig := ⟨[.d .bool], []⟩
def expr_fits.P : List PM := [.d (.st 0)]
def expr_wanted.S : Sig := ⟨[.d (.int .i64)], []⟩
def expr_wanted.P : List PM := [.d (.int .i64), .d (.int .i64)]
def expr_unlike.S : Sig := ⟨[.d .bool], []⟩
def expr_unlike.P : List PM := [.d (.sl (.st 0)), .d (.sl (.st 5))]
def expr_sortOf.S : Sig := ⟨[.d (.int .i64)], []⟩
def expr_sortOf.P : List PM := [.d (.int .i64)]
def expr_Check.S : Sig := ⟨[.d (.int .i64)], []⟩
def expr_Check.P : List PM := [.d (.sl (.st 0)), .d .bool]
def value_count.S : Sig := ⟨[.d (.int .i64)], []⟩
def value_count.P : List PM := [.d (.st 3), .d (.int .i64)]
def value_bare.S : Sig := ⟨[.d .bool], []⟩
def value_bare.P : List PM := [.d (.st 3)]
def slices_Index.S : Sig := ⟨[.d (.int .i64)], []⟩
def slices_Index.P : List PM := [.d (.sl .str), .d .str]
def slices_Contains.S : Sig := ⟨[.d .bool], []⟩
def slices_Contains.P : List PM := [.d (.sl .str), .d .str]
def value_names.S : Sig := ⟨[.d .bool], []⟩
def value_names.P : List PM := [.d (.sl .str)]
def value_shape.S : Sig := ⟨[.d (.int .i64), .d .bool], []⟩
def value_shape.P : List PM := [.d (.st 3)]
def value_Check.S : Sig := ⟨[.d (.int .i64)], []⟩
def value_Check.P : List PM := [.d (.st 3)]
def dec_formed.S : Sig := ⟨[.d (.int .i64)], []⟩
def dec_formed.P : List PM := [.d (.sl (.st 1))]
def dec_turned.S : Sig := ⟨[.d (.st 1)], []⟩
def dec_turned.P : List PM := [.d (.st 1)]
def dec_Neg.S : Sig := ⟨[.d (.st 1), .d (.int .i64)], []⟩
def dec_Neg.P : List PM := [.d (.st 1)]
def unary_truth.S : Sig := ⟨[.d (.st 3)], []⟩
def unary_truth.P : List PM := [.d .bool]
def unary_machine_pop.S : Sig := ⟨[.d (.sl (.st 3))], [((.st 4), [[1], [2]])]⟩
def unary_machine_pop.P : List PM := [.box (.st 4), .d (.int .i64)]
def value_checks.S : Sig := ⟨[.d (.int .i64)], []⟩
def value_checks.P : List PM := [.d (.sl (.st 3))]
def value_truth.S : Sig := ⟨[.d (.st 3)], []⟩
def value_truth.P : List PM := [.d .bool]
def value_turned.S : Sig := ⟨[.d (.st 3)], []⟩
def value_turned.P : List PM := [.d (.st 3)]
def value_Not.S : Sig := ⟨[.d (.st 3), .d (.int .i64)], []⟩
def value_Not.P : List PM := [.d (.st 3)]
def unary_not.S : Sig := ⟨[.d (.st 3)], []⟩
def unary_not.P : List PM := [.d (.st 3)]
def value_is.S : Sig := ⟨[.d .bool], []⟩
def value_is.P : List PM := [.d (.st 3), .d .bool]
def value_both.S : Sig := ⟨[.d (.st 3)], []⟩
def value_both.P : List PM := [.d (.st 3), .d (.st 3)]
def value_Or.S : Sig := ⟨[.d (.st 3), .d (.int .i64)], []⟩
def value_Or.P : List PM := [.d (.st 3), .d (.st 3)]
def slices_Equal.S : Sig := ⟨[.d .bool], []⟩
def slices_Equal.P : List PM := [.d (.sl .str), .d (.sl .str)]
def slices_EqualFunc_value_alike.S : Sig := ⟨[.d .bool], []⟩
def slices_EqualFunc_value_alike.P : List PM := [.d (.sl (.st 3)), .d (.sl (.st 3)), .fn 163]
def value_alike.S : Sig := ⟨[.d .bool], []⟩
def value_alike.P : List PM := [.d (.st 3), .d (.st 3)]
def value_equal.S : Sig := ⟨[.d (.st 3)], []⟩
def value_equal.P : List PM := [.d (.st 3), .d (.st 3)]
def value_Equal.S : Sig := ⟨[.d (.st 3), .d (.int .i64)], []⟩
def value_Equal.P : List PM := [.d (.st 3), .d (.st 3)]
def dec_long.S : Sig := ⟨[.d (.arr 4 (.int .u64))], []⟩
def dec_long.P : List PM := [.d (.st 2)]
def dec_times.S : Sig := ⟨[.d (.arr 4 (.int .u64))], []⟩
def dec_times.P : List PM := [.d (.st 2), .d (.int .i64)]
def dec_both.S : Sig := ⟨[.d (.arr 4 (.int .u64)), .d (.arr 4 (.int .u64)), .d (.int .i64)], []⟩
def dec_both.P : List PM := [.d (.st 1), .d (.st 1)]
def dec_order.S : Sig := ⟨[.d (.int .i64)], []⟩
def dec_order.P : List PM := [.d (.arr 4 (.int .u64)), .d (.arr 4 (.int .u64))]
def dec_Cmp.S : Sig := ⟨[.d (.int .i64), .d (.int .i64)], []⟩
def dec_Cmp.P : List PM := [.d (.st 1), .d (.st 1)]
def value_Less.S : Sig := ⟨[.d (.st 3), .d (.int .i64)], []⟩
def value_Less.P : List PM := [.d (.st 3), .d (.st 3)]
def unary_less.S : Sig := ⟨[.d (.st 3)], []⟩
def unary_less.P : List PM := [.d (.st 3), .d (.st 3)]
def value_And.S : Sig := ⟨[.d (.st 3), .d (.int .i64)], []⟩
def value_And.P : List PM := [.d (.st 3), .d (.st 3)]
def unary_test.S : Sig := ⟨[.d (.st 3)], []⟩
def unary_test.P : List PM := [.d (.st 0), .d (.st 3), .d (.sl (.st 3))]
def unary_literal.S : Sig := ⟨[.d (.st 3), .d .bool], []⟩
def unary_literal.P : List PM := [.d (.st 0)]
def unary_machine_step.S : Sig := ⟨[.d .bool], [((.st 4), [[1], [2]])]⟩
def unary_machine_step.P : List PM := [.box (.st 4), .d (.st 0)]
def unary_machine_all.S : Sig := ⟨[.d .bool], [((.st 4), [[1], [2]])]⟩
def unary_machine_all.P : List PM := [.box (.st 4), .d (.sl (.st 0))]
def unary_Match.S : Sig := ⟨[.d (.st 3), .d (.int .i64)], []⟩
def unary_Match.P : List PM := [.d (.sl (.st 0)), .d (.st 3)]
def unary_gathered.S : Sig := ⟨[.new (.st 4) [[1], [2]], .d .bool, .d (.int .i64)], []⟩
def unary_gathered.S2 : Sig := ⟨[.nil, .d .bool, .d (.int .i64)], []⟩
def unary_gathered.P : List PM := [.d (.sl (.st 0))]
def unary_Ends.S : Sig := ⟨[.row (.sl (.st 3)), .d (.int .i64)], []⟩
def unary_Ends.P : List PM := [.d (.sl (.st 0))]
def tariffref07_Is.S : Sig := ⟨[.d .bool], []⟩
def tariffref07_Is.P : List PM := [.d (.st 3), .d .bool]
def tarifflaw12_below5 : Option ((List Node)) :=
 some ([(⟨(4 : Int), (0 : Int), ByteArray.empty, (⟨false, (⟨(0 : Int), (5 : Int)⟩ : Wide), (0 : Int)⟩ : Dec), (0 : Int)⟩ : Node), (⟨(31 : Int), (1 : Int), ByteArray.empty, (⟨false, (⟨(0 : Int), (0 : Int)⟩ : Wide), (0 : Int)⟩ : Dec), (0 : Int)⟩ : Node), (⟨(36 : Int), (1 : Int), ByteArray.empty, (⟨false, (⟨(0 : Int), (0 : Int)⟩ : Wide), (0 : Int)⟩ : Dec), (0 : Int)⟩ : Node)] : List Node)
def tarifflaw12_below5.u (v : Unit) : Option ((List Node)) := tarifflaw12_below5
def tarifflaw12_below5.G : Ctx U := ⟨tyOf, bytesOf, fun f xs => none, fun f xs => none, fun d => false⟩
def tarifflaw12_below5.H : Hint U := ⟨[], fun i => none, fun i => none, fun i => none⟩
theorem tarifflaw12_below5.ev (v : Unit) : evFn (tarifflaw12_below5.G) (tarifflaw12_below5.H) tarifflaw12_below5.S Tryz.f23 (encA tarifflaw12_below5.P v) = tarifflaw12_below5.u v := by kernel_rfl
theorem tarifflaw12_below5.fns : Fns Tryz.prog 23 Tryz.f23 tarifflaw12_below5.P := ⟨Tryz.func23, by kernel_rfl⟩
theorem tarifflaw12_below5.loops : LoopsOk (tarifflaw12_below5.G) (tarifflaw12_below5.H) (bodyOf Tryz.f23) 1 := loops_of (ps := []) (by kernel_rfl) trivial
theorem tarifflaw12_below5.call : FnC Tryz.prog U Lay 23 tarifflaw12_below5.P tarifflaw12_below5.S (tarifflaw12_below5.u) := fnC hLay ulaw gok (fun f xs => (CallC.none : CallC Tryz.prog U Lay _ f xs)) (fun f xs => (CallC2.none : CallC2 Tryz.prog U Lay _ f xs)) tarifflaw12_below5.fns (tarifflaw12_below5.loops) (tarifflaw12_below5.ev)
def tarifflaw12_num (a0 : Int) : Option (Val) :=
 some (⟨(2 : Int), false, (⟨false, (⟨(0 : Int), a0⟩ : Wide), (0 : Int)⟩ : Dec), ByteArray.empty, (0 : Int), ([] : List Val), ([] : List ByteArray)⟩ : Val)
def tarifflaw12_num.u (v : Int) : Option (Val) := tarifflaw12_num v
def tarifflaw12_num.G : Ctx U := ⟨tyOf, bytesOf, fun f xs => none, fun f xs => none, fun d => false⟩
def tarifflaw12_num.H : Hint U := ⟨[], fun i => none, fun i => none, fun i => none⟩
theorem tarifflaw12_num.ev (v : Int) : evFn (tarifflaw12_num.G) (tarifflaw12_num.H) tarifflaw12_num.S Tryz.f14 (encA tarifflaw12_num.P v) = tarifflaw12_num.u v := by kernel_rfl
theorem tarifflaw12_num.fns : Fns Tryz.prog 14 Tryz.f14 tarifflaw12_num.P := ⟨Tryz.func14, by kernel_rfl⟩
theorem tarifflaw12_num.loops : LoopsOk (tarifflaw12_num.G) (tarifflaw12_num.H) (bodyOf Tryz.f14) 1 := loops_of (ps := []) (by kernel_rfl) trivial
theorem tarifflaw12_num.call : FnC Tryz.prog U Lay 14 tarifflaw12_num.P tarifflaw12_num.S (tarifflaw12_num.u) := fnC hLay ulaw gok (fun f xs => (CallC.none : CallC Tryz.prog U Lay _ f xs)) (fun f xs => (CallC2.none : CallC2 Tryz.prog U Lay _ f xs)) tarifflaw12_num.fns (tarifflaw12_num.loops) (tarifflaw12_num.ev)
def bits_Mul64 (a0 : Int) (a1 : Int) : Option (Int × Int) :=
 if 0 ≤ (32 : Int) then
 if 0 ≤ (32 : Int) then
 if 0 ≤ (32 : Int) then
 if 0 ≤ (32 : Int) then
 if 0 ≤ (32 : Int) then
 some ((IntKind.wrap .u64 ((IntKind.wrap .u64 ((IntKind.wrap .u64 ((Int.fdiv a0 (2 ^ min ((32 : Int)).toNat (IntKind.bits .u64))) * (Int.fdiv a1 (2 ^ min ((32 : Int)).toNat (IntKind.bits .u64))))) + (Int.fdiv (IntKind.wrap .u64 ((IntKind.wrap .u64 ((Int.fdiv a0 (2 ^ min ((32 : Int)).toNat (IntKind.bits .u64))) * (IntKind.wrap .u64 ((BitVec.ofInt (IntKind.bits .u64) a1 &&& BitVec.ofInt (IntKind.bits .u64) (4294967295 : Int)).toNat : Int)))) + (Int.fdiv (IntKind.wrap .u64 ((IntKind.wrap .u64 ((BitVec.ofInt (IntKind.bits .u64) a0 &&& BitVec.ofInt (IntKind.bits .u64) (4294967295 : Int)).toNat : Int)) * (IntKind.wrap .u64 ((BitVec.ofInt (IntKind.bits .u64) a1 &&& BitVec.ofInt (IntKind.bits .u64) (4294967295 : Int)).toNat : Int)))) (2 ^ min ((32 : Int)).toNat (IntKind.bits .u64))))) (2 ^ min ((32 : Int)).toNat (IntKind.bits .u64))))) + (Int.fdiv (IntKind.wrap .u64 ((IntKind.wrap .u64 ((BitVec.ofInt (IntKind.bits .u64) (IntKind.wrap .u64 ((IntKind.wrap .u64 ((Int.fdiv a0 (2 ^ min ((32 : Int)).toNat (IntKind.bits .u64))) * (IntKind.wrap .u64 ((BitVec.ofInt (IntKind.bits .u64) a1 &&& BitVec.ofInt (IntKind.bits .u64) (4294967295 : Int)).toNat : Int)))) + (Int.fdiv (IntKind.wrap .u64 ((IntKind.wrap .u64 ((BitVec.ofInt (IntKind.bits .u64) a0 &&& BitVec.ofInt (IntKind.bits .u64) (4294967295 : Int)).toNat : Int)) * (IntKind.wrap .u64 ((BitVec.ofInt (IntKind.bits .u64) a1 &&& BitVec.ofInt (IntKind.bits .u64) (4294967295 : Int)).toNat : Int)))) (2 ^ min ((32 : Int)).toNat (IntKind.bits .u64))))) &&& BitVec.ofInt (IntKind.bits .u64) (4294967295 : Int)).toNat : Int)) + (IntKind.wrap .u64 ((IntKind.wrap .u64 ((BitVec.ofInt (IntKind.bits .u64) a0 &&& BitVec.ofInt (IntKind.bits .u64) (4294967295 : Int)).toNat : Int)) * (Int.fdiv a1 (2 ^ min ((32 : Int)).toNat (IntKind.bits .u64))))))) (2 ^ min ((32 : Int)).toNat (IntKind.bits .u64))))), (IntKind.wrap .u64 (a0 * a1)))
 else none
 else none
 else none
 else none
 else none
def bits_Mul64.u (v : Int × Int) : Option (Int × Int) := bits_Mul64 v.1 v.2
def bits_Mul64.G : Ctx U := ⟨tyOf, bytesOf, fun f xs => none, fun f xs => none, fun d => false⟩
def bits_Mul64.H : Hint U := ⟨[], fun i => none, fun i => none, fun i => none⟩
theorem bits_Mul64.ev (v : Int × Int) : evFn (bits_Mul64.G) (bits_Mul64.H) bits_Mul64.S Tryz.f204 (encA bits_Mul64.P v) = bits_Mul64.u v := by kernel_rfl
theorem bits_Mul64.fns : Fns Tryz.prog 204 Tryz.f204 bits_Mul64.P := ⟨Tryz.func204, by kernel_rfl⟩
theorem bits_Mul64.loops : LoopsOk (bits_Mul64.G) (bits_Mul64.H) (bodyOf Tryz.f204) 1 := loops_of (ps := []) (by kernel_rfl) trivial
theorem bits_Mul64.call : FnC Tryz.prog U Lay 204 bits_Mul64.P bits_Mul64.S (bits_Mul64.u) := fnC hLay ulaw gok (fun f xs => (CallC.none : CallC Tryz.prog U Lay _ f xs)) (fun f xs => (CallC2.none : CallC2 Tryz.prog U Lay _ f xs)) bits_Mul64.fns (bits_Mul64.loops) (bits_Mul64.ev)
def wide_Mul.l8 (k : Nat) (v8 : Int) (v24 : Int) (b4 : List Int) (b6 : List Int) (b7 : List Int) : Nat → Int → Int → (List Int) → Option (Int × Int × Int × (List Int) × (List Int) × (List Int) × (List Int))
 | 0, _, _, _ => none
 | n + 1, v9, v27, b5 =>
 if (decide (v27 < (2 : Int))) = true then
 if 0 ≤ v8 ∧ v8 < (2 : Int) then
 (idx b6 v8).bind fun e1 =>
 if 0 ≤ v27 ∧ v27 < (2 : Int) then
 (idx b7 v27).bind fun e2 =>
 (bits_Mul64 e1 e2).bind fun r3 =>
 if 0 ≤ (IntKind.wrap .i64 (v8 + v27)) ∧ (IntKind.wrap .i64 (v8 + v27)) < (4 : Int) then
 (idx b5 (IntKind.wrap .i64 (v8 + v27))).bind fun e4 =>
 (bits_Add64 r3.2 e4 (0 : Int)).bind fun r5 =>
 (bits_Add64 r5.1 v9 (0 : Int)).bind fun r6 =>
 if 0 ≤ (IntKind.wrap .i64 (v8 + v27)) ∧ (IntKind.wrap .i64 (v8 + v27)) < (4 : Int) then
 (idx b5 (IntKind.wrap .i64 (v8 + v27))).bind fun e7 =>
 wide_Mul.l8 k v8 v24 b4 b6 b7 n (IntKind.wrap .u64 ((IntKind.wrap .u64 (r3.1 + r5.2)) + r6.2)) (IntKind.wrap .i64 (v27 + (1 : Int))) (b5.set ((IntKind.wrap .i64 (v8 + v27))).toNat r6.1)
 else none
 else none
 else none
 else none
 else
 some (v8, v9, v24, b4, b5, b6, b7)
def wide_Mul.l4 (k : Nat) : Nat → Int → (List Int) → (List Int) → (List Int) → (List Int) → Option ((List Int) × (List Int))
 | 0, _, _, _, _, _ => none
 | n + 1, v24, b4, b5, b6, b7 =>
 if (decide (v24 < (2 : Int))) = true then
 (wide_Mul.l8 k v24 v24 b4 b6 b7 k (0 : Int) (0 : Int) b5).bind fun x8 =>
 if 0 ≤ (IntKind.wrap .i64 (x8.1 + (2 : Int))) ∧ (IntKind.wrap .i64 (x8.1 + (2 : Int))) < (4 : Int) then
 (idx x8.2.2.2.2.1 (IntKind.wrap .i64 (x8.1 + (2 : Int)))).bind fun e9 =>
 wide_Mul.l4 k n (IntKind.wrap .i64 (x8.2.2.1 + (1 : Int))) x8.2.2.2.1 (x8.2.2.2.2.1.set ((IntKind.wrap .i64 (x8.1 + (2 : Int)))).toNat x8.2.1) x8.2.2.2.2.2.1 x8.2.2.2.2.2.2
 else none
 else
 some (b4, b5)
def wide_Mul (k : Nat) (a0 : Wide) (a1 : Wide) : Option ((List Int)) :=
 (wide_Mul.l4 k k (0 : Int) (List.replicate 4 (0 : Int)) (List.replicate 4 (0 : Int)) [a0.lo, a0.hi] [a1.lo, a1.hi]).bind fun x10 =>
 some x10.2
def wide_Mul.u (k : Nat) (v : Wide × Wide) : Option ((List Int)) := wide_Mul k v.1 v.2
def wide_Mul.G (k : Nat) : Ctx U := ⟨tyOf, bytesOf, fun f xs => if f == 204 then entry bits_Mul64.P bits_Mul64.S (bits_Mul64.u) xs else if f == 205 then entry bits_Add64.P bits_Add64.S (bits_Add64.u) xs else none, fun f xs => none, fun d => false⟩
def wide_Mul.l8.L (k : Nat) : ELoop U := ⟨[.ptr 4 4 [] (.arr 4 (.int .u64)), .ptr 5 5 [] (.arr 4 (.int .u64)), .ptr 6 6 [] (.arr 2 (.int .u64)), .ptr 7 7 [] (.arr 2 (.int .u64)), .slot 8 (.int .i64), .slot 9 (.int .u64), .slot 24 (.int .i64), .slot 27 (.int .i64), .box 4 (.arr 4 (.int .u64)) [], .box 5 (.arr 4 (.int .u64)) [], .box 6 (.arr 2 (.int .u64)) [], .box 7 (.arr 2 (.int .u64)) []], 2, [.ptr 4 4 [] (.arr 4 (.int .u64)), .ptr 5 5 [] (.arr 4 (.int .u64)), .ptr 6 6 [] (.arr 2 (.int .u64)), .ptr 7 7 [] (.arr 2 (.int .u64)), .slot 8 (.int .i64), .slot 9 (.int .u64), .slot 24 (.int .i64), .box 4 (.arr 4 (.int .u64)) [], .box 5 (.arr 4 (.int .u64)) [], .box 6 (.arr 2 (.int .u64)) [], .box 7 (.arr 2 (.int .u64)) []], fun (v : Int × Int × Int × Int × (List Int) × (List Int) × (List Int) × (List Int)) => wide_Mul.l8 k v.1 v.2.2.1 v.2.2.2.2.1 v.2.2.2.2.2.2.1 v.2.2.2.2.2.2.2 k v.2.1 v.2.2.2.1 v.2.2.2.2.2.1⟩
def wide_Mul.l4.L (k : Nat) : ELoop U := ⟨[.ptr 4 4 [] (.arr 4 (.int .u64)), .ptr 5 5 [] (.arr 4 (.int .u64)), .ptr 6 6 [] (.arr 2 (.int .u64)), .ptr 7 7 [] (.arr 2 (.int .u64)), .slot 24 (.int .i64), .box 4 (.arr 4 (.int .u64)) [], .box 5 (.arr 4 (.int .u64)) [], .box 6 (.arr 2 (.int .u64)) [], .box 7 (.arr 2 (.int .u64)) []], 0, [.ptr 4 4 [] (.arr 4 (.int .u64)), .ptr 5 5 [] (.arr 4 (.int .u64)), .box 4 (.arr 4 (.int .u64)) [], .box 5 (.arr 4 (.int .u64)) []], fun (v : Int × (List Int) × (List Int) × (List Int) × (List Int)) => wide_Mul.l4 k k v.1 v.2.1 v.2.2.1 v.2.2.2.1 v.2.2.2.2⟩
def wide_Mul.H (k : Nat) : Hint U := ⟨[], fun i => if i == 122 then some (wide_Mul.l4.L k) else if i == 125338 then some (wide_Mul.l8.L k) else none, fun i => none, fun i => none⟩
theorem wide_Mul.l8.ok (k n : Nat) (v : Vars U (wide_Mul.l8.L k).ks) : loopT (wide_Mul.G k) (wide_Mul.H k) (pick [true, true, true, false, true, false, false, true, true, false, false, true, true, false, true, false, false] (bodyOf Tryz.f183)) 125338 (wide_Mul.l8.L k) n v = (fun (v : Int × Int × Int × Int × (List Int) × (List Int) × (List Int) × (List Int)) => wide_Mul.l8 k v.1 v.2.2.1 v.2.2.2.2.1 v.2.2.2.2.2.2.1 v.2.2.2.2.2.2.2 n v.2.1 v.2.2.2.1 v.2.2.2.2.2.1) v :=
  loopT_eq (wide_Mul.G k) (wide_Mul.H k) _ _ (wide_Mul.l8.L k) (fun n (v : Int × Int × Int × Int × (List Int) × (List Int) × (List Int) × (List Int)) => wide_Mul.l8 k v.1 v.2.2.1 v.2.2.2.2.1 v.2.2.2.2.2.2.1 v.2.2.2.2.2.2.2 n v.2.1 v.2.2.2.1 v.2.2.2.2.2.1) (fun _ => rfl) (fun n v => by kernel_rfl) n v
theorem wide_Mul.l4.ok (k n : Nat) (v : Vars U (wide_Mul.l4.L k).ks) : loopT (wide_Mul.G k) (wide_Mul.H k) (pick [true, true, true, false, true, false, false] (bodyOf Tryz.f183)) 122 (wide_Mul.l4.L k) n v = (fun (v : Int × (List Int) × (List Int) × (List Int) × (List Int)) => wide_Mul.l4 k n v.1 v.2.1 v.2.2.1 v.2.2.2.1 v.2.2.2.2) v :=
  loopT_eq (wide_Mul.G k) (wide_Mul.H k) _ _ (wide_Mul.l4.L k) (fun n (v : Int × (List Int) × (List Int) × (List Int) × (List Int)) => wide_Mul.l4 k n v.1 v.2.1 v.2.2.1 v.2.2.2.1 v.2.2.2.2) (fun _ => rfl) (fun n v => by kernel_rfl) n v
theorem wide_Mul.ev (k : Nat) (v : Wide × Wide) : evFn (wide_Mul.G k) (wide_Mul.H k) wide_Mul.S Tryz.f183 (encA wide_Mul.P v) = wide_Mul.u k v := by kernel_rfl
theorem wide_Mul.fns : Fns Tryz.prog 183 Tryz.f183 wide_Mul.P := ⟨Tryz.func183, by kernel_rfl⟩
theorem wide_Mul.loops (k : Nat) : LoopsOk (wide_Mul.G k) (wide_Mul.H k) (bodyOf Tryz.f183) 1 := loops_of (ps := [(122, pick [true, true, true, false, true, false, false] (bodyOf Tryz.f183)), (125338, pick [true, true, true, false, true, false, false, true, true, false, false, true, true, false, true, false, false] (bodyOf Tryz.f183))]) (by kernel_rfl) ⟨loopT_ok rfl fun v x hx => ⟨k, (wide_Mul.l4.ok k k v).trans hx⟩, ⟨loopT_ok rfl fun v x hx => ⟨k, (wide_Mul.l8.ok k k v).trans hx⟩, trivial⟩⟩
theorem wide_Mul.call (k : Nat) : FnC Tryz.prog U Lay 183 wide_Mul.P wide_Mul.S (wide_Mul.u k) := fnC hLay ulaw gok (fun f xs => (.ite (.entry (bits_Mul64.call)) (.ite (.entry (bits_Add64.call)) (CallC.none)) : CallC Tryz.prog U Lay _ f xs)) (fun f xs => (CallC2.none : CallC2 Tryz.prog U Lay _ f xs)) wide_Mul.fns (wide_Mul.loops k) (wide_Mul.ev k)
def wide_Narrow (a0 : List Int) : Option (Wide × Int) :=
 if 0 ≤ (2 : Int) ∧ (2 : Int) < (4 : Int) then
 (idx a0 (2 : Int)).bind fun e1 =>
 ((if (e1 != (0 : Int)) = false then
 if 0 ≤ (3 : Int) ∧ (3 : Int) < (4 : Int) then
 (idx a0 (3 : Int)).bind fun e2 =>
 some (e2 != (0 : Int))
 else none
 else some true) : Option Bool).bind fun b3 =>
 if b3 = true then
 some ((⟨(0 : Int), (0 : Int)⟩ : Wide), (3 : Int))
 else
 if 0 ≤ (1 : Int) ∧ (1 : Int) < (4 : Int) then
 (idx a0 (1 : Int)).bind fun e4 =>
 if 0 ≤ (0 : Int) ∧ (0 : Int) < (4 : Int) then
 (idx a0 (0 : Int)).bind fun e5 =>
 some ((⟨e4, e5⟩ : Wide), (0 : Int))
 else none
 else none
 else none
def wide_Narrow.u (v : (List Int)) : Option (Wide × Int) := wide_Narrow v
def wide_Narrow.G : Ctx U := ⟨tyOf, bytesOf, fun f xs => none, fun f xs => none, fun d => false⟩
def wide_Narrow.H : Hint U := ⟨[], fun i => none, fun i => none, fun i => none⟩
theorem wide_Narrow.ev (v : (List Int)) : evFn (wide_Narrow.G) (wide_Narrow.H) wide_Narrow.S Tryz.f182 (encA wide_Narrow.P v) = wide_Narrow.u v := by kernel_rfl
theorem wide_Narrow.fns : Fns Tryz.prog 182 Tryz.f182 wide_Narrow.P := ⟨Tryz.func182, by kernel_rfl⟩
theorem wide_Narrow.loops : LoopsOk (wide_Narrow.G) (wide_Narrow.H) (bodyOf Tryz.f182) 1 := loops_of (ps := []) (by kernel_rfl) trivial
theorem wide_Narrow.call : FnC Tryz.prog U Lay 182 wide_Narrow.P wide_Narrow.S (wide_Narrow.u) := fnC hLay ulaw gok (fun f xs => (CallC.none : CallC Tryz.prog U Lay _ f xs)) (fun f xs => (CallC2.none : CallC2 Tryz.prog U Lay _ f xs)) wide_Narrow.fns (wide_Narrow.loops) (wide_Narrow.ev)
def wide_Ten.l5 (k : Nat) (v13 : Int) (b2 : Wide) : Nat → Int → Wide → Option (Wide × Wide)
 | 0, _, _ => none
 | n + 1, v14, b4 =>
 if (decide (v14 < v13)) = true then
 (wide_Mul k b4 (⟨(0 : Int), (10 : Int)⟩ : Wide)).bind fun r2 =>
 (wide_Narrow r2).bind fun r3 =>
 wide_Ten.l5 k v13 b2 n (IntKind.wrap .i64 (v14 + (1 : Int))) r3.1
 else
 some (b2, b4)
def wide_Ten (k : Nat) (a0 : Int) : Option (Wide × Int) :=
 ((if (decide (a0 < (0 : Int))) = false then
 some (decide (a0 > (38 : Int)))
 else some true) : Option Bool).bind fun b1 =>
 if b1 = true then
 some ((⟨(0 : Int), (0 : Int)⟩ : Wide), (1 : Int))
 else
 (wide_Ten.l5 k a0 (⟨(0 : Int), (0 : Int)⟩ : Wide) k (0 : Int) (⟨(0 : Int), (1 : Int)⟩ : Wide)).bind fun x4 =>
 some (x4.2, (0 : Int))
def wide_Ten.u (k : Nat) (v : Int) : Option (Wide × Int) := wide_Ten k v
def wide_Ten.G (k : Nat) : Ctx U := ⟨tyOf, bytesOf, fun f xs => if f == 183 then entry wide_Mul.P wide_Mul.S (wide_Mul.u k) xs else if f == 182 then entry wide_Narrow.P wide_Narrow.S (wide_Narrow.u) xs else none, fun f xs => none, fun d => false⟩
def wide_Ten.l5.L (k : Nat) : ELoop U := ⟨[.ptr 2 2 [] (.st 2), .ptr 4 4 [] (.st 2), .slot 13 (.int .i64), .slot 14 (.int .i64), .box 2 (.st 2) [], .box 4 (.st 2) []], 0, [.ptr 2 2 [] (.st 2), .ptr 4 4 [] (.st 2), .box 2 (.st 2) [], .box 4 (.st 2) []], fun (v : Int × Int × Wide × Wide) => wide_Ten.l5 k v.1 v.2.2.1 k v.2.1 v.2.2.2⟩
def wide_Ten.H (k : Nat) : Hint U := ⟨[], fun i => if i == 122 then some (wide_Ten.l5.L k) else none, fun i => none, fun i => none⟩
theorem wide_Ten.l5.ok (k n : Nat) (v : Vars U (wide_Ten.l5.L k).ks) : loopT (wide_Ten.G k) (wide_Ten.H k) (pick [true, true, true, false, true, false, false] (bodyOf Tryz.f161)) 122 (wide_Ten.l5.L k) n v = (fun (v : Int × Int × Wide × Wide) => wide_Ten.l5 k v.1 v.2.2.1 n v.2.1 v.2.2.2) v :=
  loopT_eq (wide_Ten.G k) (wide_Ten.H k) _ _ (wide_Ten.l5.L k) (fun n (v : Int × Int × Wide × Wide) => wide_Ten.l5 k v.1 v.2.2.1 n v.2.1 v.2.2.2) (fun _ => rfl) (fun n v => by kernel_rfl) n v
theorem wide_Ten.ev (k : Nat) (v : Int) : evFn (wide_Ten.G k) (wide_Ten.H k) wide_Ten.S Tryz.f161 (encA wide_Ten.P v) = wide_Ten.u k v := by kernel_rfl
theorem wide_Ten.fns : Fns Tryz.prog 161 Tryz.f161 wide_Ten.P := ⟨Tryz.func161, by kernel_rfl⟩
theorem wide_Ten.loops (k : Nat) : LoopsOk (wide_Ten.G k) (wide_Ten.H k) (bodyOf Tryz.f161) 1 := loops_of (ps := [(122, pick [true, true, true, false, true, false, false] (bodyOf Tryz.f161))]) (by kernel_rfl) ⟨loopT_ok rfl fun v x hx => ⟨k, (wide_Ten.l5.ok k k v).trans hx⟩, trivial⟩
theorem wide_Ten.call (k : Nat) : FnC Tryz.prog U Lay 161 wide_Ten.P wide_Ten.S (wide_Ten.u k) := fnC hLay ulaw gok (fun f xs => (.ite (.entry (wide_Mul.call k)) (.ite (.entry (wide_Narrow.call)) (CallC.none)) : CallC Tryz.prog U Lay _ f xs)) (fun f xs => (CallC2.none : CallC2 Tryz.prog U Lay _ f xs)) wide_Ten.fns (wide_Ten.loops k) (wide_Ten.ev k)
def dec_power (k : Nat) (a0 : Int) : Option (Wide) :=
 (wide_Ten k a0).bind fun r1 =>
 some r1.1
def dec_power.u (k : Nat) (v : Int) : Option (Wide) := dec_power k v
def dec_power.G (k : Nat) : Ctx U := ⟨tyOf, bytesOf, fun f xs => if f == 161 then entry wide_Ten.P wide_Ten.S (wide_Ten.u k) xs else none, fun f xs => none, fun d => false⟩
def dec_power.H (k : Nat) : Hint U := ⟨[], fun i => none, fun i => none, fun i => none⟩
theorem dec_power.ev (k : Nat) (v : Int) : evFn (dec_power.G k) (dec_power.H k) dec_power.S Tryz.f137 (encA dec_power.P v) = dec_power.u k v := by kernel_rfl
theorem dec_power.fns : Fns Tryz.prog 137 Tryz.f137 dec_power.P := ⟨Tryz.func137, by kernel_rfl⟩
theorem dec_power.loops (k : Nat) : LoopsOk (dec_power.G k) (dec_power.H k) (bodyOf Tryz.f137) 1 := loops_of (ps := []) (by kernel_rfl) trivial
theorem dec_power.call (k : Nat) : FnC Tryz.prog U Lay 137 dec_power.P dec_power.S (dec_power.u k) := fnC hLay ulaw gok (fun f xs => (.ite (.entry (wide_Ten.call k)) (CallC.none) : CallC Tryz.prog U Lay _ f xs)) (fun f xs => (CallC2.none : CallC2 Tryz.prog U Lay _ f xs)) dec_power.fns (dec_power.loops k) (dec_power.ev k)
def dec_bound (k : Nat) : Option (Wide) :=
 (dec_power k (34 : Int)).bind fun r1 =>
 some r1
def dec_bound.u (k : Nat) (v : Unit) : Option (Wide) := dec_bound k
def dec_bound.G (k : Nat) : Ctx U := ⟨tyOf, bytesOf, fun f xs => if f == 137 then entry dec_power.P dec_power.S (dec_power.u k) xs else none, fun f xs => none, fun d => false⟩
def dec_bound.H (k : Nat) : Hint U := ⟨[], fun i => none, fun i => none, fun i => none⟩
theorem dec_bound.ev (k : Nat) (v : Unit) : evFn (dec_bound.G k) (dec_bound.H k) dec_bound.S Tryz.f102 (encA dec_bound.P v) = dec_bound.u k v := by kernel_rfl
theorem dec_bound.fns : Fns Tryz.prog 102 Tryz.f102 dec_bound.P := ⟨Tryz.func102, by kernel_rfl⟩
theorem dec_bound.loops (k : Nat) : LoopsOk (dec_bound.G k) (dec_bound.H k) (bodyOf Tryz.f102) 1 := loops_of (ps := []) (by kernel_rfl) trivial
theorem dec_bound.call (k : Nat) : FnC Tryz.prog U Lay 102 dec_bound.P dec_bound.S (dec_bound.u k) := fnC hLay ulaw gok (fun f xs => (.ite (.entry (dec_power.call k)) (CallC.none) : CallC Tryz.prog U Lay _ f xs)) (fun f xs => (CallC2.none : CallC2 Tryz.prog U Lay _ f xs)) dec_bound.fns (dec_bound.loops k) (dec_bound.ev k)
def wide_Cmp (a0 : Wide) (a1 : Wide) : Option (Int) :=
 if ((a0.hi == a1.hi) && ((a0.lo == a1.lo) && true)) = true then
 some (0 : Int)
 else
 ((if (decide (a0.hi < a1.hi)) = false then
 ((if (a0.hi == a1.hi) = true then
 some (decide (a0.lo < a1.lo))
 else some false) : Option Bool).bind fun b1 =>
 some b1
 else some true) : Option Bool).bind fun b2 =>
 if b2 = true then
 some (-1 : Int)
 else
 some (1 : Int)
def wide_Cmp.u (v : Wide × Wide) : Option (Int) := wide_Cmp v.1 v.2
def wide_Cmp.G : Ctx U := ⟨tyOf, bytesOf, fun f xs => none, fun f xs => none, fun d => false⟩
def wide_Cmp.H : Hint U := ⟨[], fun i => none, fun i => none, fun i => none⟩
theorem wide_Cmp.ev (v : Wide × Wide) : evFn (wide_Cmp.G) (wide_Cmp.H) wide_Cmp.S Tryz.f101 (encA wide_Cmp.P v) = wide_Cmp.u v := by kernel_rfl
theorem wide_Cmp.fns : Fns Tryz.prog 101 Tryz.f101 wide_Cmp.P := ⟨Tryz.func101, by kernel_rfl⟩
theorem wide_Cmp.loops : LoopsOk (wide_Cmp.G) (wide_Cmp.H) (bodyOf Tryz.f101) 1 := loops_of (ps := []) (by kernel_rfl) trivial
theorem wide_Cmp.call : FnC Tryz.prog U Lay 101 wide_Cmp.P wide_Cmp.S (wide_Cmp.u) := fnC hLay ulaw gok (fun f xs => (CallC.none : CallC Tryz.prog U Lay _ f xs)) (fun f xs => (CallC2.none : CallC2 Tryz.prog U Lay _ f xs)) wide_Cmp.fns (wide_Cmp.loops) (wide_Cmp.ev)
def dec_zero (a0 : Dec) : Option (Bool) :=
 some ((a0.coef.hi == (0 : Int)) && ((a0.coef.lo == (0 : Int)) && true))
def dec_zero.u (v : Dec) : Option (Bool) := dec_zero v
def dec_zero.G : Ctx U := ⟨tyOf, bytesOf, fun f xs => none, fun f xs => none, fun d => false⟩
def dec_zero.H : Hint U := ⟨[], fun i => none, fun i => none, fun i => none⟩
theorem dec_zero.ev (v : Dec) : evFn (dec_zero.G) (dec_zero.H) dec_zero.S Tryz.f103 (encA dec_zero.P v) = dec_zero.u v := by kernel_rfl
theorem dec_zero.fns : Fns Tryz.prog 103 Tryz.f103 dec_zero.P := ⟨Tryz.func103, by kernel_rfl⟩
theorem dec_zero.loops : LoopsOk (dec_zero.G) (dec_zero.H) (bodyOf Tryz.f103) 1 := loops_of (ps := []) (by kernel_rfl) trivial
theorem dec_zero.call : FnC Tryz.prog U Lay 103 dec_zero.P dec_zero.S (dec_zero.u) := fnC hLay ulaw gok (fun f xs => (CallC.none : CallC Tryz.prog U Lay _ f xs)) (fun f xs => (CallC2.none : CallC2 Tryz.prog U Lay _ f xs)) dec_zero.fns (dec_zero.loops) (dec_zero.ev)
def bits_Len64 (a0 : Int) : Option (Int) :=
 ((if (decide (a0 ≥ (4294967296 : Int))) = true then
 if 0 ≤ (32 : Int) then
 some ((Int.fdiv a0 (2 ^ min ((32 : Int)).toNat (IntKind.bits .u64))), (32 : Int))
 else none
 else
 some (a0, (0 : Int))) : Option (Int × Int)).bind fun j1 =>
 ((if (decide (j1.1 ≥ (65536 : Int))) = true then
 if 0 ≤ (16 : Int) then
 some ((Int.fdiv j1.1 (2 ^ min ((16 : Int)).toNat (IntKind.bits .u64))), (IntKind.wrap .i64 (j1.2 + (16 : Int))))
 else none
 else
 some (j1.1, j1.2)) : Option (Int × Int)).bind fun j2 =>
 ((if (decide (j2.1 ≥ (256 : Int))) = true then
 if 0 ≤ (8 : Int) then
 some ((Int.fdiv j2.1 (2 ^ min ((8 : Int)).toNat (IntKind.bits .u64))), (IntKind.wrap .i64 (j2.2 + (8 : Int))))
 else none
 else
 some (j2.1, j2.2)) : Option (Int × Int)).bind fun j3 =>
 (idx (ByteArray.mk #[0, 1, 2, 2, 3, 3, 3, 3, 4, 4, 4, 4, 4, 4, 4, 4, 5, 5, 5, 5, 5, 5, 5, 5, 5, 5, 5, 5, 5, 5, 5, 5, 6, 6, 6, 6, 6, 6, 6, 6, 6, 6, 6, 6, 6, 6, 6, 6, 6, 6, 6, 6, 6, 6, 6, 6, 6, 6, 6, 6, 6, 6, 6, 6, 7, 7, 7, 7, 7, 7, 7, 7, 7, 7, 7, 7, 7, 7, 7, 7, 7, 7, 7, 7, 7, 7, 7, 7, 7, 7, 7, 7, 7, 7, 7, 7, 7, 7, 7, 7, 7, 7, 7, 7, 7, 7, 7, 7, 7, 7, 7, 7, 7, 7, 7, 7, 7, 7, 7, 7, 7, 7, 7, 7, 7, 7, 7, 7, 8, 8, 8, 8, 8, 8, 8, 8, 8, 8, 8, 8, 8, 8, 8, 8, 8, 8, 8, 8, 8, 8, 8, 8, 8, 8, 8, 8, 8, 8, 8, 8, 8, 8, 8, 8, 8, 8, 8, 8, 8, 8, 8, 8, 8, 8, 8, 8, 8, 8, 8, 8, 8, 8, 8, 8, 8, 8, 8, 8, 8, 8, 8, 8, 8, 8, 8, 8, 8, 8, 8, 8, 8, 8, 8, 8, 8, 8, 8, 8, 8, 8, 8, 8, 8, 8, 8, 8, 8, 8, 8, 8, 8, 8, 8, 8, 8, 8, 8, 8, 8, 8, 8, 8, 8, 8, 8, 8, 8, 8, 8, 8, 8, 8, 8, 8, 8, 8, 8, 8, 8, 8, 8, 8, 8, 8, 8, 8]).data.toList (IntKind.wrap .u8 j3.1)).bind fun e4 =>
 some (IntKind.wrap .i64 (j3.2 + (IntKind.wrap .i64 (e4.toNat : Int))))
def bits_Len64.u (v : Int) : Option (Int) := bits_Len64 v
def bits_Len64.G : Ctx U := ⟨tyOf, bytesOf, fun f xs => none, fun f xs => none, fun d => false⟩
def bits_Len64.H : Hint U := ⟨[], fun i => none, fun i => none, fun i => if i == 61 then some ⟨[.slot 0 (.int .u64), .slot 2 (.int .i64)], none⟩ else if i == 29 then some ⟨[.slot 0 (.int .u64), .slot 2 (.int .i64)], none⟩ else if i == 13 then some ⟨[.slot 0 (.int .u64), .slot 2 (.int .i64)], none⟩ else none⟩
theorem bits_Len64.ev (v : Int) : evFn (bits_Len64.G) (bits_Len64.H) bits_Len64.S Tryz.f206 (encA bits_Len64.P v) = bits_Len64.u v := by kernel_rfl
theorem bits_Len64.fns : Fns Tryz.prog 206 Tryz.f206 bits_Len64.P := ⟨Tryz.func206, by kernel_rfl⟩
theorem bits_Len64.loops : LoopsOk (bits_Len64.G) (bits_Len64.H) (bodyOf Tryz.f206) 1 := loops_of (ps := []) (by kernel_rfl) trivial
theorem bits_Len64.call : FnC Tryz.prog U Lay 206 bits_Len64.P bits_Len64.S (bits_Len64.u) := fnC hLay ulaw gok (fun f xs => (CallC.none : CallC Tryz.prog U Lay _ f xs)) (fun f xs => (CallC2.none : CallC2 Tryz.prog U Lay _ f xs)) bits_Len64.fns (bits_Len64.loops) (bits_Len64.ev)
def bits_LeadingZeros64 (a0 : Int) : Option (Int) :=
 (bits_Len64 a0).bind fun r1 =>
 some (IntKind.wrap .i64 ((64 : Int) - r1))
def bits_LeadingZeros64.u (v : Int) : Option (Int) := bits_LeadingZeros64 v
def bits_LeadingZeros64.G : Ctx U := ⟨tyOf, bytesOf, fun f xs => if f == 206 then entry bits_Len64.P bits_Len64.S (bits_Len64.u) xs else none, fun f xs => none, fun d => false⟩
def bits_LeadingZeros64.H : Hint U := ⟨[], fun i => none, fun i => none, fun i => none⟩
theorem bits_LeadingZeros64.ev (v : Int) : evFn (bits_LeadingZeros64.G) (bits_LeadingZeros64.H) bits_LeadingZeros64.S Tryz.f184 (encA bits_LeadingZeros64.P v) = bits_LeadingZeros64.u v := by kernel_rfl
theorem bits_LeadingZeros64.fns : Fns Tryz.prog 184 Tryz.f184 bits_LeadingZeros64.P := ⟨Tryz.func184, by kernel_rfl⟩
theorem bits_LeadingZeros64.loops : LoopsOk (bits_LeadingZeros64.G) (bits_LeadingZeros64.H) (bodyOf Tryz.f184) 1 := loops_of (ps := []) (by kernel_rfl) trivial
theorem bits_LeadingZeros64.call : FnC Tryz.prog U Lay 184 bits_LeadingZeros64.P bits_LeadingZeros64.S (bits_LeadingZeros64.u) := fnC hLay ulaw gok (fun f xs => (.ite (.entry (bits_Len64.call)) (CallC.none) : CallC Tryz.prog U Lay _ f xs)) (fun f xs => (CallC2.none : CallC2 Tryz.prog U Lay _ f xs)) bits_LeadingZeros64.fns (bits_LeadingZeros64.loops) (bits_LeadingZeros64.ev)
def bits_Div64.l17 (k : Nat) (v2 : Int) (v8 : Int) (v9 : Int) (v10 : Int) (v11 : Int) (v13 : Int) (v14 : Int) : Nat → Int → Int → Option (Int × Int × Int × Int × Int × Int × Int × Int)
 | 0, _, _ => none
 | n + 1, v15, v16 =>
 ((if (decide (v15 ≥ (4294967296 : Int))) = false then
 some (decide ((IntKind.wrap .u64 (v15 * v10)) > (IntKind.wrap .u64 ((IntKind.wrap .u64 ((4294967296 : Int) * v16)) + v13))))
 else some true) : Option Bool).bind fun b4 =>
 if b4 = true then
 if (decide ((IntKind.wrap .u64 (v16 + v9)) ≥ (4294967296 : Int))) = true then
 some (v2, v8, v9, v10, v11, v13, v14, (IntKind.wrap .u64 (v15 - (1 : Int))))
 else
 bits_Div64.l17 k v2 v8 v9 v10 v11 v13 v14 n (IntKind.wrap .u64 (v15 - (1 : Int))) (IntKind.wrap .u64 (v16 + v9))
 else
 some (v2, v8, v9, v10, v11, v13, v14, v15)
def bits_Div64.l24 (k : Nat) (v2 : Int) (v8 : Int) (v9 : Int) (v10 : Int) (v14 : Int) (v15 : Int) (v17 : Int) : Nat → Int → Int → Option (Int × Int × Int × Int × Int × Int)
 | 0, _, _ => none
 | n + 1, v16, v18 =>
 ((if (decide (v18 ≥ (4294967296 : Int))) = false then
 some (decide ((IntKind.wrap .u64 (v18 * v10)) > (IntKind.wrap .u64 ((IntKind.wrap .u64 ((4294967296 : Int) * v16)) + v14))))
 else some true) : Option Bool).bind fun b6 =>
 if b6 = true then
 if (decide ((IntKind.wrap .u64 (v16 + v9)) ≥ (4294967296 : Int))) = true then
 some (v2, v8, v14, v15, v17, (IntKind.wrap .u64 (v18 - (1 : Int))))
 else
 bits_Div64.l24 k v2 v8 v9 v10 v14 v15 v17 n (IntKind.wrap .u64 (v16 + v9)) (IntKind.wrap .u64 (v18 - (1 : Int)))
 else
 some (v2, v8, v14, v15, v17, v18)
def bits_Div64 (k : Nat) (a0 : Int) (a1 : Int) (a2 : Int) : Option (Int × Int) :=
 ((if (a2 == (0 : Int)) = true then
 none
 else
 some (a0, a1, a2)) : Option (Int × Int × Int)).bind fun j1 =>
 ((if (decide (j1.2.2 ≤ j1.1)) = true then
 none
 else
 some (j1.1, j1.2.1, j1.2.2)) : Option (Int × Int × Int)).bind fun j2 =>
 if (j2.1 == (0 : Int)) = true then
 if ¬ j2.2.2 = 0 then
 if ¬ j2.2.2 = 0 then
 some ((IntKind.wrap .u64 (Int.tdiv j2.2.1 j2.2.2)), (Int.tmod j2.2.1 j2.2.2))
 else none
 else none
 else
 (bits_LeadingZeros64 j2.2.2).bind fun r3 =>
 if 0 ≤ (IntKind.wrap .u64 r3) then
 if 0 ≤ (32 : Int) then
 if 0 ≤ (IntKind.wrap .u64 r3) then
 if 0 ≤ (IntKind.wrap .u64 ((64 : Int) - (IntKind.wrap .u64 r3))) then
 if 0 ≤ (IntKind.wrap .u64 r3) then
 if 0 ≤ (32 : Int) then
 if ¬ (Int.fdiv (IntKind.wrap .u64 (j2.2.2 * 2 ^ min ((IntKind.wrap .u64 r3)).toNat (IntKind.bits .u64))) (2 ^ min ((32 : Int)).toNat (IntKind.bits .u64))) = 0 then
 (bits_Div64.l17 k (IntKind.wrap .u64 (j2.2.2 * 2 ^ min ((IntKind.wrap .u64 r3)).toNat (IntKind.bits .u64))) (IntKind.wrap .u64 r3) (Int.fdiv (IntKind.wrap .u64 (j2.2.2 * 2 ^ min ((IntKind.wrap .u64 r3)).toNat (IntKind.bits .u64))) (2 ^ min ((32 : Int)).toNat (IntKind.bits .u64))) (IntKind.wrap .u64 ((BitVec.ofInt (IntKind.bits .u64) (IntKind.wrap .u64 (j2.2.2 * 2 ^ min ((IntKind.wrap .u64 r3)).toNat (IntKind.bits .u64))) &&& BitVec.ofInt (IntKind.bits .u64) (4294967295 : Int)).toNat : Int)) (IntKind.wrap .u64 ((BitVec.ofInt (IntKind.bits .u64) (IntKind.wrap .u64 (j2.1 * 2 ^ min ((IntKind.wrap .u64 r3)).toNat (IntKind.bits .u64))) ||| BitVec.ofInt (IntKind.bits .u64) (Int.fdiv j2.2.1 (2 ^ min ((IntKind.wrap .u64 ((64 : Int) - (IntKind.wrap .u64 r3)))).toNat (IntKind.bits .u64)))).toNat : Int)) (Int.fdiv (IntKind.wrap .u64 (j2.2.1 * 2 ^ min ((IntKind.wrap .u64 r3)).toNat (IntKind.bits .u64))) (2 ^ min ((32 : Int)).toNat (IntKind.bits .u64))) (IntKind.wrap .u64 ((BitVec.ofInt (IntKind.bits .u64) (IntKind.wrap .u64 (j2.2.1 * 2 ^ min ((IntKind.wrap .u64 r3)).toNat (IntKind.bits .u64))) &&& BitVec.ofInt (IntKind.bits .u64) (4294967295 : Int)).toNat : Int)) k (IntKind.wrap .u64 (Int.tdiv (IntKind.wrap .u64 ((BitVec.ofInt (IntKind.bits .u64) (IntKind.wrap .u64 (j2.1 * 2 ^ min ((IntKind.wrap .u64 r3)).toNat (IntKind.bits .u64))) ||| BitVec.ofInt (IntKind.bits .u64) (Int.fdiv j2.2.1 (2 ^ min ((IntKind.wrap .u64 ((64 : Int) - (IntKind.wrap .u64 r3)))).toNat (IntKind.bits .u64)))).toNat : Int)) (Int.fdiv (IntKind.wrap .u64 (j2.2.2 * 2 ^ min ((IntKind.wrap .u64 r3)).toNat (IntKind.bits .u64))) (2 ^ min ((32 : Int)).toNat (IntKind.bits .u64))))) (IntKind.wrap .u64 ((IntKind.wrap .u64 ((BitVec.ofInt (IntKind.bits .u64) (IntKind.wrap .u64 (j2.1 * 2 ^ min ((IntKind.wrap .u64 r3)).toNat (IntKind.bits .u64))) ||| BitVec.ofInt (IntKind.bits .u64) (Int.fdiv j2.2.1 (2 ^ min ((IntKind.wrap .u64 ((64 : Int) - (IntKind.wrap .u64 r3)))).toNat (IntKind.bits .u64)))).toNat : Int)) - (IntKind.wrap .u64 ((IntKind.wrap .u64 (Int.tdiv (IntKind.wrap .u64 ((BitVec.ofInt (IntKind.bits .u64) (IntKind.wrap .u64 (j2.1 * 2 ^ min ((IntKind.wrap .u64 r3)).toNat (IntKind.bits .u64))) ||| BitVec.ofInt (IntKind.bits .u64) (Int.fdiv j2.2.1 (2 ^ min ((IntKind.wrap .u64 ((64 : Int) - (IntKind.wrap .u64 r3)))).toNat (IntKind.bits .u64)))).toNat : Int)) (Int.fdiv (IntKind.wrap .u64 (j2.2.2 * 2 ^ min ((IntKind.wrap .u64 r3)).toNat (IntKind.bits .u64))) (2 ^ min ((32 : Int)).toNat (IntKind.bits .u64))))) * (Int.fdiv (IntKind.wrap .u64 (j2.2.2 * 2 ^ min ((IntKind.wrap .u64 r3)).toNat (IntKind.bits .u64))) (2 ^ min ((32 : Int)).toNat (IntKind.bits .u64)))))))).bind fun x5 =>
 if ¬ x5.2.2.1 = 0 then
 (bits_Div64.l24 k x5.1 x5.2.1 x5.2.2.1 x5.2.2.2.1 x5.2.2.2.2.2.2.1 x5.2.2.2.2.2.2.2 (IntKind.wrap .u64 ((IntKind.wrap .u64 ((IntKind.wrap .u64 (x5.2.2.2.2.1 * (4294967296 : Int))) + x5.2.2.2.2.2.1)) - (IntKind.wrap .u64 (x5.2.2.2.2.2.2.2 * x5.1)))) k (IntKind.wrap .u64 ((IntKind.wrap .u64 ((IntKind.wrap .u64 ((IntKind.wrap .u64 (x5.2.2.2.2.1 * (4294967296 : Int))) + x5.2.2.2.2.2.1)) - (IntKind.wrap .u64 (x5.2.2.2.2.2.2.2 * x5.1)))) - (IntKind.wrap .u64 ((IntKind.wrap .u64 (Int.tdiv (IntKind.wrap .u64 ((IntKind.wrap .u64 ((IntKind.wrap .u64 (x5.2.2.2.2.1 * (4294967296 : Int))) + x5.2.2.2.2.2.1)) - (IntKind.wrap .u64 (x5.2.2.2.2.2.2.2 * x5.1)))) x5.2.2.1)) * x5.2.2.1)))) (IntKind.wrap .u64 (Int.tdiv (IntKind.wrap .u64 ((IntKind.wrap .u64 ((IntKind.wrap .u64 (x5.2.2.2.2.1 * (4294967296 : Int))) + x5.2.2.2.2.2.1)) - (IntKind.wrap .u64 (x5.2.2.2.2.2.2.2 * x5.1)))) x5.2.2.1))).bind fun x7 =>
 if 0 ≤ x7.2.1 then
 some ((IntKind.wrap .u64 ((IntKind.wrap .u64 (x7.2.2.2.1 * (4294967296 : Int))) + x7.2.2.2.2.2)), (Int.fdiv (IntKind.wrap .u64 ((IntKind.wrap .u64 ((IntKind.wrap .u64 (x7.2.2.2.2.1 * (4294967296 : Int))) + x7.2.2.1)) - (IntKind.wrap .u64 (x7.2.2.2.2.2 * x7.1)))) (2 ^ min (x7.2.1).toNat (IntKind.bits .u64))))
 else none
 else none
 else none
 else none
 else none
 else none
 else none
 else none
 else none
def bits_Div64.u (k : Nat) (v : Int × Int × Int) : Option (Int × Int) := bits_Div64 k v.1 v.2.1 v.2.2
def bits_Div64.G (k : Nat) : Ctx U := ⟨tyOf, bytesOf, fun f xs => if f == 184 then entry bits_LeadingZeros64.P bits_LeadingZeros64.S (bits_LeadingZeros64.u) xs else none, fun f xs => none, fun d => false⟩
def bits_Div64.l17.L (k : Nat) : ELoop U := ⟨[.slot 2 (.int .u64), .slot 8 (.int .u64), .slot 9 (.int .u64), .slot 10 (.int .u64), .slot 11 (.int .u64), .slot 13 (.int .u64), .slot 14 (.int .u64), .slot 15 (.int .u64), .slot 16 (.int .u64)], 0, [.slot 2 (.int .u64), .slot 8 (.int .u64), .slot 9 (.int .u64), .slot 10 (.int .u64), .slot 11 (.int .u64), .slot 13 (.int .u64), .slot 14 (.int .u64), .slot 15 (.int .u64)], fun (v : Int × Int × Int × Int × Int × Int × Int × Int × Int) => bits_Div64.l17 k v.1 v.2.1 v.2.2.1 v.2.2.2.1 v.2.2.2.2.1 v.2.2.2.2.2.1 v.2.2.2.2.2.2.1 k v.2.2.2.2.2.2.2.1 v.2.2.2.2.2.2.2.2⟩
def bits_Div64.l24.L (k : Nat) : ELoop U := ⟨[.slot 2 (.int .u64), .slot 8 (.int .u64), .slot 9 (.int .u64), .slot 10 (.int .u64), .slot 14 (.int .u64), .slot 15 (.int .u64), .slot 16 (.int .u64), .slot 17 (.int .u64), .slot 18 (.int .u64)], 2, [.slot 2 (.int .u64), .slot 8 (.int .u64), .slot 14 (.int .u64), .slot 15 (.int .u64), .slot 17 (.int .u64), .slot 18 (.int .u64)], fun (v : Int × Int × Int × Int × Int × Int × Int × Int × Int) => bits_Div64.l24 k v.1 v.2.1 v.2.2.1 v.2.2.2.1 v.2.2.2.2.1 v.2.2.2.2.2.1 v.2.2.2.2.2.2.2.1 k v.2.2.2.2.2.2.1 v.2.2.2.2.2.2.2.2⟩
def bits_Div64.H (k : Nat) : Hint U := ⟨[], fun i => if i == 2097148 then some (bits_Div64.l24.L k) else if i == 131068 then some (bits_Div64.l17.L k) else none, fun i => none, fun i => if i == 29 then some ⟨[.slot 0 (.int .u64), .slot 1 (.int .u64), .slot 2 (.int .u64)], none⟩ else if i == 13 then some ⟨[.slot 0 (.int .u64), .slot 1 (.int .u64), .slot 2 (.int .u64)], none⟩ else none⟩
theorem bits_Div64.l17.ok (k n : Nat) (v : Vars U (bits_Div64.l17.L k).ks) : loopT (bits_Div64.G k) (bits_Div64.H k) (pick [true, true, true, true, true, true, true, true, true, true, true, true, true, true, false, false, false] (bodyOf Tryz.f162)) 131068 (bits_Div64.l17.L k) n v = (fun (v : Int × Int × Int × Int × Int × Int × Int × Int × Int) => bits_Div64.l17 k v.1 v.2.1 v.2.2.1 v.2.2.2.1 v.2.2.2.2.1 v.2.2.2.2.2.1 v.2.2.2.2.2.2.1 n v.2.2.2.2.2.2.2.1 v.2.2.2.2.2.2.2.2) v :=
  loopT_eq (bits_Div64.G k) (bits_Div64.H k) _ _ (bits_Div64.l17.L k) (fun n (v : Int × Int × Int × Int × Int × Int × Int × Int × Int) => bits_Div64.l17 k v.1 v.2.1 v.2.2.1 v.2.2.2.1 v.2.2.2.2.1 v.2.2.2.2.2.1 v.2.2.2.2.2.2.1 n v.2.2.2.2.2.2.2.1 v.2.2.2.2.2.2.2.2) (fun _ => rfl) (fun n v => by kernel_rfl) n v
theorem bits_Div64.l24.ok (k n : Nat) (v : Vars U (bits_Div64.l24.L k).ks) : loopT (bits_Div64.G k) (bits_Div64.H k) (pick [true, true, true, true, true, true, true, true, true, true, true, true, true, true, true, true, true, true, false, false, false] (bodyOf Tryz.f162)) 2097148 (bits_Div64.l24.L k) n v = (fun (v : Int × Int × Int × Int × Int × Int × Int × Int × Int) => bits_Div64.l24 k v.1 v.2.1 v.2.2.1 v.2.2.2.1 v.2.2.2.2.1 v.2.2.2.2.2.1 v.2.2.2.2.2.2.2.1 n v.2.2.2.2.2.2.1 v.2.2.2.2.2.2.2.2) v :=
  loopT_eq (bits_Div64.G k) (bits_Div64.H k) _ _ (bits_Div64.l24.L k) (fun n (v : Int × Int × Int × Int × Int × Int × Int × Int × Int) => bits_Div64.l24 k v.1 v.2.1 v.2.2.1 v.2.2.2.1 v.2.2.2.2.1 v.2.2.2.2.2.1 v.2.2.2.2.2.2.2.1 n v.2.2.2.2.2.2.1 v.2.2.2.2.2.2.2.2) (fun _ => rfl) (fun n v => by kernel_rfl) n v
theorem bits_Div64.ev (k : Nat) (v : Int × Int × Int) : evFn (bits_Div64.G k) (bits_Div64.H k) bits_Div64.S Tryz.f162 (encA bits_Div64.P v) = bits_Div64.u k v := by kernel_rfl
theorem bits_Div64.fns : Fns Tryz.prog 162 Tryz.f162 bits_Div64.P := ⟨Tryz.func162, by kernel_rfl⟩
theorem bits_Div64.loops (k : Nat) : LoopsOk (bits_Div64.G k) (bits_Div64.H k) (bodyOf Tryz.f162) 1 := loops_of (ps := [(131068, pick [true, true, true, true, true, true, true, true, true, true, true, true, true, true, false, false, false] (bodyOf Tryz.f162)), (2097148, pick [true, true, true, true, true, true, true, true, true, true, true, true, true, true, true, true, true, true, false, false, false] (bodyOf Tryz.f162))]) (by kernel_rfl) ⟨loopT_ok rfl fun v x hx => ⟨k, (bits_Div64.l17.ok k k v).trans hx⟩, ⟨loopT_ok rfl fun v x hx => ⟨k, (bits_Div64.l24.ok k k v).trans hx⟩, trivial⟩⟩
theorem bits_Div64.call (k : Nat) : FnC Tryz.prog U Lay 162 bits_Div64.P bits_Div64.S (bits_Div64.u k) := fnC hLay ulaw gok (fun f xs => (.ite (.entry (bits_LeadingZeros64.call)) (CallC.none) : CallC Tryz.prog U Lay _ f xs)) (fun f xs => (CallC2.none : CallC2 Tryz.prog U Lay _ f xs)) bits_Div64.fns (bits_Div64.loops k) (bits_Div64.ev k)
def wide_tenth.l3 (k : Nat) (b2 : List Int) : Nat → Int → Int → (List Int) → Option (Int × (List Int) × (List Int))
 | 0, _, _, _ => none
 | n + 1, v4, v5, b1 =>
 if (decide (v5 ≥ (0 : Int))) = true then
 if 0 ≤ v5 ∧ v5 < (4 : Int) then
 (idx b1 v5).bind fun e1 =>
 (bits_Div64 k v4 e1 (10 : Int)).bind fun r2 =>
 if 0 ≤ v5 ∧ v5 < (4 : Int) then
 (idx b1 v5).bind fun e3 =>
 wide_tenth.l3 k b2 n r2.2 (IntKind.wrap .i64 (v5 - (1 : Int))) (b1.set (v5).toNat r2.1)
 else none
 else none
 else
 some (v4, b1, b2)
def wide_tenth (k : Nat) (a0 : List Int) : Option ((List Int) × Int) :=
 (wide_tenth.l3 k (List.replicate 4 (0 : Int)) k (0 : Int) (3 : Int) a0).bind fun x4 =>
 some (x4.2.1, x4.1)
def wide_tenth.u (k : Nat) (v : (List Int)) : Option ((List Int) × Int) := wide_tenth k v
def wide_tenth.G (k : Nat) : Ctx U := ⟨tyOf, bytesOf, fun f xs => if f == 162 then entry bits_Div64.P bits_Div64.S (bits_Div64.u k) xs else none, fun f xs => none, fun d => false⟩
def wide_tenth.l3.L (k : Nat) : ELoop U := ⟨[.ptr 1 1 [] (.arr 4 (.int .u64)), .ptr 2 2 [] (.arr 4 (.int .u64)), .slot 4 (.int .u64), .slot 5 (.int .i64), .box 1 (.arr 4 (.int .u64)) [], .box 2 (.arr 4 (.int .u64)) []], 0, [.ptr 1 1 [] (.arr 4 (.int .u64)), .ptr 2 2 [] (.arr 4 (.int .u64)), .slot 4 (.int .u64), .box 1 (.arr 4 (.int .u64)) [], .box 2 (.arr 4 (.int .u64)) []], fun (v : Int × Int × (List Int) × (List Int)) => wide_tenth.l3 k v.2.2.2 k v.1 v.2.1 v.2.2.1⟩
def wide_tenth.H (k : Nat) : Hint U := ⟨[], fun i => if i == 58 then some (wide_tenth.l3.L k) else none, fun i => none, fun i => none⟩
theorem wide_tenth.l3.ok (k n : Nat) (v : Vars U (wide_tenth.l3.L k).ks) : loopT (wide_tenth.G k) (wide_tenth.H k) (pick [true, true, false, true, false, false] (bodyOf Tryz.f138)) 58 (wide_tenth.l3.L k) n v = (fun (v : Int × Int × (List Int) × (List Int)) => wide_tenth.l3 k v.2.2.2 n v.1 v.2.1 v.2.2.1) v :=
  loopT_eq (wide_tenth.G k) (wide_tenth.H k) _ _ (wide_tenth.l3.L k) (fun n (v : Int × Int × (List Int) × (List Int)) => wide_tenth.l3 k v.2.2.2 n v.1 v.2.1 v.2.2.1) (fun _ => rfl) (fun n v => by kernel_rfl) n v
theorem wide_tenth.ev (k : Nat) (v : (List Int)) : evFn (wide_tenth.G k) (wide_tenth.H k) wide_tenth.S Tryz.f138 (encA wide_tenth.P v) = wide_tenth.u k v := by kernel_rfl
theorem wide_tenth.fns : Fns Tryz.prog 138 Tryz.f138 wide_tenth.P := ⟨Tryz.func138, by kernel_rfl⟩
theorem wide_tenth.loops (k : Nat) : LoopsOk (wide_tenth.G k) (wide_tenth.H k) (bodyOf Tryz.f138) 1 := loops_of (ps := [(58, pick [true, true, false, true, false, false] (bodyOf Tryz.f138))]) (by kernel_rfl) ⟨loopT_ok rfl fun v x hx => ⟨k, (wide_tenth.l3.ok k k v).trans hx⟩, trivial⟩
theorem wide_tenth.call (k : Nat) : FnC Tryz.prog U Lay 138 wide_tenth.P wide_tenth.S (wide_tenth.u k) := fnC hLay ulaw gok (fun f xs => (.ite (.entry (bits_Div64.call k)) (CallC.none) : CallC Tryz.prog U Lay _ f xs)) (fun f xs => (CallC2.none : CallC2 Tryz.prog U Lay _ f xs)) wide_tenth.fns (wide_tenth.loops k) (wide_tenth.ev k)
def wide_Trim.l6 (k : Nat) (b2 : Wide) : Nat → Int → (List Int) → Option (Fl (Unit) (Int × Wide))
 | 0, _, _ => none
 | n + 1, v5, b4 =>
 (wide_tenth k b4).bind fun r1 =>
 if (r1.2 != (0 : Int)) = true then
 if 0 ≤ (1 : Int) ∧ (1 : Int) < (4 : Int) then
 (idx b4 (1 : Int)).bind fun e2 =>
 if 0 ≤ (0 : Int) ∧ (0 : Int) < (4 : Int) then
 (idx b4 (0 : Int)).bind fun e3 =>
 some (Fl.ret (v5, (⟨e2, e3⟩ : Wide)))
 else none
 else none
 else
 wide_Trim.l6 k b2 n (IntKind.wrap .i64 (v5 + (1 : Int))) r1.1
def wide_Trim (k : Nat) (a0 : Wide) : Option (Wide × Int) :=
 if ((a0.hi == (0 : Int)) && ((a0.lo == (0 : Int)) && true)) = true then
 some (a0, (0 : Int))
 else
 (wide_Trim.l6 k (⟨(0 : Int), (0 : Int)⟩ : Wide) k (0 : Int) [a0.lo, a0.hi, (0 : Int), (0 : Int)]).bind fun o => (match o with
 | .go x4 =>
 none
 | .ret x5 =>
 some (x5.2, x5.1))
def wide_Trim.u (k : Nat) (v : Wide) : Option (Wide × Int) := wide_Trim k v
def wide_Trim.G (k : Nat) : Ctx U := ⟨tyOf, bytesOf, fun f xs => if f == 138 then entry wide_tenth.P wide_tenth.S (wide_tenth.u k) xs else none, fun f xs => none, fun d => false⟩
def wide_Trim.l6.L (k : Nat) : ELoopR U := ⟨[.ptr 2 2 [] (.st 2), .ptr 4 4 [] (.arr 4 (.int .u64)), .slot 5 (.int .i64), .box 2 (.st 2) [], .box 4 (.arr 4 (.int .u64)) []], 0, [], [.ptr 2 2 [] (.st 2), .slot 3 (.int .i64), .box 2 (.st 2) []], fun (v : Int × Wide × (List Int)) => wide_Trim.l6 k v.2.1 k v.1 v.2.2⟩
def wide_Trim.H (k : Nat) : Hint U := ⟨[], fun i => none, fun i => if i == 62 then some (wide_Trim.l6.L k) else none, fun i => none⟩
theorem wide_Trim.l6.ok (k n : Nat) (v : Vars U (wide_Trim.l6.L k).ks) : loopRT (wide_Trim.G k) (wide_Trim.H k) (pick [true, true, true, true, false, false] (bodyOf Tryz.f104)) 62 (wide_Trim.l6.L k) n v = (fun (v : Int × Wide × (List Int)) => wide_Trim.l6 k v.2.1 n v.1 v.2.2) v :=
  loopRT_eq (wide_Trim.G k) (wide_Trim.H k) _ _ (wide_Trim.l6.L k) (fun n (v : Int × Wide × (List Int)) => wide_Trim.l6 k v.2.1 n v.1 v.2.2) (fun _ => rfl) (fun n v => by kernel_rfl) n v
theorem wide_Trim.ev (k : Nat) (v : Wide) : evFn (wide_Trim.G k) (wide_Trim.H k) wide_Trim.S Tryz.f104 (encA wide_Trim.P v) = wide_Trim.u k v := by kernel_rfl
theorem wide_Trim.fns : Fns Tryz.prog 104 Tryz.f104 wide_Trim.P := ⟨Tryz.func104, by kernel_rfl⟩
theorem wide_Trim.loops (k : Nat) : LoopsOk (wide_Trim.G k) (wide_Trim.H k) (bodyOf Tryz.f104) 1 := loops_of (ps := [(62, pick [true, true, true, true, false, false] (bodyOf Tryz.f104))]) (by kernel_rfl) ⟨loopR_ok rfl rfl fun v x hx => ⟨k, (wide_Trim.l6.ok k k v).trans hx⟩, trivial⟩
theorem wide_Trim.call (k : Nat) : FnC Tryz.prog U Lay 104 wide_Trim.P wide_Trim.S (wide_Trim.u k) := fnC hLay ulaw gok (fun f xs => (.ite (.entry (wide_tenth.call k)) (CallC.none) : CallC Tryz.prog U Lay _ f xs)) (fun f xs => (CallC2.none : CallC2 Tryz.prog U Lay _ f xs)) wide_Trim.fns (wide_Trim.loops k) (wide_Trim.ev k)
def dec_Form (k : Nat) (a0 : Dec) : Option (Bool) :=
 (dec_bound k).bind fun r1 =>
 (wide_Cmp a0.coef r1).bind fun r2 =>
 if (decide (r2 ≥ (0 : Int))) = false then
 if (decide (a0.scale < (0 : Int))) = false then
 if (decide (a0.scale > (18 : Int))) = true then
 some false
 else
 (dec_zero a0).bind fun r3 =>
 if r3 = true then
 ((if (!a0.neg) = true then
 some (a0.scale == (0 : Int))
 else some false) : Option Bool).bind fun b4 =>
 some b4
 else
 (wide_Trim k a0.coef).bind fun r5 =>
 ((if (a0.scale == (0 : Int)) = false then
 some (r5.2 == (0 : Int))
 else some true) : Option Bool).bind fun b6 =>
 some b6
 else
 some false
 else
 if true = false then
 if (decide (a0.scale > (18 : Int))) = true then
 some false
 else
 (dec_zero a0).bind fun r7 =>
 if r7 = true then
 ((if (!a0.neg) = true then
 some (a0.scale == (0 : Int))
 else some false) : Option Bool).bind fun b8 =>
 some b8
 else
 (wide_Trim k a0.coef).bind fun r9 =>
 ((if (a0.scale == (0 : Int)) = false then
 some (r9.2 == (0 : Int))
 else some true) : Option Bool).bind fun b10 =>
 some b10
 else
 some false
def dec_Form.u (k : Nat) (v : Dec) : Option (Bool) := dec_Form k v
def dec_Form.G (k : Nat) : Ctx U := ⟨tyOf, bytesOf, fun f xs => if f == 102 then entry dec_bound.P dec_bound.S (dec_bound.u k) xs else if f == 101 then entry wide_Cmp.P wide_Cmp.S (wide_Cmp.u) xs else if f == 103 then entry dec_zero.P dec_zero.S (dec_zero.u) xs else if f == 104 then entry wide_Trim.P wide_Trim.S (wide_Trim.u k) xs else none, fun f xs => none, fun d => false⟩
def dec_Form.H (k : Nat) : Hint U := ⟨[], fun i => none, fun i => none, fun i => none⟩
theorem dec_Form.ev (k : Nat) (v : Dec) : evFn (dec_Form.G k) (dec_Form.H k) dec_Form.S Tryz.f69 (encA dec_Form.P v) = dec_Form.u k v := by kernel_rfl
theorem dec_Form.fns : Fns Tryz.prog 69 Tryz.f69 dec_Form.P := ⟨Tryz.func69, by kernel_rfl⟩
theorem dec_Form.loops (k : Nat) : LoopsOk (dec_Form.G k) (dec_Form.H k) (bodyOf Tryz.f69) 1 := loops_of (ps := []) (by kernel_rfl) trivial
theorem dec_Form.call (k : Nat) : FnC Tryz.prog U Lay 69 dec_Form.P dec_Form.S (dec_Form.u k) := fnC hLay ulaw gok (fun f xs => (.ite (.entry (dec_bound.call k)) (.ite (.entry (wide_Cmp.call)) (.ite (.entry (dec_zero.call)) (.ite (.entry (wide_Trim.call k)) (CallC.none)))) : CallC Tryz.prog U Lay _ f xs)) (fun f xs => (CallC2.none : CallC2 Tryz.prog U Lay _ f xs)) dec_Form.fns (dec_Form.loops k) (dec_Form.ev k)
def chars_Word (a0 : ByteArray) : Option (Bool) :=
 if (a0.data.toList == (ByteArray.mk #[97, 110, 100]).data.toList) = true then
 some true
 else
 if (a0.data.toList == (ByteArray.mk #[98, 101, 116, 119, 101, 101, 110]).data.toList) = true then
 some true
 else
 if (a0.data.toList == (ByteArray.mk #[101, 108, 115, 101]).data.toList) = true then
 some true
 else
 if (a0.data.toList == (ByteArray.mk #[102, 97, 108, 115, 101]).data.toList) = true then
 some true
 else
 if (a0.data.toList == (ByteArray.mk #[105, 102]).data.toList) = true then
 some true
 else
 if (a0.data.toList == (ByteArray.mk #[105, 110]).data.toList) = true then
 some true
 else
 if (a0.data.toList == (ByteArray.mk #[110, 111, 116]).data.toList) = true then
 some true
 else
 if (a0.data.toList == (ByteArray.mk #[110, 117, 108, 108]).data.toList) = true then
 some true
 else
 if (a0.data.toList == (ByteArray.mk #[111, 114]).data.toList) = true then
 some true
 else
 if (a0.data.toList == (ByteArray.mk #[116, 104, 101, 110]).data.toList) = true then
 some true
 else
 if (a0.data.toList == (ByteArray.mk #[116, 114, 117, 101]).data.toList) = true then
 some true
 else
 some false
def chars_Word.u (v : ByteArray) : Option (Bool) := chars_Word v
def chars_Word.G : Ctx U := ⟨tyOf, bytesOf, fun f xs => none, fun f xs => none, fun d => false⟩
def chars_Word.H : Hint U := ⟨[], fun i => none, fun i => none, fun i => none⟩
theorem chars_Word.ev (v : ByteArray) : evFn (chars_Word.G) (chars_Word.H) chars_Word.S Tryz.f109 (encA chars_Word.P v) = chars_Word.u v := by kernel_rfl
theorem chars_Word.fns : Fns Tryz.prog 109 Tryz.f109 chars_Word.P := ⟨Tryz.func109, by kernel_rfl⟩
theorem chars_Word.loops : LoopsOk (chars_Word.G) (chars_Word.H) (bodyOf Tryz.f109) 1 := loops_of (ps := []) (by kernel_rfl) trivial
theorem chars_Word.call : FnC Tryz.prog U Lay 109 chars_Word.P chars_Word.S (chars_Word.u) := fnC hLay ulaw gok (fun f xs => (CallC.none : CallC Tryz.prog U Lay _ f xs)) (fun f xs => (CallC2.none : CallC2 Tryz.prog U Lay _ f xs)) chars_Word.fns (chars_Word.loops) (chars_Word.ev)
def chars_Name.l4 (k : Nat) (v0 : ByteArray) (v18 : Int) : Nat → Int → Option (Fl (Unit) (Bool))
 | 0, _ => none
 | n + 1, v19 =>
 if (decide (v19 < v18)) = true then
 (idx v0.data.toList v19).bind fun e4 =>
 ((if (decide ((97 : Int) ≤ (e4.toNat : Int))) = true then
 some (decide ((e4.toNat : Int) ≤ (122 : Int)))
 else some false) : Option Bool).bind fun b5 =>
 ((if b5 = false then
 ((if (decide ((65 : Int) ≤ (e4.toNat : Int))) = true then
 some (decide ((e4.toNat : Int) ≤ (90 : Int)))
 else some false) : Option Bool).bind fun b6 =>
 some b6
 else some true) : Option Bool).bind fun b7 =>
 ((if b7 = false then
 some ((e4.toNat : Int) == (95 : Int))
 else some true) : Option Bool).bind fun b8 =>
 ((if (!b8) = true then
 ((if (v19 == (0 : Int)) = false then
 some (decide ((e4.toNat : Int) < (48 : Int)))
 else some true) : Option Bool).bind fun b9 =>
 ((if b9 = false then
 some (decide ((e4.toNat : Int) > (57 : Int)))
 else some true) : Option Bool).bind fun b10 =>
 some b10
 else some false) : Option Bool).bind fun b11 =>
 if b11 = true then
 some (Fl.ret false)
 else
 chars_Name.l4 k v0 v18 n (IntKind.wrap .i64 (v19 + (1 : Int)))
 else
 some (Fl.go ())
def chars_Name (k : Nat) (a0 : ByteArray) : Option (Bool) :=
 ((if (a0.data.toList == (ByteArray.mk #[]).data.toList) = false then
 some (decide ((a0.size : Int) > (64 : Int)))
 else some true) : Option Bool).bind fun b1 =>
 ((if b1 = false then
 (chars_Word a0).bind fun r2 =>
 some r2
 else some true) : Option Bool).bind fun b3 =>
 if b3 = true then
 some false
 else
 (chars_Name.l4 k a0 (a0.size : Int) k (0 : Int)).bind fun o => (match o with
 | .go x12 =>
 some true
 | .ret x13 =>
 some x13)
def chars_Name.u (k : Nat) (v : ByteArray) : Option (Bool) := chars_Name k v
def chars_Name.G (k : Nat) : Ctx U := ⟨tyOf, bytesOf, fun f xs => if f == 109 then entry chars_Word.P chars_Word.S (chars_Word.u) xs else none, fun f xs => none, fun d => false⟩
def chars_Name.l4.L (k : Nat) : ELoopR U := ⟨[.slot 0 .str, .slot 18 (.int .i64), .slot 19 (.int .i64)], 0, [], [.slot 2 .bool], fun (v : ByteArray × Int × Int) => chars_Name.l4 k v.1 v.2.1 k v.2.2⟩
def chars_Name.H (k : Nat) : Hint U := ⟨[], fun i => none, fun i => if i == 58 then some (chars_Name.l4.L k) else none, fun i => none⟩
theorem chars_Name.l4.ok (k n : Nat) (v : Vars U (chars_Name.l4.L k).ks) : loopRT (chars_Name.G k) (chars_Name.H k) (pick [true, true, false, true, false, false] (bodyOf Tryz.f71)) 58 (chars_Name.l4.L k) n v = (fun (v : ByteArray × Int × Int) => chars_Name.l4 k v.1 v.2.1 n v.2.2) v :=
  loopRT_eq (chars_Name.G k) (chars_Name.H k) _ _ (chars_Name.l4.L k) (fun n (v : ByteArray × Int × Int) => chars_Name.l4 k v.1 v.2.1 n v.2.2) (fun _ => rfl) (fun n v => by kernel_rfl) n v
theorem chars_Name.ev (k : Nat) (v : ByteArray) : evFn (chars_Name.G k) (chars_Name.H k) chars_Name.S Tryz.f71 (encA chars_Name.P v) = chars_Name.u k v := by kernel_rfl
theorem chars_Name.fns : Fns Tryz.prog 71 Tryz.f71 chars_Name.P := ⟨Tryz.func71, by kernel_rfl⟩
theorem chars_Name.loops (k : Nat) : LoopsOk (chars_Name.G k) (chars_Name.H k) (bodyOf Tryz.f71) 1 := loops_of (ps := [(58, pick [true, true, false, true, false, false] (bodyOf Tryz.f71))]) (by kernel_rfl) ⟨loopR_ok rfl rfl fun v x hx => ⟨k, (chars_Name.l4.ok k k v).trans hx⟩, trivial⟩
theorem chars_Name.call (k : Nat) : FnC Tryz.prog U Lay 71 chars_Name.P chars_Name.S (chars_Name.u k) := fnC hLay ulaw gok (fun f xs => (.ite (.entry (chars_Word.call)) (CallC.none) : CallC Tryz.prog U Lay _ f xs)) (fun f xs => (CallC2.none : CallC2 Tryz.prog U Lay _ f xs)) chars_Name.fns (chars_Name.loops k) (chars_Name.ev k)
def expr_plain (k : Nat) (a0 : Node) : Option (Node × Bool) :=
 if (a0.op == (4 : Int)) = true then
 (dec_Form k a0.num).bind fun r1 =>
 ((if r1 = true then
 some (!a0.num.neg)
 else some false) : Option Bool).bind fun b2 =>
 some ((⟨a0.op, a0.kids, a0.text, (⟨false, (⟨(0 : Int), (0 : Int)⟩ : Wide), (0 : Int)⟩ : Dec), a0.day⟩ : Node), b2)
 else
 if (a0.op == (5 : Int)) = true then
 ((if (decide ((a0.text.size : Int) ≤ (1000 : Int))) = true then
 (chars_Valid a0.text).bind fun r3 =>
 some r3
 else some false) : Option Bool).bind fun b4 =>
 some ((⟨a0.op, a0.kids, (ByteArray.mk #[]), a0.num, a0.day⟩ : Node), b4)
 else
 if (a0.op == (6 : Int)) = true then
 ((if (decide (a0.day ≥ (1 : Int))) = true then
 some (decide (a0.day ≤ (3652059 : Int)))
 else some false) : Option Bool).bind fun b5 =>
 some ((⟨a0.op, a0.kids, a0.text, a0.num, (0 : Int)⟩ : Node), b5)
 else
 ((if (a0.op == (7 : Int)) = true then
 some (true, a0.op, true, a0, (⟨(0 : Int), (0 : Int), ByteArray.empty, (⟨false, (⟨(0 : Int), (0 : Int)⟩ : Wide), (0 : Int)⟩ : Dec), (0 : Int)⟩ : Node))
 else
 if (a0.op == (24 : Int)) = true then
 some (true, a0.op, true, a0, (⟨(0 : Int), (0 : Int), ByteArray.empty, (⟨false, (⟨(0 : Int), (0 : Int)⟩ : Wide), (0 : Int)⟩ : Dec), (0 : Int)⟩ : Node))
 else
 if (a0.op == (25 : Int)) = true then
 some (true, a0.op, true, a0, (⟨(0 : Int), (0 : Int), ByteArray.empty, (⟨false, (⟨(0 : Int), (0 : Int)⟩ : Wide), (0 : Int)⟩ : Dec), (0 : Int)⟩ : Node))
 else
 some (true, a0.op, (a0.op == (28 : Int)), a0, (⟨(0 : Int), (0 : Int), ByteArray.empty, (⟨false, (⟨(0 : Int), (0 : Int)⟩ : Wide), (0 : Int)⟩ : Dec), (0 : Int)⟩ : Node))) : Option (Bool × Int × Bool × Node × Node)).bind fun j6 =>
 if j6.2.2.1 = true then
 (chars_Name k j6.2.2.2.1.text).bind fun r7 =>
 some ((⟨j6.2.2.2.1.op, j6.2.2.2.1.kids, (ByteArray.mk #[]), j6.2.2.2.1.num, j6.2.2.2.1.day⟩ : Node), r7)
 else
 if (j6.2.1 == (35 : Int)) = true then
 ((if (j6.2.2.2.1.text.data.toList == (ByteArray.mk #[91, 93]).data.toList) = false then
 some (j6.2.2.2.1.text.data.toList == (ByteArray.mk #[91, 41]).data.toList)
 else some true) : Option Bool).bind fun b8 =>
 ((if b8 = false then
 some (j6.2.2.2.1.text.data.toList == (ByteArray.mk #[40, 93]).data.toList)
 else some true) : Option Bool).bind fun b9 =>
 ((if b9 = false then
 some (j6.2.2.2.1.text.data.toList == (ByteArray.mk #[40, 41]).data.toList)
 else some true) : Option Bool).bind fun b10 =>
 some ((⟨j6.2.2.2.1.op, j6.2.2.2.1.kids, (ByteArray.mk #[]), j6.2.2.2.1.num, j6.2.2.2.1.day⟩ : Node), b10)
 else
 some (j6.2.2.2.1, j6.1)
def expr_plain.u (k : Nat) (v : Node) : Option (Node × Bool) := expr_plain k v
def expr_plain.G (k : Nat) : Ctx U := ⟨tyOf, bytesOf, fun f xs => if f == 69 then entry dec_Form.P dec_Form.S (dec_Form.u k) xs else if f == 70 then entry chars_Valid.P chars_Valid.S (chars_Valid.u) xs else if f == 71 then entry chars_Name.P chars_Name.S (chars_Name.u k) xs else none, fun f xs => none, fun d => false⟩
def expr_plain.H (k : Nat) : Hint U := ⟨[], fun i => none, fun i => none, fun i => if i == 15101 then some ⟨[.ptr 1 1 [] (.st 0), .ptr 2 2 [] (.st 0), .slot 4 .bool, .slot 6 (.int .i64), .slot 43 .bool, .box 1 (.st 0) [], .box 2 (.st 0) []], none⟩ else none⟩
theorem expr_plain.ev (k : Nat) (v : Node) : evFn (expr_plain.G k) (expr_plain.H k) expr_plain.S Tryz.f44 (encA expr_plain.P v) = expr_plain.u k v := by kernel_rfl
theorem expr_plain.fns : Fns Tryz.prog 44 Tryz.f44 expr_plain.P := ⟨Tryz.func44, by kernel_rfl⟩
theorem expr_plain.loops (k : Nat) : LoopsOk (expr_plain.G k) (expr_plain.H k) (bodyOf Tryz.f44) 1 := loops_of (ps := []) (by kernel_rfl) trivial
theorem expr_plain.call (k : Nat) : FnC Tryz.prog U Lay 44 expr_plain.P expr_plain.S (expr_plain.u k) := fnC hLay ulaw gok (fun f xs => (.ite (.entry (dec_Form.call k)) (.ite (.entry (chars_Valid.call)) (.ite (.entry (chars_Name.call k)) (CallC.none))) : CallC Tryz.prog U Lay _ f xs)) (fun f xs => (CallC2.none : CallC2 Tryz.prog U Lay _ f xs)) expr_plain.fns (expr_plain.loops k) (expr_plain.ev k)
def expr_arity (a0 : Int) : Option (Int × Int) :=
 if (a0 == (1 : Int)) = true then
 some ((0 : Int), (0 : Int))
 else
 if (a0 == (2 : Int)) = true then
 some ((0 : Int), (0 : Int))
 else
 if (a0 == (3 : Int)) = true then
 some ((0 : Int), (0 : Int))
 else
 if (a0 == (4 : Int)) = true then
 some ((0 : Int), (0 : Int))
 else
 if (a0 == (5 : Int)) = true then
 some ((0 : Int), (0 : Int))
 else
 if (a0 == (6 : Int)) = true then
 some ((0 : Int), (0 : Int))
 else
 if (a0 == (7 : Int)) = true then
 some ((0 : Int), (0 : Int))
 else
 if (a0 == (29 : Int)) = true then
 some ((0 : Int), (0 : Int))
 else
 if (a0 == (8 : Int)) = true then
 some ((1 : Int), (1 : Int))
 else
 if (a0 == (24 : Int)) = true then
 some ((1 : Int), (1 : Int))
 else
 if (a0 == (28 : Int)) = true then
 some ((1 : Int), (1 : Int))
 else
 if (a0 == (30 : Int)) = true then
 some ((1 : Int), (1 : Int))
 else
 if (a0 == (31 : Int)) = true then
 some ((1 : Int), (1 : Int))
 else
 if (a0 == (32 : Int)) = true then
 some ((1 : Int), (1 : Int))
 else
 if (a0 == (33 : Int)) = true then
 some ((1 : Int), (1 : Int))
 else
 if (a0 == (34 : Int)) = true then
 some ((1 : Int), (1 : Int))
 else
 if (a0 == (37 : Int)) = true then
 some ((1 : Int), (1 : Int))
 else
 if (a0 == (9 : Int)) = true then
 some ((2 : Int), (2 : Int))
 else
 if (a0 == (10 : Int)) = true then
 some ((2 : Int), (2 : Int))
 else
 if (a0 == (11 : Int)) = true then
 some ((2 : Int), (2 : Int))
 else
 if (a0 == (12 : Int)) = true then
 some ((2 : Int), (2 : Int))
 else
 if (a0 == (13 : Int)) = true then
 some ((2 : Int), (2 : Int))
 else
 if (a0 == (14 : Int)) = true then
 some ((2 : Int), (2 : Int))
 else
 if (a0 == (15 : Int)) = true then
 some ((2 : Int), (2 : Int))
 else
 if (a0 == (16 : Int)) = true then
 some ((2 : Int), (2 : Int))
 else
 if (a0 == (17 : Int)) = true then
 some ((2 : Int), (2 : Int))
 else
 if (a0 == (18 : Int)) = true then
 some ((2 : Int), (2 : Int))
 else
 if (a0 == (19 : Int)) = true then
 some ((2 : Int), (2 : Int))
 else
 if (a0 == (20 : Int)) = true then
 some ((2 : Int), (2 : Int))
 else
 if (a0 == (23 : Int)) = true then
 some ((2 : Int), (2 : Int))
 else
 if (a0 == (35 : Int)) = true then
 some ((2 : Int), (2 : Int))
 else
 if (a0 == (21 : Int)) = true then
 some ((3 : Int), (3 : Int))
 else
 if (a0 == (22 : Int)) = true then
 some ((3 : Int), (3 : Int))
 else
 if (a0 == (25 : Int)) = true then
 some ((0 : Int), (8 : Int))
 else
 if (a0 == (26 : Int)) = true then
 some ((0 : Int), (-1 : Int))
 else
 if (a0 == (27 : Int)) = true then
 some ((0 : Int), (-1 : Int))
 else
 if (a0 == (36 : Int)) = true then
 some ((1 : Int), (-1 : Int))
 else
 some ((0 : Int), (-2 : Int))
def expr_arity.u (v : Int) : Option (Int × Int) := expr_arity v
def expr_arity.G : Ctx U := ⟨tyOf, bytesOf, fun f xs => none, fun f xs => none, fun d => false⟩
def expr_arity.H : Hint U := ⟨[], fun i => none, fun i => none, fun i => none⟩
theorem expr_arity.ev (v : Int) : evFn (expr_arity.G) (expr_arity.H) expr_arity.S Tryz.f72 (encA expr_arity.P v) = expr_arity.u v := by kernel_rfl
theorem expr_arity.fns : Fns Tryz.prog 72 Tryz.f72 expr_arity.P := ⟨Tryz.func72, by kernel_rfl⟩
theorem expr_arity.loops : LoopsOk (expr_arity.G) (expr_arity.H) (bodyOf Tryz.f72) 1 := loops_of (ps := []) (by kernel_rfl) trivial
theorem expr_arity.call : FnC Tryz.prog U Lay 72 expr_arity.P expr_arity.S (expr_arity.u) := fnC hLay ulaw gok (fun f xs => (CallC.none : CallC Tryz.prog U Lay _ f xs)) (fun f xs => (CallC2.none : CallC2 Tryz.prog U Lay _ f xs)) expr_arity.fns (expr_arity.loops) (expr_arity.ev)
def expr_fits (a0 : Node) : Option (Bool) :=
 (expr_arity a0.op).bind fun r1 =>
 ((if (r1.2 != (-2 : Int)) = true then
 some (decide (a0.kids ≥ r1.1))
 else some false) : Option Bool).bind fun b2 =>
 ((if b2 = true then
 ((if (r1.2 == (-1 : Int)) = false then
 some (decide (a0.kids ≤ r1.2))
 else some true) : Option Bool).bind fun b3 =>
 some b3
 else some false) : Option Bool).bind fun b4 =>
 some b4
def expr_fits.u (v : Node) : Option (Bool) := expr_fits v
def expr_fits.G : Ctx U := ⟨tyOf, bytesOf, fun f xs => if f == 72 then entry expr_arity.P expr_arity.S (expr_arity.u) xs else none, fun f xs => none, fun d => false⟩
def expr_fits.H : Hint U := ⟨[], fun i => none, fun i => none, fun i => none⟩
theorem expr_fits.ev (v : Node) : evFn (expr_fits.G) (expr_fits.H) expr_fits.S Tryz.f45 (encA expr_fits.P v) = expr_fits.u v := by kernel_rfl
theorem expr_fits.fns : Fns Tryz.prog 45 Tryz.f45 expr_fits.P := ⟨Tryz.func45, by kernel_rfl⟩
theorem expr_fits.loops : LoopsOk (expr_fits.G) (expr_fits.H) (bodyOf Tryz.f45) 1 := loops_of (ps := []) (by kernel_rfl) trivial
theorem expr_fits.call : FnC Tryz.prog U Lay 45 expr_fits.P expr_fits.S (expr_fits.u) := fnC hLay ulaw gok (fun f xs => (.ite (.entry (expr_arity.call)) (CallC.none) : CallC Tryz.prog U Lay _ f xs)) (fun f xs => (CallC2.none : CallC2 Tryz.prog U Lay _ f xs)) expr_fits.fns (expr_fits.loops) (expr_fits.ev)
def expr_wanted (a0 : Int) (a1 : Int) : Option (Int) :=
 if (a0 == (27 : Int)) = true then
 some (2 : Int)
 else
 if (a0 == (36 : Int)) = true then
 some (3 : Int)
 else
 if (a0 == (37 : Int)) = true then
 some (4 : Int)
 else
 ((if (a0 == (23 : Int)) = true then
 some (a1 == (1 : Int))
 else some false) : Option Bool).bind fun b1 =>
 if b1 = true then
 some (4 : Int)
 else
 some (1 : Int)
def expr_wanted.u (v : Int × Int) : Option (Int) := expr_wanted v.1 v.2
def expr_wanted.G : Ctx U := ⟨tyOf, bytesOf, fun f xs => none, fun f xs => none, fun d => false⟩
def expr_wanted.H : Hint U := ⟨[], fun i => none, fun i => none, fun i => none⟩
theorem expr_wanted.ev (v : Int × Int) : evFn (expr_wanted.G) (expr_wanted.H) expr_wanted.S Tryz.f46 (encA expr_wanted.P v) = expr_wanted.u v := by kernel_rfl
theorem expr_wanted.fns : Fns Tryz.prog 46 Tryz.f46 expr_wanted.P := ⟨Tryz.func46, by kernel_rfl⟩
theorem expr_wanted.loops : LoopsOk (expr_wanted.G) (expr_wanted.H) (bodyOf Tryz.f46) 1 := loops_of (ps := []) (by kernel_rfl) trivial
theorem expr_wanted.call : FnC Tryz.prog U Lay 46 expr_wanted.P expr_wanted.S (expr_wanted.u) := fnC hLay ulaw gok (fun f xs => (CallC.none : CallC Tryz.prog U Lay _ f xs)) (fun f xs => (CallC2.none : CallC2 Tryz.prog U Lay _ f xs)) expr_wanted.fns (expr_wanted.loops) (expr_wanted.ev)
def expr_unlike.l5 (k : Nat) (v0 : List Node) (v1 : List expr_thing) (v9 : List expr_thing) (v10 : Int) (v11 : Int) (v18 : List expr_thing) (v19 : Int) (b6 : expr_thing) : Nat → Int → Option (Fl ((List Node) × (List expr_thing) × (List expr_thing) × Int × Int) (Bool))
 | 0, _ => none
 | n + 1, v20 =>
 if (decide (v20 < v19)) = true then
 (idx v18 v20).bind fun e2 =>
 (idx v0 b6.at_).bind fun e3 =>
 (idx v0 e2.at_).bind fun e4 =>
 if (e3.text.data.toList == e4.text.data.toList) = true then
 some (Fl.ret false)
 else
 expr_unlike.l5 k v0 v1 v9 v10 v11 v18 v19 b6 n (IntKind.wrap .i64 (v20 + (1 : Int)))
 else
 some (Fl.go (v0, v1, v9, v10, v11))
def expr_unlike.l2 (k : Nat) : Nat → (List Node) → (List expr_thing) → (List expr_thing) → Int → Int → Option (Fl (Unit) (Bool))
 | 0, _, _, _, _, _ => none
 | n + 1, v0, v1, v9, v10, v11 =>
 if (decide (v11 < v10)) = true then
 (idx v9 v11).bind fun e1 =>
 if 0 ≤ (0 : Int) ∧ (0 : Int) ≤ v11 ∧ v11 ≤ (v1.length : Int) then
 (expr_unlike.l5 k v0 v1 v9 v10 v11 (v1.take (v11).toNat) ((v1.take (v11).toNat).length : Int) e1 k (0 : Int)).bind fun o => (match o with
 | .go x5 =>
 expr_unlike.l2 k n x5.1 x5.2.1 x5.2.2.1 x5.2.2.2.1 (IntKind.wrap .i64 (x5.2.2.2.2 + (1 : Int)))
 | .ret x6 =>
 some (Fl.ret x6))
 else none
 else
 some (Fl.go ())
def expr_unlike (k : Nat) (a0 : List Node) (a1 : List expr_thing) : Option (Bool) :=
 (expr_unlike.l2 k k a0 a1 a1 (a1.length : Int) (0 : Int)).bind fun o => (match o with
 | .go x7 =>
 some true
 | .ret x8 =>
 some x8)
def expr_unlike.u (k : Nat) (v : (List Node) × (List expr_thing)) : Option (Bool) := expr_unlike k v.1 v.2
def expr_unlike.G (k : Nat) : Ctx U := ⟨tyOf, bytesOf, fun f xs => none, fun f xs => none, fun d => false⟩
def expr_unlike.l5.L (k : Nat) : ELoopR U := ⟨[.slot 0 (.sl (.st 0)), .slot 1 (.sl (.st 5)), .ptr 6 6 [] (.st 5), .slot 9 (.sl (.st 5)), .slot 10 (.int .i64), .slot 11 (.int .i64), .slot 18 (.sl (.st 5)), .slot 19 (.int .i64), .slot 20 (.int .i64), .box 6 (.st 5) []], 2, [.slot 0 (.sl (.st 0)), .slot 1 (.sl (.st 5)), .slot 9 (.sl (.st 5)), .slot 10 (.int .i64), .slot 11 (.int .i64)], [.slot 4 .bool], fun (v : (List Node) × (List expr_thing) × (List expr_thing) × Int × Int × (List expr_thing) × Int × Int × expr_thing) => expr_unlike.l5 k v.1 v.2.1 v.2.2.1 v.2.2.2.1 v.2.2.2.2.1 v.2.2.2.2.2.1 v.2.2.2.2.2.2.1 v.2.2.2.2.2.2.2.2 k v.2.2.2.2.2.2.2.1⟩
def expr_unlike.l2.L (k : Nat) : ELoopR U := ⟨[.slot 0 (.sl (.st 0)), .slot 1 (.sl (.st 5)), .slot 9 (.sl (.st 5)), .slot 10 (.int .i64), .slot 11 (.int .i64)], 0, [], [.slot 4 .bool], fun (v : (List Node) × (List expr_thing) × (List expr_thing) × Int × Int) => expr_unlike.l2 k k v.1 v.2.1 v.2.2.1 v.2.2.2.1 v.2.2.2.2⟩
def expr_unlike.H (k : Nat) : Hint U := ⟨[], fun i => none, fun i => if i == 26 then some (expr_unlike.l2.L k) else if i == 6758 then some (expr_unlike.l5.L k) else none, fun i => none⟩
theorem expr_unlike.l5.ok (k n : Nat) (v : Vars U (expr_unlike.l5.L k).ks) : loopRT (expr_unlike.G k) (expr_unlike.H k) (pick [true, false, true, false, false, true, true, false, false, true, true, false, false] (bodyOf Tryz.f47)) 6758 (expr_unlike.l5.L k) n v = (fun (v : (List Node) × (List expr_thing) × (List expr_thing) × Int × Int × (List expr_thing) × Int × Int × expr_thing) => expr_unlike.l5 k v.1 v.2.1 v.2.2.1 v.2.2.2.1 v.2.2.2.2.1 v.2.2.2.2.2.1 v.2.2.2.2.2.2.1 v.2.2.2.2.2.2.2.2 n v.2.2.2.2.2.2.2.1) v :=
  loopRT_eq (expr_unlike.G k) (expr_unlike.H k) _ _ (expr_unlike.l5.L k) (fun n (v : (List Node) × (List expr_thing) × (List expr_thing) × Int × Int × (List expr_thing) × Int × Int × expr_thing) => expr_unlike.l5 k v.1 v.2.1 v.2.2.1 v.2.2.2.1 v.2.2.2.2.1 v.2.2.2.2.2.1 v.2.2.2.2.2.2.1 v.2.2.2.2.2.2.2.2 n v.2.2.2.2.2.2.2.1) (fun _ => rfl) (fun n v => by kernel_rfl) n v
theorem expr_unlike.l2.ok (k n : Nat) (v : Vars U (expr_unlike.l2.L k).ks) : loopRT (expr_unlike.G k) (expr_unlike.H k) (pick [true, false, true, false, false] (bodyOf Tryz.f47)) 26 (expr_unlike.l2.L k) n v = (fun (v : (List Node) × (List expr_thing) × (List expr_thing) × Int × Int) => expr_unlike.l2 k n v.1 v.2.1 v.2.2.1 v.2.2.2.1 v.2.2.2.2) v :=
  loopRT_eq (expr_unlike.G k) (expr_unlike.H k) _ _ (expr_unlike.l2.L k) (fun n (v : (List Node) × (List expr_thing) × (List expr_thing) × Int × Int) => expr_unlike.l2 k n v.1 v.2.1 v.2.2.1 v.2.2.2.1 v.2.2.2.2) (fun _ => rfl) (fun n v => by kernel_rfl) n v
theorem expr_unlike.ev (k : Nat) (v : (List Node) × (List expr_thing)) : evFn (expr_unlike.G k) (expr_unlike.H k) expr_unlike.S Tryz.f47 (encA expr_unlike.P v) = expr_unlike.u k v := by kernel_rfl
theorem expr_unlike.fns : Fns Tryz.prog 47 Tryz.f47 expr_unlike.P := ⟨Tryz.func47, by kernel_rfl⟩
theorem expr_unlike.loops (k : Nat) : LoopsOk (expr_unlike.G k) (expr_unlike.H k) (bodyOf Tryz.f47) 1 := loops_of (ps := [(26, pick [true, false, true, false, false] (bodyOf Tryz.f47)), (6758, pick [true, false, true, false, false, true, true, false, false, true, true, false, false] (bodyOf Tryz.f47))]) (by kernel_rfl) ⟨loopR_ok rfl rfl fun v x hx => ⟨k, (expr_unlike.l2.ok k k v).trans hx⟩, ⟨loopR_ok rfl rfl fun v x hx => ⟨k, (expr_unlike.l5.ok k k v).trans hx⟩, trivial⟩⟩
theorem expr_unlike.call (k : Nat) : FnC Tryz.prog U Lay 47 expr_unlike.P expr_unlike.S (expr_unlike.u k) := fnC hLay ulaw gok (fun f xs => (CallC.none : CallC Tryz.prog U Lay _ f xs)) (fun f xs => (CallC2.none : CallC2 Tryz.prog U Lay _ f xs)) expr_unlike.fns (expr_unlike.loops k) (expr_unlike.ev k)
def expr_sortOf (a0 : Int) : Option (Int) :=
 if (decide (a0 ≤ (27 : Int))) = true then
 some (1 : Int)
 else
 if (a0 == (28 : Int)) = true then
 some (2 : Int)
 else
 ((if (a0 == (29 : Int)) = false then
 some (a0 == (37 : Int))
 else some true) : Option Bool).bind fun b1 =>
 if b1 = true then
 some (5 : Int)
 else
 if (a0 == (36 : Int)) = true then
 some (4 : Int)
 else
 some (3 : Int)
def expr_sortOf.u (v : Int) : Option (Int) := expr_sortOf v
def expr_sortOf.G : Ctx U := ⟨tyOf, bytesOf, fun f xs => none, fun f xs => none, fun d => false⟩
def expr_sortOf.H : Hint U := ⟨[], fun i => none, fun i => none, fun i => none⟩
theorem expr_sortOf.ev (v : Int) : evFn (expr_sortOf.G) (expr_sortOf.H) expr_sortOf.S Tryz.f48 (encA expr_sortOf.P v) = expr_sortOf.u v := by kernel_rfl
theorem expr_sortOf.fns : Fns Tryz.prog 48 Tryz.f48 expr_sortOf.P := ⟨Tryz.func48, by kernel_rfl⟩
theorem expr_sortOf.loops : LoopsOk (expr_sortOf.G) (expr_sortOf.H) (bodyOf Tryz.f48) 1 := loops_of (ps := []) (by kernel_rfl) trivial
theorem expr_sortOf.call : FnC Tryz.prog U Lay 48 expr_sortOf.P expr_sortOf.S (expr_sortOf.u) := fnC hLay ulaw gok (fun f xs => (CallC.none : CallC Tryz.prog U Lay _ f xs)) (fun f xs => (CallC2.none : CallC2 Tryz.prog U Lay _ f xs)) expr_sortOf.fns (expr_sortOf.loops) (expr_sortOf.ev)
def expr_Check.l14 (k : Nat) (o11 : Int) (n11 : Int) (o67 : Int) (n67 : Int) (v0 : List Node) (v1 : Bool) (w5 : List expr_thing) (v6 : Int) (v7 : Int) (v18 : List Node) (v19 : Int) (v20 : Int) (v68 : Int) (b8 : Node) : Nat → Int → Int → Option (Fl (Int × Int × (List Node) × Bool × (List expr_thing) × Int × Int × Int × (List Node) × Int × Int × Node) (Int))
 | 0, _, _ => none
 | n + 1, v12, v69 =>
 if (decide (v69 < v68)) = true then
 if 0 ≤ v69 ∧ v69 < n67 then
 (idx w5 (o67 + v69)).bind fun e9 =>
 (expr_wanted b8.op v69).bind fun r10 =>
 if (e9.sort_ != r10) = true then
 some (Fl.ret (2 : Int))
 else
 expr_Check.l14 k o11 n11 o67 n67 v0 v1 w5 v6 v7 v18 v19 v20 v68 b8 n (if e9.depth > v12 then e9.depth else v12) (IntKind.wrap .i64 (v69 + (1 : Int)))
 else none
 else
 some (Fl.go (o11, n11, v0, v1, w5, v6, v7, v12, v18, v19, v20, b8))
def expr_Check.l6 (k : Nat) : Nat → (List Node) → Bool → (List expr_thing) → Int → (List Node) → Int → Int → Option (Fl (Bool × (List expr_thing) × Int) (Int))
 | 0, _, _, _, _, _, _, _ => none
 | n + 1, v0, v1, w5, v6, v18, v19, v20 =>
 if (decide (v20 < v19)) = true then
 (idx v18 v20).bind fun e1 =>
 (expr_plain k e1).bind fun r2 =>
 ((if (!r2.2) = false then
 some (!(r2.1.text.data.toList == (ByteArray.mk #[]).data.toList))
 else some true) : Option Bool).bind fun b3 =>
 ((if b3 = false then
 some (!((r2.1.num.neg == false) && (((r2.1.num.coef.hi == (0 : Int)) && ((r2.1.num.coef.lo == (0 : Int)) && true)) && ((r2.1.num.scale == (0 : Int)) && true))))
 else some true) : Option Bool).bind fun b4 =>
 ((if b4 = false then
 some (r2.1.day != (0 : Int))
 else some true) : Option Bool).bind fun b5 =>
 ((if b5 = false then
 (expr_fits e1).bind fun r6 =>
 some (!r6)
 else some true) : Option Bool).bind fun b7 =>
 ((if b7 = false then
 some (decide (e1.kids > (w5.length : Int)))
 else some true) : Option Bool).bind fun b8 =>
 if b8 = true then
 some (Fl.ret (2 : Int))
 else
 if 0 ≤ (IntKind.wrap .i64 ((w5.length : Int) - e1.kids)) ∧ (IntKind.wrap .i64 ((w5.length : Int) - e1.kids)) ≤ (w5.length : Int) ∧ (w5.length : Int) ≤ (w5.length : Int) then
 (expr_Check.l14 k (IntKind.wrap .i64 ((w5.length : Int) - e1.kids)) ((w5.length : Int) - (IntKind.wrap .i64 ((w5.length : Int) - e1.kids))) (IntKind.wrap .i64 ((w5.length : Int) - e1.kids)) ((w5.length : Int) - (IntKind.wrap .i64 ((w5.length : Int) - e1.kids))) v0 v1 w5 v6 v20 v18 v19 v20 ((w5.length : Int) - (IntKind.wrap .i64 ((w5.length : Int) - e1.kids))) e1 k (0 : Int) (0 : Int)).bind fun o => (match o with
 | .go x11 =>
 ((if (x11.2.2.2.2.2.2.2.2.2.2.2.op == (27 : Int)) = true then
 (expr_unlike k x11.2.2.1 (sub x11.2.2.2.2.1 x11.1 (x11.1 + x11.2.1))).bind fun r13 =>
 some (!r13)
 else some false) : Option Bool).bind fun b14 =>
 if b14 = true then
 some (Fl.ret (2 : Int))
 else
 if 0 ≤ (0 : Int) ∧ (0 : Int) ≤ (IntKind.wrap .i64 ((x11.2.2.2.2.1.length : Int) - x11.2.2.2.2.2.2.2.2.2.2.2.kids)) ∧ (IntKind.wrap .i64 ((x11.2.2.2.2.1.length : Int) - x11.2.2.2.2.2.2.2.2.2.2.2.kids)) ≤ (x11.2.2.2.2.1.length : Int) then
 (expr_sortOf x11.2.2.2.2.2.2.2.2.2.2.2.op).bind fun r15 =>
 if room (((x11.2.2.2.2.1.take ((IntKind.wrap .i64 ((x11.2.2.2.2.1.length : Int) - x11.2.2.2.2.2.2.2.2.2.2.2.kids))).toNat).length + ([(⟨r15, (IntKind.wrap .i64 (x11.2.2.2.2.2.2.2.1 + (1 : Int))), x11.2.2.2.2.2.2.1⟩ : expr_thing)] : List expr_thing).length) * 24) then
 expr_Check.l6 k n x11.2.2.1 x11.2.2.2.1 ((x11.2.2.2.2.1.take ((IntKind.wrap .i64 ((x11.2.2.2.2.1.length : Int) - x11.2.2.2.2.2.2.2.2.2.2.2.kids))).toNat) ++ ([(⟨r15, (IntKind.wrap .i64 (x11.2.2.2.2.2.2.2.1 + (1 : Int))), x11.2.2.2.2.2.2.1⟩ : expr_thing)] : List expr_thing)) (if (IntKind.wrap .i64 (x11.2.2.2.2.2.2.2.1 + (1 : Int))) > x11.2.2.2.2.2.1 then (IntKind.wrap .i64 (x11.2.2.2.2.2.2.2.1 + (1 : Int))) else x11.2.2.2.2.2.1) x11.2.2.2.2.2.2.2.2.1 x11.2.2.2.2.2.2.2.2.2.1 (IntKind.wrap .i64 (x11.2.2.2.2.2.2.2.2.2.2.1 + (1 : Int)))
 else none
 else none
 | .ret x12 =>
 some (Fl.ret x12))
 else none
 else
 some (Fl.go (v1, w5, v6))
def expr_Check (k : Nat) (a0 : List Node) (a1 : Bool) : Option (Int) :=
 if (decide ((a0.length : Int) > (300 : Int))) = true then
 some (6 : Int)
 else
 (expr_Check.l6 k k a0 a1 ([] : List expr_thing) (0 : Int) a0 (a0.length : Int) (0 : Int)).bind fun o => (match o with
 | .go x16 =>
 ((if ((x16.2.1.length : Int) != (1 : Int)) = false then
 ((if x16.1 = true then
 if 0 ≤ (0 : Int) ∧ (0 : Int) < (x16.2.1.length : Int) then
 (idx x16.2.1 (0 : Int)).bind fun e18 =>
 some (e18.sort_ != (4 : Int))
 else none
 else some false) : Option Bool).bind fun b19 =>
 ((if b19 = true then
 if 0 ≤ (0 : Int) ∧ (0 : Int) < (x16.2.1.length : Int) then
 (idx x16.2.1 (0 : Int)).bind fun e20 =>
 some (e20.sort_ != (5 : Int))
 else none
 else some false) : Option Bool).bind fun b21 =>
 some b21
 else some true) : Option Bool).bind fun b22 =>
 ((if b22 = false then
 ((if (!x16.1) = true then
 if 0 ≤ (0 : Int) ∧ (0 : Int) < (x16.2.1.length : Int) then
 (idx x16.2.1 (0 : Int)).bind fun e23 =>
 some (e23.sort_ != (1 : Int))
 else none
 else some false) : Option Bool).bind fun b24 =>
 some b24
 else some true) : Option Bool).bind fun b25 =>
 if b25 = true then
 some (2 : Int)
 else
 if (decide (x16.2.2 > (40 : Int))) = true then
 some (7 : Int)
 else
 some (0 : Int)
 | .ret x17 =>
 some x17)
def expr_Check.u (k : Nat) (v : (List Node) × Bool) : Option (Int) := expr_Check k v.1 v.2
def expr_Check.G (k : Nat) : Ctx U := ⟨tyOf, bytesOf, fun f xs => if f == 44 then entry expr_plain.P expr_plain.S (expr_plain.u k) xs else if f == 45 then entry expr_fits.P expr_fits.S (expr_fits.u) xs else if f == 46 then entry expr_wanted.P expr_wanted.S (expr_wanted.u) xs else if f == 47 then entry expr_unlike.P expr_unlike.S (expr_unlike.u k) xs else if f == 48 then entry expr_sortOf.P expr_sortOf.S (expr_sortOf.u) xs else none, fun f xs => none, fun d => false⟩
def expr_Check.l14.L (k : Nat) : ELoopR U := ⟨[.win 11 5 (.st 5), .win 67 5 (.st 5), .slot 0 (.sl (.st 0)), .slot 1 .bool, .row 5 (.st 5), .slot 6 (.int .i64), .slot 7 (.int .i64), .ptr 8 8 [] (.st 0), .slot 12 (.int .i64), .slot 18 (.sl (.st 0)), .slot 19 (.int .i64), .slot 20 (.int .i64), .slot 68 (.int .i64), .slot 69 (.int .i64), .box 8 (.st 0) []], 2, [.win 11 5 (.st 5), .slot 0 (.sl (.st 0)), .slot 1 .bool, .row 5 (.st 5), .slot 6 (.int .i64), .slot 7 (.int .i64), .ptr 8 8 [] (.st 0), .slot 12 (.int .i64), .slot 18 (.sl (.st 0)), .slot 19 (.int .i64), .slot 20 (.int .i64), .box 8 (.st 0) []], [.slot 4 (.int .i64)], fun (v : Int × Int × Int × Int × (List Node) × Bool × (List expr_thing) × Int × Int × Int × (List Node) × Int × Int × Int × Int × Node) => expr_Check.l14 k v.1 v.2.1 v.2.2.1 v.2.2.2.1 v.2.2.2.2.1 v.2.2.2.2.2.1 v.2.2.2.2.2.2.1 v.2.2.2.2.2.2.2.1 v.2.2.2.2.2.2.2.2.1 v.2.2.2.2.2.2.2.2.2.2.1 v.2.2.2.2.2.2.2.2.2.2.2.1 v.2.2.2.2.2.2.2.2.2.2.2.2.1 v.2.2.2.2.2.2.2.2.2.2.2.2.2.1 v.2.2.2.2.2.2.2.2.2.2.2.2.2.2.2 k v.2.2.2.2.2.2.2.2.2.1 v.2.2.2.2.2.2.2.2.2.2.2.2.2.2.1⟩
def expr_Check.l6.L (k : Nat) : ELoopR U := ⟨[.slot 0 (.sl (.st 0)), .slot 1 .bool, .row 5 (.st 5), .slot 6 (.int .i64), .slot 18 (.sl (.st 0)), .slot 19 (.int .i64), .slot 20 (.int .i64)], 0, [.slot 1 .bool, .row 5 (.st 5), .slot 6 (.int .i64)], [.slot 4 (.int .i64)], fun (v : (List Node) × Bool × (List expr_thing) × Int × (List Node) × Int × Int) => expr_Check.l6 k k v.1 v.2.1 v.2.2.1 v.2.2.2.1 v.2.2.2.2.1 v.2.2.2.2.2.1 v.2.2.2.2.2.2⟩
def expr_Check.H (k : Nat) : Hint U := ⟨[], fun i => none, fun i => if i == 250 then some (expr_Check.l6.L k) else if i == 2051322 then some (expr_Check.l14.L k) else none, fun i => none⟩
theorem expr_Check.l14.ok (k n : Nat) (v : Vars U (expr_Check.l14.L k).ks) : loopRT (expr_Check.G k) (expr_Check.H k) (pick [true, true, true, true, false, true, false, false, true, true, false, false, true, true, true, true, true, false, true, false, false] (bodyOf Tryz.f27)) 2051322 (expr_Check.l14.L k) n v = (fun (v : Int × Int × Int × Int × (List Node) × Bool × (List expr_thing) × Int × Int × Int × (List Node) × Int × Int × Int × Int × Node) => expr_Check.l14 k v.1 v.2.1 v.2.2.1 v.2.2.2.1 v.2.2.2.2.1 v.2.2.2.2.2.1 v.2.2.2.2.2.2.1 v.2.2.2.2.2.2.2.1 v.2.2.2.2.2.2.2.2.1 v.2.2.2.2.2.2.2.2.2.2.1 v.2.2.2.2.2.2.2.2.2.2.2.1 v.2.2.2.2.2.2.2.2.2.2.2.2.1 v.2.2.2.2.2.2.2.2.2.2.2.2.2.1 v.2.2.2.2.2.2.2.2.2.2.2.2.2.2.2 n v.2.2.2.2.2.2.2.2.2.1 v.2.2.2.2.2.2.2.2.2.2.2.2.2.2.1) v :=
  loopRT_eq (expr_Check.G k) (expr_Check.H k) _ _ (expr_Check.l14.L k) (fun n (v : Int × Int × Int × Int × (List Node) × Bool × (List expr_thing) × Int × Int × Int × (List Node) × Int × Int × Int × Int × Node) => expr_Check.l14 k v.1 v.2.1 v.2.2.1 v.2.2.2.1 v.2.2.2.2.1 v.2.2.2.2.2.1 v.2.2.2.2.2.2.1 v.2.2.2.2.2.2.2.1 v.2.2.2.2.2.2.2.2.1 v.2.2.2.2.2.2.2.2.2.2.1 v.2.2.2.2.2.2.2.2.2.2.2.1 v.2.2.2.2.2.2.2.2.2.2.2.2.1 v.2.2.2.2.2.2.2.2.2.2.2.2.2.1 v.2.2.2.2.2.2.2.2.2.2.2.2.2.2.2 n v.2.2.2.2.2.2.2.2.2.1 v.2.2.2.2.2.2.2.2.2.2.2.2.2.2.1) (fun _ => rfl) (fun n v => by kernel_rfl) n v
theorem expr_Check.l6.ok (k n : Nat) (v : Vars U (expr_Check.l6.L k).ks) : loopRT (expr_Check.G k) (expr_Check.H k) (pick [true, true, true, true, false, true, false, false] (bodyOf Tryz.f27)) 250 (expr_Check.l6.L k) n v = (fun (v : (List Node) × Bool × (List expr_thing) × Int × (List Node) × Int × Int) => expr_Check.l6 k n v.1 v.2.1 v.2.2.1 v.2.2.2.1 v.2.2.2.2.1 v.2.2.2.2.2.1 v.2.2.2.2.2.2) v :=
  loopRT_eq (expr_Check.G k) (expr_Check.H k) _ _ (expr_Check.l6.L k) (fun n (v : (List Node) × Bool × (List expr_thing) × Int × (List Node) × Int × Int) => expr_Check.l6 k n v.1 v.2.1 v.2.2.1 v.2.2.2.1 v.2.2.2.2.1 v.2.2.2.2.2.1 v.2.2.2.2.2.2) (fun _ => rfl) (fun n v => by kernel_rfl) n v
theorem expr_Check.ev (k : Nat) (v : (List Node) × Bool) : evFn (expr_Check.G k) (expr_Check.H k) expr_Check.S Tryz.f27 (encA expr_Check.P v) = expr_Check.u k v := by kernel_rfl
theorem expr_Check.fns : Fns Tryz.prog 27 Tryz.f27 expr_Check.P := ⟨Tryz.func27, by kernel_rfl⟩
theorem expr_Check.loops (k : Nat) : LoopsOk (expr_Check.G k) (expr_Check.H k) (bodyOf Tryz.f27) 1 := loops_of (ps := [(250, pick [true, true, true, true, false, true, false, false] (bodyOf Tryz.f27)), (2051322, pick [true, true, true, true, false, true, false, false, true, true, false, false, true, true, true, true, true, false, true, false, false] (bodyOf Tryz.f27))]) (by kernel_rfl) ⟨loopR_ok rfl rfl fun v x hx => ⟨k, (expr_Check.l6.ok k k v).trans hx⟩, ⟨loopR_ok rfl rfl fun v x hx => ⟨k, (expr_Check.l14.ok k k v).trans hx⟩, trivial⟩⟩
theorem expr_Check.call (k : Nat) : FnC Tryz.prog U Lay 27 expr_Check.P expr_Check.S (expr_Check.u k) := fnC hLay ulaw gok (fun f xs => (.ite (.entry (expr_plain.call k)) (.ite (.entry (expr_fits.call)) (.ite (.entry (expr_wanted.call)) (.ite (.entry (expr_unlike.call k)) (.ite (.entry (expr_sortOf.call)) (CallC.none))))) : CallC Tryz.prog U Lay _ f xs)) (fun f xs => (CallC2.none : CallC2 Tryz.prog U Lay _ f xs)) expr_Check.fns (expr_Check.loops k) (expr_Check.ev k)
def value_count.l3 (rec_value_count : Val → Int → Option (Int)) (k : Nat) (v1 : Int) (v9 : List Val) (v10 : Int) : Nat → Int → Int → Option (Int)
 | 0, _, _ => none
 | n + 1, v5, v11 =>
 if (decide (v11 < v10)) = true then
 (idx v9 v11).bind fun e1 =>
 if (decide (v5 > v1)) = true then
 some v5
 else
 (rec_value_count e1 (IntKind.wrap .i64 (v1 - v5))).bind fun r2 =>
 value_count.l3 rec_value_count k v1 v9 v10 n (IntKind.wrap .i64 (v5 + r2)) (IntKind.wrap .i64 (v11 + (1 : Int)))
 else
 some v5
def value_count : Nat → Val → Int → Option (Int)
 | 0, _, _ => none
 | k + 1, a0, a1 =>
 (value_count.l3 (value_count k) k a1 a0.list (a0.list.length : Int) k (1 : Int) (0 : Int)).bind fun x3 =>
 some x3
def value_count.u (k : Nat) (v : Val × Int) : Option (Int) := value_count k v.1 v.2
def value_count.G (k : Nat) : Ctx U := ⟨tyOf, bytesOf, fun f xs => if f == 49 then entry value_count.P value_count.S (value_count.u k) xs else none, fun f xs => none, fun d => false⟩
def value_count.l3.L (k : Nat) : ELoop U := ⟨[.slot 1 (.int .i64), .slot 5 (.int .i64), .slot 9 (.sl (.st 3)), .slot 10 (.int .i64), .slot 11 (.int .i64)], 0, [.slot 5 (.int .i64)], fun (v : Int × Int × (List Val) × Int × Int) => value_count.l3 (value_count k) k v.1 v.2.2.1 v.2.2.2.1 k v.2.1 v.2.2.2.2⟩
def value_count.H (k : Nat) : Hint U := ⟨[], fun i => if i == 58 then some (value_count.l3.L k) else none, fun i => none, fun i => none⟩
theorem value_count.l3.ok (k n : Nat) (v : Vars U (value_count.l3.L k).ks) : loopT (value_count.G k) (value_count.H k) (pick [true, true, false, true, false, false] (bodyOf Tryz.f49)) 58 (value_count.l3.L k) n v = (fun (v : Int × Int × (List Val) × Int × Int) => value_count.l3 (value_count k) k v.1 v.2.2.1 v.2.2.2.1 n v.2.1 v.2.2.2.2) v :=
  loopT_eq (value_count.G k) (value_count.H k) _ _ (value_count.l3.L k) (fun n (v : Int × Int × (List Val) × Int × Int) => value_count.l3 (value_count k) k v.1 v.2.2.1 v.2.2.2.1 n v.2.1 v.2.2.2.2) (fun _ => rfl) (fun n v => by kernel_rfl) n v
theorem value_count.ev (k : Nat) (v : Val × Int) : evFn (value_count.G k) (value_count.H k) value_count.S Tryz.f49 (encA value_count.P v) = value_count.u (k + 1) v := by kernel_rfl
theorem value_count.fns : Fns Tryz.prog 49 Tryz.f49 value_count.P := ⟨Tryz.func49, by kernel_rfl⟩
theorem value_count.loops (k : Nat) : LoopsOk (value_count.G k) (value_count.H k) (bodyOf Tryz.f49) 1 := loops_of (ps := [(58, pick [true, true, false, true, false, false] (bodyOf Tryz.f49))]) (by kernel_rfl) ⟨loopT_ok rfl fun v x hx => ⟨k, (value_count.l3.ok k k v).trans hx⟩, trivial⟩
theorem value_count.call : ∀ (k : Nat), FnC Tryz.prog U Lay 49 value_count.P value_count.S (value_count.u k)
  | 0 => fun _ _ h => nomatch (show none = some _ from h)
  | k + 1 => fnC hLay ulaw gok (fun f xs => (.ite (.entry (value_count.call k)) (CallC.none) : CallC Tryz.prog U Lay _ f xs)) (fun f xs => (CallC2.none : CallC2 Tryz.prog U Lay _ f xs)) value_count.fns (value_count.loops k) (value_count.ev k)
def value_bare (a0 : Val) : Option (Bool) :=
 ((((if a0.yes = true then
 some (a0.kind != (1 : Int))
 else some false) : Option Bool).bind fun b1 =>
 if b1 = true then
 some (Fl.ret false)
 else
 ((if (!((a0.num.neg == false) && (((a0.num.coef.hi == (0 : Int)) && ((a0.num.coef.lo == (0 : Int)) && true)) && ((a0.num.scale == (0 : Int)) && true)))) = true then
 some (a0.kind != (2 : Int))
 else some false) : Option Bool).bind fun b2 =>
 if b2 = true then
 some (Fl.ret false)
 else
 ((if (!(a0.text.data.toList == (ByteArray.mk #[]).data.toList)) = true then
 some (a0.kind != (3 : Int))
 else some false) : Option Bool).bind fun b3 =>
 if b3 = true then
 some (Fl.ret false)
 else
 ((if (a0.day != (0 : Int)) = true then
 some (a0.kind != (4 : Int))
 else some false) : Option Bool).bind fun b4 =>
 if b4 = true then
 some (Fl.ret false)
 else
 ((if (decide ((a0.names.length : Int) > (0 : Int))) = true then
 some (a0.kind != (6 : Int))
 else some false) : Option Bool).bind fun b5 =>
 if b5 = true then
 some (Fl.ret false)
 else
 some (Fl.go a0)) : Option (Fl (Val) (Bool))).bind fun o => (match o with
 | .go j6 =>
 ((if ((j6.list.length : Int) == (0 : Int)) = false then
 some (j6.kind == (5 : Int))
 else some true) : Option Bool).bind fun b8 =>
 ((if b8 = false then
 some (j6.kind == (6 : Int))
 else some true) : Option Bool).bind fun b9 =>
 some b9
 | .ret j7 =>
 some j7)
def value_bare.u (v : Val) : Option (Bool) := value_bare v
def value_bare.G : Ctx U := ⟨tyOf, bytesOf, fun f xs => none, fun f xs => none, fun d => false⟩
def value_bare.H : Hint U := ⟨[], fun i => none, fun i => none, fun i => if i == 6 then some ⟨[.ptr 1 1 [] (.st 3), .box 1 (.st 3) []], some [.slot 2 .bool]⟩ else none⟩
theorem value_bare.ev (v : Val) : evFn (value_bare.G) (value_bare.H) value_bare.S Tryz.f73 (encA value_bare.P v) = value_bare.u v := by kernel_rfl
theorem value_bare.fns : Fns Tryz.prog 73 Tryz.f73 value_bare.P := ⟨Tryz.func73, by kernel_rfl⟩
theorem value_bare.loops : LoopsOk (value_bare.G) (value_bare.H) (bodyOf Tryz.f73) 1 := loops_of (ps := []) (by kernel_rfl) trivial
theorem value_bare.call : FnC Tryz.prog U Lay 73 value_bare.P value_bare.S (value_bare.u) := fnC hLay ulaw gok (fun f xs => (CallC.none : CallC Tryz.prog U Lay _ f xs)) (fun f xs => (CallC2.none : CallC2 Tryz.prog U Lay _ f xs)) value_bare.fns (value_bare.loops) (value_bare.ev)
def slices_Index.l2 (k : Nat) (v0 : List ByteArray) (v1 : ByteArray) (v7 : Int) : Nat → Int → Option (Fl (Unit) (Int))
 | 0, _ => none
 | n + 1, v8 =>
 if (decide (v8 < v7)) = true then
 (idx v0 v8).bind fun e1 =>
 if (v1.data.toList == e1.data.toList) = true then
 some (Fl.ret v8)
 else
 slices_Index.l2 k v0 v1 v7 n (IntKind.wrap .i64 (v8 + (1 : Int)))
 else
 some (Fl.go ())
def slices_Index (k : Nat) (a0 : List ByteArray) (a1 : ByteArray) : Option (Int) :=
 (slices_Index.l2 k a0 a1 (a0.length : Int) k (0 : Int)).bind fun o => (match o with
 | .go x2 =>
 some (-1 : Int)
 | .ret x3 =>
 some x3)
def slices_Index.u (k : Nat) (v : (List ByteArray) × ByteArray) : Option (Int) := slices_Index k v.1 v.2
def slices_Index.G (k : Nat) : Ctx U := ⟨tyOf, bytesOf, fun f xs => none, fun f xs => none, fun d => false⟩
def slices_Index.l2.L (k : Nat) : ELoopR U := ⟨[.slot 0 (.sl .str), .slot 1 .str, .slot 7 (.int .i64), .slot 8 (.int .i64)], 0, [], [.slot 4 (.int .i64)], fun (v : (List ByteArray) × ByteArray × Int × Int) => slices_Index.l2 k v.1 v.2.1 v.2.2.1 k v.2.2.2⟩
def slices_Index.H (k : Nat) : Hint U := ⟨[], fun i => none, fun i => if i == 26 then some (slices_Index.l2.L k) else none, fun i => none⟩
theorem slices_Index.l2.ok (k n : Nat) (v : Vars U (slices_Index.l2.L k).ks) : loopRT (slices_Index.G k) (slices_Index.H k) (pick [true, false, true, false, false] (bodyOf Tryz.f141)) 26 (slices_Index.l2.L k) n v = (fun (v : (List ByteArray) × ByteArray × Int × Int) => slices_Index.l2 k v.1 v.2.1 v.2.2.1 n v.2.2.2) v :=
  loopRT_eq (slices_Index.G k) (slices_Index.H k) _ _ (slices_Index.l2.L k) (fun n (v : (List ByteArray) × ByteArray × Int × Int) => slices_Index.l2 k v.1 v.2.1 v.2.2.1 n v.2.2.2) (fun _ => rfl) (fun n v => by kernel_rfl) n v
theorem slices_Index.ev (k : Nat) (v : (List ByteArray) × ByteArray) : evFn (slices_Index.G k) (slices_Index.H k) slices_Index.S Tryz.f141 (encA slices_Index.P v) = slices_Index.u k v := by kernel_rfl
theorem slices_Index.fns : Fns Tryz.prog 141 Tryz.f141 slices_Index.P := ⟨Tryz.func141, by kernel_rfl⟩
theorem slices_Index.loops (k : Nat) : LoopsOk (slices_Index.G k) (slices_Index.H k) (bodyOf Tryz.f141) 1 := loops_of (ps := [(26, pick [true, false, true, false, false] (bodyOf Tryz.f141))]) (by kernel_rfl) ⟨loopR_ok rfl rfl fun v x hx => ⟨k, (slices_Index.l2.ok k k v).trans hx⟩, trivial⟩
theorem slices_Index.call (k : Nat) : FnC Tryz.prog U Lay 141 slices_Index.P slices_Index.S (slices_Index.u k) := fnC hLay ulaw gok (fun f xs => (CallC.none : CallC Tryz.prog U Lay _ f xs)) (fun f xs => (CallC2.none : CallC2 Tryz.prog U Lay _ f xs)) slices_Index.fns (slices_Index.loops k) (slices_Index.ev k)
def slices_Contains (k : Nat) (a0 : List ByteArray) (a1 : ByteArray) : Option (Bool) :=
 (slices_Index k a0 a1).bind fun r1 =>
 some (decide (r1 ≥ (0 : Int)))
def slices_Contains.u (k : Nat) (v : (List ByteArray) × ByteArray) : Option (Bool) := slices_Contains k v.1 v.2
def slices_Contains.G (k : Nat) : Ctx U := ⟨tyOf, bytesOf, fun f xs => if f == 141 then entry slices_Index.P slices_Index.S (slices_Index.u k) xs else none, fun f xs => none, fun d => false⟩
def slices_Contains.H (k : Nat) : Hint U := ⟨[], fun i => none, fun i => none, fun i => none⟩
theorem slices_Contains.ev (k : Nat) (v : (List ByteArray) × ByteArray) : evFn (slices_Contains.G k) (slices_Contains.H k) slices_Contains.S Tryz.f110 (encA slices_Contains.P v) = slices_Contains.u k v := by kernel_rfl
theorem slices_Contains.fns : Fns Tryz.prog 110 Tryz.f110 slices_Contains.P := ⟨Tryz.func110, by kernel_rfl⟩
theorem slices_Contains.loops (k : Nat) : LoopsOk (slices_Contains.G k) (slices_Contains.H k) (bodyOf Tryz.f110) 1 := loops_of (ps := []) (by kernel_rfl) trivial
theorem slices_Contains.call (k : Nat) : FnC Tryz.prog U Lay 110 slices_Contains.P slices_Contains.S (slices_Contains.u k) := fnC hLay ulaw gok (fun f xs => (.ite (.entry (slices_Index.call k)) (CallC.none) : CallC Tryz.prog U Lay _ f xs)) (fun f xs => (CallC2.none : CallC2 Tryz.prog U Lay _ f xs)) slices_Contains.fns (slices_Contains.loops k) (slices_Contains.ev k)
def value_names.l2 (k : Nat) (v0 : List ByteArray) (v5 : List ByteArray) (v6 : Int) : Nat → Int → Option (Fl (Unit) (Bool))
 | 0, _ => none
 | n + 1, v7 =>
 if (decide (v7 < v6)) = true then
 (idx v5 v7).bind fun e1 =>
 (chars_Name k e1).bind fun r2 =>
 ((if (!r2) = false then
 if 0 ≤ (0 : Int) ∧ (0 : Int) ≤ v7 ∧ v7 ≤ (v0.length : Int) then
 (slices_Contains k (v0.take (v7).toNat) e1).bind fun r3 =>
 some r3
 else none
 else some true) : Option Bool).bind fun b4 =>
 if b4 = true then
 some (Fl.ret false)
 else
 value_names.l2 k v0 v5 v6 n (IntKind.wrap .i64 (v7 + (1 : Int)))
 else
 some (Fl.go ())
def value_names (k : Nat) (a0 : List ByteArray) : Option (Bool) :=
 (value_names.l2 k a0 a0 (a0.length : Int) k (0 : Int)).bind fun o => (match o with
 | .go x5 =>
 some true
 | .ret x6 =>
 some x6)
def value_names.u (k : Nat) (v : (List ByteArray)) : Option (Bool) := value_names k v
def value_names.G (k : Nat) : Ctx U := ⟨tyOf, bytesOf, fun f xs => if f == 71 then entry chars_Name.P chars_Name.S (chars_Name.u k) xs else if f == 110 then entry slices_Contains.P slices_Contains.S (slices_Contains.u k) xs else none, fun f xs => none, fun d => false⟩
def value_names.l2.L (k : Nat) : ELoopR U := ⟨[.slot 0 (.sl .str), .slot 5 (.sl .str), .slot 6 (.int .i64), .slot 7 (.int .i64)], 0, [], [.slot 2 .bool], fun (v : (List ByteArray) × (List ByteArray) × Int × Int) => value_names.l2 k v.1 v.2.1 v.2.2.1 k v.2.2.2⟩
def value_names.H (k : Nat) : Hint U := ⟨[], fun i => none, fun i => if i == 26 then some (value_names.l2.L k) else none, fun i => none⟩
theorem value_names.l2.ok (k n : Nat) (v : Vars U (value_names.l2.L k).ks) : loopRT (value_names.G k) (value_names.H k) (pick [true, false, true, false, false] (bodyOf Tryz.f74)) 26 (value_names.l2.L k) n v = (fun (v : (List ByteArray) × (List ByteArray) × Int × Int) => value_names.l2 k v.1 v.2.1 v.2.2.1 n v.2.2.2) v :=
  loopRT_eq (value_names.G k) (value_names.H k) _ _ (value_names.l2.L k) (fun n (v : (List ByteArray) × (List ByteArray) × Int × Int) => value_names.l2 k v.1 v.2.1 v.2.2.1 n v.2.2.2) (fun _ => rfl) (fun n v => by kernel_rfl) n v
theorem value_names.ev (k : Nat) (v : (List ByteArray)) : evFn (value_names.G k) (value_names.H k) value_names.S Tryz.f74 (encA value_names.P v) = value_names.u k v := by kernel_rfl
theorem value_names.fns : Fns Tryz.prog 74 Tryz.f74 value_names.P := ⟨Tryz.func74, by kernel_rfl⟩
theorem value_names.loops (k : Nat) : LoopsOk (value_names.G k) (value_names.H k) (bodyOf Tryz.f74) 1 := loops_of (ps := [(26, pick [true, false, true, false, false] (bodyOf Tryz.f74))]) (by kernel_rfl) ⟨loopR_ok rfl rfl fun v x hx => ⟨k, (value_names.l2.ok k k v).trans hx⟩, trivial⟩
theorem value_names.call (k : Nat) : FnC Tryz.prog U Lay 74 value_names.P value_names.S (value_names.u k) := fnC hLay ulaw gok (fun f xs => (.ite (.entry (chars_Name.call k)) (.ite (.entry (slices_Contains.call k)) (CallC.none)) : CallC Tryz.prog U Lay _ f xs)) (fun f xs => (CallC2.none : CallC2 Tryz.prog U Lay _ f xs)) value_names.fns (value_names.loops k) (value_names.ev k)
def value_shape.l17 (rec_value_shape : Val → Option (Int × Bool)) (k : Nat) (v71 : List Val) (v72 : Int) : Nat → Bool → Int → Int → Option (Bool × Int)
 | 0, _, _, _ => none
 | n + 1, v4, v5, v73 =>
 if (decide (v73 < v72)) = true then
 (idx v71 v73).bind fun e13 =>
 (rec_value_shape e13).bind fun r14 =>
 ((if v4 = true then
 some r14.2
 else some false) : Option Bool).bind fun b15 =>
 value_shape.l17 rec_value_shape k v71 v72 n b15 (if r14.1 > v5 then r14.1 else v5) (IntKind.wrap .i64 (v73 + (1 : Int)))
 else
 some (v4, v5)
def value_shape : Nat → Val → Option (Int × Bool)
 | 0, _ => none
 | k + 1, a0 =>
 (value_bare a0).bind fun r1 =>
 ((if (a0.kind == (0 : Int)) = true then
 some (r1, a0)
 else
 if (a0.kind == (1 : Int)) = true then
 some (r1, a0)
 else
 if (a0.kind == (5 : Int)) = true then
 some (r1, a0)
 else
 if (a0.kind == (2 : Int)) = true then
 ((if r1 = true then
 (dec_Form k a0.num).bind fun r2 =>
 some r2
 else some false) : Option Bool).bind fun b3 =>
 some (b3, a0)
 else
 if (a0.kind == (3 : Int)) = true then
 ((if r1 = true then
 some (decide ((a0.text.size : Int) ≤ (1000 : Int)))
 else some false) : Option Bool).bind fun b4 =>
 ((if b4 = true then
 (chars_Valid a0.text).bind fun r5 =>
 some r5
 else some false) : Option Bool).bind fun b6 =>
 some (b6, a0)
 else
 if (a0.kind == (4 : Int)) = true then
 ((if r1 = true then
 some (decide (a0.day ≥ (1 : Int)))
 else some false) : Option Bool).bind fun b7 =>
 ((if b7 = true then
 some (decide (a0.day ≤ (3652059 : Int)))
 else some false) : Option Bool).bind fun b8 =>
 some (b8, a0)
 else
 if (a0.kind == (6 : Int)) = true then
 ((if r1 = true then
 some ((a0.names.length : Int) == (a0.list.length : Int))
 else some false) : Option Bool).bind fun b9 =>
 ((if b9 = true then
 (value_names k a0.names).bind fun r10 =>
 some r10
 else some false) : Option Bool).bind fun b11 =>
 some (b11, a0)
 else
 some (false, a0)) : Option (Bool × Val)).bind fun j12 =>
 (value_shape.l17 (value_shape k) k j12.2.list (j12.2.list.length : Int) k j12.1 (0 : Int) (0 : Int)).bind fun x16 =>
 some ((IntKind.wrap .i64 (x16.2 + (1 : Int))), x16.1)
def value_shape.u (k : Nat) (v : Val) : Option (Int × Bool) := value_shape k v
def value_shape.G (k : Nat) : Ctx U := ⟨tyOf, bytesOf, fun f xs => if f == 73 then entry value_bare.P value_bare.S (value_bare.u) xs else if f == 69 then entry dec_Form.P dec_Form.S (dec_Form.u k) xs else if f == 70 then entry chars_Valid.P chars_Valid.S (chars_Valid.u) xs else if f == 74 then entry value_names.P value_names.S (value_names.u k) xs else if f == 50 then entry value_shape.P value_shape.S (value_shape.u k) xs else none, fun f xs => none, fun d => false⟩
def value_shape.l17.L (k : Nat) : ELoop U := ⟨[.slot 4 .bool, .slot 5 (.int .i64), .slot 71 (.sl (.st 3)), .slot 72 (.int .i64), .slot 73 (.int .i64)], 1, [.slot 4 .bool, .slot 5 (.int .i64)], fun (v : Bool × Int × (List Val) × Int × Int) => value_shape.l17 (value_shape k) k v.2.2.1 v.2.2.2.1 k v.1 v.2.1 v.2.2.2.2⟩
def value_shape.H (k : Nat) : Hint U := ⟨[], fun i => if i == 250 then some (value_shape.l17.L k) else none, fun i => none, fun i => if i == 29 then some ⟨[.ptr 1 1 [] (.st 3), .slot 4 .bool, .box 1 (.st 3) []], none⟩ else none⟩
theorem value_shape.l17.ok (k n : Nat) (v : Vars U (value_shape.l17.L k).ks) : loopT (value_shape.G k) (value_shape.H k) (pick [true, true, true, true, false, true, false, false] (bodyOf Tryz.f50)) 250 (value_shape.l17.L k) n v = (fun (v : Bool × Int × (List Val) × Int × Int) => value_shape.l17 (value_shape k) k v.2.2.1 v.2.2.2.1 n v.1 v.2.1 v.2.2.2.2) v :=
  loopT_eq (value_shape.G k) (value_shape.H k) _ _ (value_shape.l17.L k) (fun n (v : Bool × Int × (List Val) × Int × Int) => value_shape.l17 (value_shape k) k v.2.2.1 v.2.2.2.1 n v.1 v.2.1 v.2.2.2.2) (fun _ => rfl) (fun n v => by kernel_rfl) n v
theorem value_shape.ev (k : Nat) (v : Val) : evFn (value_shape.G k) (value_shape.H k) value_shape.S Tryz.f50 (encA value_shape.P v) = value_shape.u (k + 1) v := by kernel_rfl
theorem value_shape.fns : Fns Tryz.prog 50 Tryz.f50 value_shape.P := ⟨Tryz.func50, by kernel_rfl⟩
theorem value_shape.loops (k : Nat) : LoopsOk (value_shape.G k) (value_shape.H k) (bodyOf Tryz.f50) 1 := loops_of (ps := [(250, pick [true, true, true, true, false, true, false, false] (bodyOf Tryz.f50))]) (by kernel_rfl) ⟨loopT_ok rfl fun v x hx => ⟨k, (value_shape.l17.ok k k v).trans hx⟩, trivial⟩
theorem value_shape.call : ∀ (k : Nat), FnC Tryz.prog U Lay 50 value_shape.P value_shape.S (value_shape.u k)
  | 0 => fun _ _ h => nomatch (show none = some _ from h)
  | k + 1 => fnC hLay ulaw gok (fun f xs => (.ite (.entry (value_bare.call)) (.ite (.entry (dec_Form.call k)) (.ite (.entry (chars_Valid.call)) (.ite (.entry (value_names.call k)) (.ite (.entry (value_shape.call k)) (CallC.none))))) : CallC Tryz.prog U Lay _ f xs)) (fun f xs => (CallC2.none : CallC2 Tryz.prog U Lay _ f xs)) value_shape.fns (value_shape.loops k) (value_shape.ev k)
def value_Check (k : Nat) (a0 : Val) : Option (Int) :=
 (value_count k a0 (1000 : Int)).bind fun r1 =>
 if (decide (r1 > (1000 : Int))) = true then
 some (6 : Int)
 else
 (value_shape k a0).bind fun r2 =>
 if (decide (r2.1 > (16 : Int))) = true then
 some (7 : Int)
 else
 if (!r2.2) = true then
 some (2 : Int)
 else
 some (0 : Int)
def value_Check.u (k : Nat) (v : Val) : Option (Int) := value_Check k v
def value_Check.G (k : Nat) : Ctx U := ⟨tyOf, bytesOf, fun f xs => if f == 49 then entry value_count.P value_count.S (value_count.u k) xs else if f == 50 then entry value_shape.P value_shape.S (value_shape.u k) xs else none, fun f xs => none, fun d => false⟩
def value_Check.H (k : Nat) : Hint U := ⟨[], fun i => none, fun i => none, fun i => none⟩
theorem value_Check.ev (k : Nat) (v : Val) : evFn (value_Check.G k) (value_Check.H k) value_Check.S Tryz.f28 (encA value_Check.P v) = value_Check.u k v := by kernel_rfl
theorem value_Check.fns : Fns Tryz.prog 28 Tryz.f28 value_Check.P := ⟨Tryz.func28, by kernel_rfl⟩
theorem value_Check.loops (k : Nat) : LoopsOk (value_Check.G k) (value_Check.H k) (bodyOf Tryz.f28) 1 := loops_of (ps := []) (by kernel_rfl) trivial
theorem value_Check.call (k : Nat) : FnC Tryz.prog U Lay 28 value_Check.P value_Check.S (value_Check.u k) := fnC hLay ulaw gok (fun f xs => (.ite (.entry (value_count.call k)) (.ite (.entry (value_shape.call k)) (CallC.none)) : CallC Tryz.prog U Lay _ f xs)) (fun f xs => (CallC2.none : CallC2 Tryz.prog U Lay _ f xs)) value_Check.fns (value_Check.loops k) (value_Check.ev k)
def dec_formed.l2 (k : Nat) (v5 : List Dec) (v6 : Int) : Nat → Int → Option (Fl (Unit) (Int))
 | 0, _ => none
 | n + 1, v7 =>
 if (decide (v7 < v6)) = true then
 (idx v5 v7).bind fun e1 =>
 (dec_Form k e1).bind fun r2 =>
 if (!r2) = true then
 some (Fl.ret (2 : Int))
 else
 dec_formed.l2 k v5 v6 n (IntKind.wrap .i64 (v7 + (1 : Int)))
 else
 some (Fl.go ())
def dec_formed (k : Nat) (a0 : List Dec) : Option (Int) :=
 (dec_formed.l2 k a0 (a0.length : Int) k (0 : Int)).bind fun o => (match o with
 | .go x3 =>
 some (0 : Int)
 | .ret x4 =>
 some x4)
def dec_formed.u (k : Nat) (v : (List Dec)) : Option (Int) := dec_formed k v
def dec_formed.G (k : Nat) : Ctx U := ⟨tyOf, bytesOf, fun f xs => if f == 69 then entry dec_Form.P dec_Form.S (dec_Form.u k) xs else none, fun f xs => none, fun d => false⟩
def dec_formed.l2.L (k : Nat) : ELoopR U := ⟨[.slot 5 (.sl (.st 1)), .slot 6 (.int .i64), .slot 7 (.int .i64)], 0, [], [.slot 2 (.int .i64)], fun (v : (List Dec) × Int × Int) => dec_formed.l2 k v.1 v.2.1 k v.2.2⟩
def dec_formed.H (k : Nat) : Hint U := ⟨[], fun i => none, fun i => if i == 26 then some (dec_formed.l2.L k) else none, fun i => none⟩
theorem dec_formed.l2.ok (k n : Nat) (v : Vars U (dec_formed.l2.L k).ks) : loopRT (dec_formed.G k) (dec_formed.H k) (pick [true, false, true, false, false] (bodyOf Tryz.f111)) 26 (dec_formed.l2.L k) n v = (fun (v : (List Dec) × Int × Int) => dec_formed.l2 k v.1 v.2.1 n v.2.2) v :=
  loopRT_eq (dec_formed.G k) (dec_formed.H k) _ _ (dec_formed.l2.L k) (fun n (v : (List Dec) × Int × Int) => dec_formed.l2 k v.1 v.2.1 n v.2.2) (fun _ => rfl) (fun n v => by kernel_rfl) n v
theorem dec_formed.ev (k : Nat) (v : (List Dec)) : evFn (dec_formed.G k) (dec_formed.H k) dec_formed.S Tryz.f111 (encA dec_formed.P v) = dec_formed.u k v := by kernel_rfl
theorem dec_formed.fns : Fns Tryz.prog 111 Tryz.f111 dec_formed.P := ⟨Tryz.func111, by kernel_rfl⟩
theorem dec_formed.loops (k : Nat) : LoopsOk (dec_formed.G k) (dec_formed.H k) (bodyOf Tryz.f111) 1 := loops_of (ps := [(26, pick [true, false, true, false, false] (bodyOf Tryz.f111))]) (by kernel_rfl) ⟨loopR_ok rfl rfl fun v x hx => ⟨k, (dec_formed.l2.ok k k v).trans hx⟩, trivial⟩
theorem dec_formed.call (k : Nat) : FnC Tryz.prog U Lay 111 dec_formed.P dec_formed.S (dec_formed.u k) := fnC hLay ulaw gok (fun f xs => (.ite (.entry (dec_Form.call k)) (CallC.none) : CallC Tryz.prog U Lay _ f xs)) (fun f xs => (CallC2.none : CallC2 Tryz.prog U Lay _ f xs)) dec_formed.fns (dec_formed.loops k) (dec_formed.ev k)
def dec_turned (a0 : Dec) : Option (Dec) :=
 ((if (!a0.neg) = true then
 (dec_zero a0).bind fun r1 =>
 some (!r1)
 else some false) : Option Bool).bind fun b2 =>
 some (⟨b2, a0.coef, a0.scale⟩ : Dec)
def dec_turned.u (v : Dec) : Option (Dec) := dec_turned v
def dec_turned.G : Ctx U := ⟨tyOf, bytesOf, fun f xs => if f == 103 then entry dec_zero.P dec_zero.S (dec_zero.u) xs else none, fun f xs => none, fun d => false⟩
def dec_turned.H : Hint U := ⟨[], fun i => none, fun i => none, fun i => none⟩
theorem dec_turned.ev (v : Dec) : evFn (dec_turned.G) (dec_turned.H) dec_turned.S Tryz.f112 (encA dec_turned.P v) = dec_turned.u v := by kernel_rfl
theorem dec_turned.fns : Fns Tryz.prog 112 Tryz.f112 dec_turned.P := ⟨Tryz.func112, by kernel_rfl⟩
theorem dec_turned.loops : LoopsOk (dec_turned.G) (dec_turned.H) (bodyOf Tryz.f112) 1 := loops_of (ps := []) (by kernel_rfl) trivial
theorem dec_turned.call : FnC Tryz.prog U Lay 112 dec_turned.P dec_turned.S (dec_turned.u) := fnC hLay ulaw gok (fun f xs => (.ite (.entry (dec_zero.call)) (CallC.none) : CallC Tryz.prog U Lay _ f xs)) (fun f xs => (CallC2.none : CallC2 Tryz.prog U Lay _ f xs)) dec_turned.fns (dec_turned.loops) (dec_turned.ev)
def dec_Neg (k : Nat) (a0 : Dec) : Option (Dec × Int) :=
 (dec_formed k ([a0] : List Dec)).bind fun r1 =>
 if (r1 != (0 : Int)) = true then
 some ((⟨false, (⟨(0 : Int), (0 : Int)⟩ : Wide), (0 : Int)⟩ : Dec), r1)
 else
 (dec_turned a0).bind fun r2 =>
 some (r2, (0 : Int))
def dec_Neg.u (k : Nat) (v : Dec) : Option (Dec × Int) := dec_Neg k v
def dec_Neg.G (k : Nat) : Ctx U := ⟨tyOf, bytesOf, fun f xs => if f == 111 then entry dec_formed.P dec_formed.S (dec_formed.u k) xs else if f == 112 then entry dec_turned.P dec_turned.S (dec_turned.u) xs else none, fun f xs => none, fun d => false⟩
def dec_Neg.H (k : Nat) : Hint U := ⟨[], fun i => none, fun i => none, fun i => none⟩
theorem dec_Neg.ev (k : Nat) (v : Dec) : evFn (dec_Neg.G k) (dec_Neg.H k) dec_Neg.S Tryz.f75 (encA dec_Neg.P v) = dec_Neg.u k v := by kernel_rfl
theorem dec_Neg.fns : Fns Tryz.prog 75 Tryz.f75 dec_Neg.P := ⟨Tryz.func75, by kernel_rfl⟩
theorem dec_Neg.loops (k : Nat) : LoopsOk (dec_Neg.G k) (dec_Neg.H k) (bodyOf Tryz.f75) 1 := loops_of (ps := []) (by kernel_rfl) trivial
theorem dec_Neg.call (k : Nat) : FnC Tryz.prog U Lay 75 dec_Neg.P dec_Neg.S (dec_Neg.u k) := fnC hLay ulaw gok (fun f xs => (.ite (.entry (dec_formed.call k)) (.ite (.entry (dec_turned.call)) (CallC.none)) : CallC Tryz.prog U Lay _ f xs)) (fun f xs => (CallC2.none : CallC2 Tryz.prog U Lay _ f xs)) dec_Neg.fns (dec_Neg.loops k) (dec_Neg.ev k)
def unary_truth (a0 : Bool) : Option (Val) :=
 some (⟨(1 : Int), a0, (⟨false, (⟨(0 : Int), (0 : Int)⟩ : Wide), (0 : Int)⟩ : Dec), ByteArray.empty, (0 : Int), ([] : List Val), ([] : List ByteArray)⟩ : Val)
def unary_truth.u (v : Bool) : Option (Val) := unary_truth v
def unary_truth.G : Ctx U := ⟨tyOf, bytesOf, fun f xs => none, fun f xs => none, fun d => false⟩
def unary_truth.H : Hint U := ⟨[], fun i => none, fun i => none, fun i => none⟩
theorem unary_truth.ev (v : Bool) : evFn (unary_truth.G) (unary_truth.H) unary_truth.S Tryz.f76 (encA unary_truth.P v) = unary_truth.u v := by kernel_rfl
theorem unary_truth.fns : Fns Tryz.prog 76 Tryz.f76 unary_truth.P := ⟨Tryz.func76, by kernel_rfl⟩
theorem unary_truth.loops : LoopsOk (unary_truth.G) (unary_truth.H) (bodyOf Tryz.f76) 1 := loops_of (ps := []) (by kernel_rfl) trivial
theorem unary_truth.call : FnC Tryz.prog U Lay 76 unary_truth.P unary_truth.S (unary_truth.u) := fnC hLay ulaw gok (fun f xs => (CallC.none : CallC Tryz.prog U Lay _ f xs)) (fun f xs => (CallC2.none : CallC2 Tryz.prog U Lay _ f xs)) unary_truth.fns (unary_truth.loops) (unary_truth.ev)
def unary_machine_pop (a0 : unary_machine) (a1 : Int) : Option ((List Val) × unary_machine) :=
 if 0 ≤ (IntKind.wrap .i64 ((a0.stack.length : Int) - a1)) ∧ (IntKind.wrap .i64 ((a0.stack.length : Int) - a1)) ≤ (a0.stack.length : Int) ∧ (a0.stack.length : Int) ≤ (a0.stack.length : Int) then
 if room ((([] : List Val).length + (sub a0.stack (IntKind.wrap .i64 ((a0.stack.length : Int) - a1)) ((IntKind.wrap .i64 ((a0.stack.length : Int) - a1)) + ((a0.stack.length : Int) - (IntKind.wrap .i64 ((a0.stack.length : Int) - a1))))).length) * 120) then
 if 0 ≤ (0 : Int) ∧ (0 : Int) ≤ (IntKind.wrap .i64 ((a0.stack.length : Int) - a1)) ∧ (IntKind.wrap .i64 ((a0.stack.length : Int) - a1)) ≤ (a0.stack.length : Int) then
 some ((([] : List Val) ++ (sub a0.stack (IntKind.wrap .i64 ((a0.stack.length : Int) - a1)) ((IntKind.wrap .i64 ((a0.stack.length : Int) - a1)) + ((a0.stack.length : Int) - (IntKind.wrap .i64 ((a0.stack.length : Int) - a1)))))), (⟨a0.v, (a0.stack.take ((IntKind.wrap .i64 ((a0.stack.length : Int) - a1))).toNat), a0.ends, a0.is, a0.asked⟩ : unary_machine))
 else none
 else none
 else none
def unary_machine_pop.u (v : unary_machine × Int) : Option ((List Val) × unary_machine) := unary_machine_pop v.1 v.2
def unary_machine_pop.G : Ctx U := ⟨tyOf, bytesOf, fun f xs => none, fun f xs => none, fun d => false⟩
def unary_machine_pop.H : Hint U := ⟨[], fun i => none, fun i => none, fun i => none⟩
theorem unary_machine_pop.ev (v : unary_machine × Int) : evFn (unary_machine_pop.G) (unary_machine_pop.H) unary_machine_pop.S Tryz.f77 (encA unary_machine_pop.P v) = unary_machine_pop.u v := by kernel_rfl
theorem unary_machine_pop.fns : Fns Tryz.prog 77 Tryz.f77 unary_machine_pop.P := ⟨Tryz.func77, by kernel_rfl⟩
theorem unary_machine_pop.loops : LoopsOk (unary_machine_pop.G) (unary_machine_pop.H) (bodyOf Tryz.f77) 1 := loops_of (ps := []) (by kernel_rfl) trivial
theorem unary_machine_pop.call : FnC Tryz.prog U Lay 77 unary_machine_pop.P unary_machine_pop.S (unary_machine_pop.u) := fnC hLay ulaw gok (fun f xs => (CallC.none : CallC Tryz.prog U Lay _ f xs)) (fun f xs => (CallC2.none : CallC2 Tryz.prog U Lay _ f xs)) unary_machine_pop.fns (unary_machine_pop.loops) (unary_machine_pop.ev)
def value_checks.l2 (k : Nat) (v6 : List Val) (v7 : Int) : Nat → Int → Option (Fl (Unit) (Int))
 | 0, _ => none
 | n + 1, v8 =>
 if (decide (v8 < v7)) = true then
 (idx v6 v8).bind fun e1 =>
 (value_Check k e1).bind fun r2 =>
 if (r2 != (0 : Int)) = true then
 some (Fl.ret r2)
 else
 value_checks.l2 k v6 v7 n (IntKind.wrap .i64 (v8 + (1 : Int)))
 else
 some (Fl.go ())
def value_checks (k : Nat) (a0 : List Val) : Option (Int) :=
 (value_checks.l2 k a0 (a0.length : Int) k (0 : Int)).bind fun o => (match o with
 | .go x3 =>
 some (0 : Int)
 | .ret x4 =>
 some x4)
def value_checks.u (k : Nat) (v : (List Val)) : Option (Int) := value_checks k v
def value_checks.G (k : Nat) : Ctx U := ⟨tyOf, bytesOf, fun f xs => if f == 28 then entry value_Check.P value_Check.S (value_Check.u k) xs else none, fun f xs => none, fun d => false⟩
def value_checks.l2.L (k : Nat) : ELoopR U := ⟨[.slot 6 (.sl (.st 3)), .slot 7 (.int .i64), .slot 8 (.int .i64)], 0, [], [.slot 2 (.int .i64)], fun (v : (List Val) × Int × Int) => value_checks.l2 k v.1 v.2.1 k v.2.2⟩
def value_checks.H (k : Nat) : Hint U := ⟨[], fun i => none, fun i => if i == 26 then some (value_checks.l2.L k) else none, fun i => none⟩
theorem value_checks.l2.ok (k n : Nat) (v : Vars U (value_checks.l2.L k).ks) : loopRT (value_checks.G k) (value_checks.H k) (pick [true, false, true, false, false] (bodyOf Tryz.f114)) 26 (value_checks.l2.L k) n v = (fun (v : (List Val) × Int × Int) => value_checks.l2 k v.1 v.2.1 n v.2.2) v :=
  loopRT_eq (value_checks.G k) (value_checks.H k) _ _ (value_checks.l2.L k) (fun n (v : (List Val) × Int × Int) => value_checks.l2 k v.1 v.2.1 n v.2.2) (fun _ => rfl) (fun n v => by kernel_rfl) n v
theorem value_checks.ev (k : Nat) (v : (List Val)) : evFn (value_checks.G k) (value_checks.H k) value_checks.S Tryz.f114 (encA value_checks.P v) = value_checks.u k v := by kernel_rfl
theorem value_checks.fns : Fns Tryz.prog 114 Tryz.f114 value_checks.P := ⟨Tryz.func114, by kernel_rfl⟩
theorem value_checks.loops (k : Nat) : LoopsOk (value_checks.G k) (value_checks.H k) (bodyOf Tryz.f114) 1 := loops_of (ps := [(26, pick [true, false, true, false, false] (bodyOf Tryz.f114))]) (by kernel_rfl) ⟨loopR_ok rfl rfl fun v x hx => ⟨k, (value_checks.l2.ok k k v).trans hx⟩, trivial⟩
theorem value_checks.call (k : Nat) : FnC Tryz.prog U Lay 114 value_checks.P value_checks.S (value_checks.u k) := fnC hLay ulaw gok (fun f xs => (.ite (.entry (value_Check.call k)) (CallC.none) : CallC Tryz.prog U Lay _ f xs)) (fun f xs => (CallC2.none : CallC2 Tryz.prog U Lay _ f xs)) value_checks.fns (value_checks.loops k) (value_checks.ev k)
def value_truth (a0 : Bool) : Option (Val) :=
 some (⟨(1 : Int), a0, (⟨false, (⟨(0 : Int), (0 : Int)⟩ : Wide), (0 : Int)⟩ : Dec), ByteArray.empty, (0 : Int), ([] : List Val), ([] : List ByteArray)⟩ : Val)
def value_truth.u (v : Bool) : Option (Val) := value_truth v
def value_truth.G : Ctx U := ⟨tyOf, bytesOf, fun f xs => none, fun f xs => none, fun d => false⟩
def value_truth.H : Hint U := ⟨[], fun i => none, fun i => none, fun i => none⟩
theorem value_truth.ev (v : Bool) : evFn (value_truth.G) (value_truth.H) value_truth.S Tryz.f142 (encA value_truth.P v) = value_truth.u v := by kernel_rfl
theorem value_truth.fns : Fns Tryz.prog 142 Tryz.f142 value_truth.P := ⟨Tryz.func142, by kernel_rfl⟩
theorem value_truth.loops : LoopsOk (value_truth.G) (value_truth.H) (bodyOf Tryz.f142) 1 := loops_of (ps := []) (by kernel_rfl) trivial
theorem value_truth.call : FnC Tryz.prog U Lay 142 value_truth.P value_truth.S (value_truth.u) := fnC hLay ulaw gok (fun f xs => (CallC.none : CallC Tryz.prog U Lay _ f xs)) (fun f xs => (CallC2.none : CallC2 Tryz.prog U Lay _ f xs)) value_truth.fns (value_truth.loops) (value_truth.ev)
def value_turned (a0 : Val) : Option (Val) :=
 if (a0.kind != (1 : Int)) = true then
 some (⟨(0 : Int), false, (⟨false, (⟨(0 : Int), (0 : Int)⟩ : Wide), (0 : Int)⟩ : Dec), ByteArray.empty, (0 : Int), ([] : List Val), ([] : List ByteArray)⟩ : Val)
 else
 (value_truth (!a0.yes)).bind fun r1 =>
 some r1
def value_turned.u (v : Val) : Option (Val) := value_turned v
def value_turned.G : Ctx U := ⟨tyOf, bytesOf, fun f xs => if f == 142 then entry value_truth.P value_truth.S (value_truth.u) xs else none, fun f xs => none, fun d => false⟩
def value_turned.H : Hint U := ⟨[], fun i => none, fun i => none, fun i => none⟩
theorem value_turned.ev (v : Val) : evFn (value_turned.G) (value_turned.H) value_turned.S Tryz.f115 (encA value_turned.P v) = value_turned.u v := by kernel_rfl
theorem value_turned.fns : Fns Tryz.prog 115 Tryz.f115 value_turned.P := ⟨Tryz.func115, by kernel_rfl⟩
theorem value_turned.loops : LoopsOk (value_turned.G) (value_turned.H) (bodyOf Tryz.f115) 1 := loops_of (ps := []) (by kernel_rfl) trivial
theorem value_turned.call : FnC Tryz.prog U Lay 115 value_turned.P value_turned.S (value_turned.u) := fnC hLay ulaw gok (fun f xs => (.ite (.entry (value_truth.call)) (CallC.none) : CallC Tryz.prog U Lay _ f xs)) (fun f xs => (CallC2.none : CallC2 Tryz.prog U Lay _ f xs)) value_turned.fns (value_turned.loops) (value_turned.ev)
def value_Not (k : Nat) (a0 : Val) : Option (Val × Int) :=
 (value_checks k ([a0] : List Val)).bind fun r1 =>
 if (r1 != (0 : Int)) = true then
 some ((⟨(0 : Int), false, (⟨false, (⟨(0 : Int), (0 : Int)⟩ : Wide), (0 : Int)⟩ : Dec), ByteArray.empty, (0 : Int), ([] : List Val), ([] : List ByteArray)⟩ : Val), r1)
 else
 (value_turned a0).bind fun r2 =>
 some (r2, (0 : Int))
def value_Not.u (k : Nat) (v : Val) : Option (Val × Int) := value_Not k v
def value_Not.G (k : Nat) : Ctx U := ⟨tyOf, bytesOf, fun f xs => if f == 114 then entry value_checks.P value_checks.S (value_checks.u k) xs else if f == 115 then entry value_turned.P value_turned.S (value_turned.u) xs else none, fun f xs => none, fun d => false⟩
def value_Not.H (k : Nat) : Hint U := ⟨[], fun i => none, fun i => none, fun i => none⟩
theorem value_Not.ev (k : Nat) (v : Val) : evFn (value_Not.G k) (value_Not.H k) value_Not.S Tryz.f113 (encA value_Not.P v) = value_Not.u k v := by kernel_rfl
theorem value_Not.fns : Fns Tryz.prog 113 Tryz.f113 value_Not.P := ⟨Tryz.func113, by kernel_rfl⟩
theorem value_Not.loops (k : Nat) : LoopsOk (value_Not.G k) (value_Not.H k) (bodyOf Tryz.f113) 1 := loops_of (ps := []) (by kernel_rfl) trivial
theorem value_Not.call (k : Nat) : FnC Tryz.prog U Lay 113 value_Not.P value_Not.S (value_Not.u k) := fnC hLay ulaw gok (fun f xs => (.ite (.entry (value_checks.call k)) (.ite (.entry (value_turned.call)) (CallC.none)) : CallC Tryz.prog U Lay _ f xs)) (fun f xs => (CallC2.none : CallC2 Tryz.prog U Lay _ f xs)) value_Not.fns (value_Not.loops k) (value_Not.ev k)
def unary_not (k : Nat) (a0 : Val) : Option (Val) :=
 (value_Not k a0).bind fun r1 =>
 some r1.1
def unary_not.u (k : Nat) (v : Val) : Option (Val) := unary_not k v
def unary_not.G (k : Nat) : Ctx U := ⟨tyOf, bytesOf, fun f xs => if f == 113 then entry value_Not.P value_Not.S (value_Not.u k) xs else none, fun f xs => none, fun d => false⟩
def unary_not.H (k : Nat) : Hint U := ⟨[], fun i => none, fun i => none, fun i => none⟩
theorem unary_not.ev (k : Nat) (v : Val) : evFn (unary_not.G k) (unary_not.H k) unary_not.S Tryz.f78 (encA unary_not.P v) = unary_not.u k v := by kernel_rfl
theorem unary_not.fns : Fns Tryz.prog 78 Tryz.f78 unary_not.P := ⟨Tryz.func78, by kernel_rfl⟩
theorem unary_not.loops (k : Nat) : LoopsOk (unary_not.G k) (unary_not.H k) (bodyOf Tryz.f78) 1 := loops_of (ps := []) (by kernel_rfl) trivial
theorem unary_not.call (k : Nat) : FnC Tryz.prog U Lay 78 unary_not.P unary_not.S (unary_not.u k) := fnC hLay ulaw gok (fun f xs => (.ite (.entry (value_Not.call k)) (CallC.none) : CallC Tryz.prog U Lay _ f xs)) (fun f xs => (CallC2.none : CallC2 Tryz.prog U Lay _ f xs)) unary_not.fns (unary_not.loops k) (unary_not.ev k)
def value_is (a0 : Val) (a1 : Bool) : Option (Bool) :=
 ((if (a0.kind == (1 : Int)) = true then
 some (a0.yes == a1)
 else some false) : Option Bool).bind fun b1 =>
 some b1
def value_is.u (v : Val × Bool) : Option (Bool) := value_is v.1 v.2
def value_is.G : Ctx U := ⟨tyOf, bytesOf, fun f xs => none, fun f xs => none, fun d => false⟩
def value_is.H : Hint U := ⟨[], fun i => none, fun i => none, fun i => none⟩
theorem value_is.ev (v : Val × Bool) : evFn (value_is.G) (value_is.H) value_is.S Tryz.f143 (encA value_is.P v) = value_is.u v := by kernel_rfl
theorem value_is.fns : Fns Tryz.prog 143 Tryz.f143 value_is.P := ⟨Tryz.func143, by kernel_rfl⟩
theorem value_is.loops : LoopsOk (value_is.G) (value_is.H) (bodyOf Tryz.f143) 1 := loops_of (ps := []) (by kernel_rfl) trivial
theorem value_is.call : FnC Tryz.prog U Lay 143 value_is.P value_is.S (value_is.u) := fnC hLay ulaw gok (fun f xs => (CallC.none : CallC Tryz.prog U Lay _ f xs)) (fun f xs => (CallC2.none : CallC2 Tryz.prog U Lay _ f xs)) value_is.fns (value_is.loops) (value_is.ev)
def value_both (a0 : Val) (a1 : Val) : Option (Val) :=
 (value_is a0 false).bind fun r1 =>
 ((if r1 = false then
 (value_is a1 false).bind fun r2 =>
 some r2
 else some true) : Option Bool).bind fun b3 =>
 if b3 = true then
 (value_truth false).bind fun r4 =>
 some r4
 else
 (value_is a0 true).bind fun r5 =>
 ((if r5 = true then
 (value_is a1 true).bind fun r6 =>
 some r6
 else some false) : Option Bool).bind fun b7 =>
 if b7 = true then
 (value_truth true).bind fun r8 =>
 some r8
 else
 some (⟨(0 : Int), false, (⟨false, (⟨(0 : Int), (0 : Int)⟩ : Wide), (0 : Int)⟩ : Dec), ByteArray.empty, (0 : Int), ([] : List Val), ([] : List ByteArray)⟩ : Val)
def value_both.u (v : Val × Val) : Option (Val) := value_both v.1 v.2
def value_both.G : Ctx U := ⟨tyOf, bytesOf, fun f xs => if f == 143 then entry value_is.P value_is.S (value_is.u) xs else if f == 142 then entry value_truth.P value_truth.S (value_truth.u) xs else none, fun f xs => none, fun d => false⟩
def value_both.H : Hint U := ⟨[], fun i => none, fun i => none, fun i => none⟩
theorem value_both.ev (v : Val × Val) : evFn (value_both.G) (value_both.H) value_both.S Tryz.f116 (encA value_both.P v) = value_both.u v := by kernel_rfl
theorem value_both.fns : Fns Tryz.prog 116 Tryz.f116 value_both.P := ⟨Tryz.func116, by kernel_rfl⟩
theorem value_both.loops : LoopsOk (value_both.G) (value_both.H) (bodyOf Tryz.f116) 1 := loops_of (ps := []) (by kernel_rfl) trivial
theorem value_both.call : FnC Tryz.prog U Lay 116 value_both.P value_both.S (value_both.u) := fnC hLay ulaw gok (fun f xs => (.ite (.entry (value_is.call)) (.ite (.entry (value_truth.call)) (CallC.none)) : CallC Tryz.prog U Lay _ f xs)) (fun f xs => (CallC2.none : CallC2 Tryz.prog U Lay _ f xs)) value_both.fns (value_both.loops) (value_both.ev)
def value_Or (k : Nat) (a0 : Val) (a1 : Val) : Option (Val × Int) :=
 (value_checks k ([a0, a1] : List Val)).bind fun r1 =>
 if (r1 != (0 : Int)) = true then
 some ((⟨(0 : Int), false, (⟨false, (⟨(0 : Int), (0 : Int)⟩ : Wide), (0 : Int)⟩ : Dec), ByteArray.empty, (0 : Int), ([] : List Val), ([] : List ByteArray)⟩ : Val), r1)
 else
 (value_turned a0).bind fun r2 =>
 (value_turned a1).bind fun r3 =>
 (value_both r2 r3).bind fun r4 =>
 (value_turned r4).bind fun r5 =>
 some (r5, (0 : Int))
def value_Or.u (k : Nat) (v : Val × Val) : Option (Val × Int) := value_Or k v.1 v.2
def value_Or.G (k : Nat) : Ctx U := ⟨tyOf, bytesOf, fun f xs => if f == 114 then entry value_checks.P value_checks.S (value_checks.u k) xs else if f == 115 then entry value_turned.P value_turned.S (value_turned.u) xs else if f == 116 then entry value_both.P value_both.S (value_both.u) xs else none, fun f xs => none, fun d => false⟩
def value_Or.H (k : Nat) : Hint U := ⟨[], fun i => none, fun i => none, fun i => none⟩
theorem value_Or.ev (k : Nat) (v : Val × Val) : evFn (value_Or.G k) (value_Or.H k) value_Or.S Tryz.f79 (encA value_Or.P v) = value_Or.u k v := by kernel_rfl
theorem value_Or.fns : Fns Tryz.prog 79 Tryz.f79 value_Or.P := ⟨Tryz.func79, by kernel_rfl⟩
theorem value_Or.loops (k : Nat) : LoopsOk (value_Or.G k) (value_Or.H k) (bodyOf Tryz.f79) 1 := loops_of (ps := []) (by kernel_rfl) trivial
theorem value_Or.call (k : Nat) : FnC Tryz.prog U Lay 79 value_Or.P value_Or.S (value_Or.u k) := fnC hLay ulaw gok (fun f xs => (.ite (.entry (value_checks.call k)) (.ite (.entry (value_turned.call)) (.ite (.entry (value_both.call)) (CallC.none))) : CallC Tryz.prog U Lay _ f xs)) (fun f xs => (CallC2.none : CallC2 Tryz.prog U Lay _ f xs)) value_Or.fns (value_Or.loops k) (value_Or.ev k)
def slices_Equal.l4 (k : Nat) (v0 : List ByteArray) (v1 : List ByteArray) (v12 : Int) : Nat → Int → Option (Fl (Unit) (Bool))
 | 0, _ => none
 | n + 1, v13 =>
 if (decide (v13 < v12)) = true then
 (idx v0 v13).bind fun e1 =>
 (idx v1 v13).bind fun e2 =>
 if (!(e1.data.toList == e2.data.toList)) = true then
 some (Fl.ret false)
 else
 slices_Equal.l4 k v0 v1 v12 n (IntKind.wrap .i64 (v13 + (1 : Int)))
 else
 some (Fl.go ())
def slices_Equal (k : Nat) (a0 : List ByteArray) (a1 : List ByteArray) : Option (Bool) :=
 if ((a0.length : Int) != (a1.length : Int)) = true then
 some false
 else
 (slices_Equal.l4 k a0 a1 (a0.length : Int) k (0 : Int)).bind fun o => (match o with
 | .go x3 =>
 some true
 | .ret x4 =>
 some x4)
def slices_Equal.u (k : Nat) (v : (List ByteArray) × (List ByteArray)) : Option (Bool) := slices_Equal k v.1 v.2
def slices_Equal.G (k : Nat) : Ctx U := ⟨tyOf, bytesOf, fun f xs => none, fun f xs => none, fun d => false⟩
def slices_Equal.l4.L (k : Nat) : ELoopR U := ⟨[.slot 0 (.sl .str), .slot 1 (.sl .str), .slot 12 (.int .i64), .slot 13 (.int .i64)], 0, [], [.slot 4 .bool], fun (v : (List ByteArray) × (List ByteArray) × Int × Int) => slices_Equal.l4 k v.1 v.2.1 v.2.2.1 k v.2.2.2⟩
def slices_Equal.H (k : Nat) : Hint U := ⟨[], fun i => none, fun i => if i == 58 then some (slices_Equal.l4.L k) else none, fun i => none⟩
theorem slices_Equal.l4.ok (k n : Nat) (v : Vars U (slices_Equal.l4.L k).ks) : loopRT (slices_Equal.G k) (slices_Equal.H k) (pick [true, true, false, true, false, false] (bodyOf Tryz.f185)) 58 (slices_Equal.l4.L k) n v = (fun (v : (List ByteArray) × (List ByteArray) × Int × Int) => slices_Equal.l4 k v.1 v.2.1 v.2.2.1 n v.2.2.2) v :=
  loopRT_eq (slices_Equal.G k) (slices_Equal.H k) _ _ (slices_Equal.l4.L k) (fun n (v : (List ByteArray) × (List ByteArray) × Int × Int) => slices_Equal.l4 k v.1 v.2.1 v.2.2.1 n v.2.2.2) (fun _ => rfl) (fun n v => by kernel_rfl) n v
theorem slices_Equal.ev (k : Nat) (v : (List ByteArray) × (List ByteArray)) : evFn (slices_Equal.G k) (slices_Equal.H k) slices_Equal.S Tryz.f185 (encA slices_Equal.P v) = slices_Equal.u k v := by kernel_rfl
theorem slices_Equal.fns : Fns Tryz.prog 185 Tryz.f185 slices_Equal.P := ⟨Tryz.func185, by kernel_rfl⟩
theorem slices_Equal.loops (k : Nat) : LoopsOk (slices_Equal.G k) (slices_Equal.H k) (bodyOf Tryz.f185) 1 := loops_of (ps := [(58, pick [true, true, false, true, false, false] (bodyOf Tryz.f185))]) (by kernel_rfl) ⟨loopR_ok rfl rfl fun v x hx => ⟨k, (slices_Equal.l4.ok k k v).trans hx⟩, trivial⟩
theorem slices_Equal.call (k : Nat) : FnC Tryz.prog U Lay 185 slices_Equal.P slices_Equal.S (slices_Equal.u k) := fnC hLay ulaw gok (fun f xs => (CallC.none : CallC Tryz.prog U Lay _ f xs)) (fun f xs => (CallC2.none : CallC2 Tryz.prog U Lay _ f xs)) slices_Equal.fns (slices_Equal.loops k) (slices_Equal.ev k)
def slices_EqualFunc_value_alike.l4 (rec_value_alike : Val → Val → Option (Bool)) (k : Nat) (v1 : List Val) (v15 : List Val) (v16 : Int) : Nat → Int → Option (Fl (Unit) (Bool))
 | 0, _ => none
 | n + 1, v17 =>
 if (decide (v17 < v16)) = true then
 (idx v15 v17).bind fun e1 =>
 (idx v1 v17).bind fun e2 =>
 (rec_value_alike e1 e2).bind fun r3 =>
 if (!r3) = true then
 some (Fl.ret false)
 else
 slices_EqualFunc_value_alike.l4 rec_value_alike k v1 v15 v16 n (IntKind.wrap .i64 (v17 + (1 : Int)))
 else
 some (Fl.go ())
def slices_EqualFunc_value_alike (rec_value_alike : Val → Val → Option (Bool)) (k : Nat) (a0 : List Val) (a1 : List Val) : Option (Bool) :=
 if ((a0.length : Int) != (a1.length : Int)) = true then
 some false
 else
 (slices_EqualFunc_value_alike.l4 rec_value_alike k a1 a0 (a0.length : Int) k (0 : Int)).bind fun o => (match o with
 | .go x4 =>
 some true
 | .ret x5 =>
 some x5)
def slices_EqualFunc_value_alike.u (rec_value_alike : Val → Val → Option (Bool)) (k : Nat) (v : (List Val) × (List Val)) : Option (Bool) := slices_EqualFunc_value_alike rec_value_alike k v.1 v.2
def slices_EqualFunc_value_alike.G (rec_value_alike : Val → Val → Option (Bool)) (k : Nat) : Ctx U := ⟨tyOf, bytesOf, fun f xs => if f == 163 then entry value_alike.P value_alike.S (fun v => rec_value_alike v.1 v.2) xs else none, fun f xs => none, fun d => false⟩
def slices_EqualFunc_value_alike.l4.L (rec_value_alike : Val → Val → Option (Bool)) (k : Nat) : ELoopR U := ⟨[.slot 1 (.sl (.st 3)), .fn 2 163, .slot 15 (.sl (.st 3)), .slot 16 (.int .i64), .slot 17 (.int .i64)], 0, [], [.slot 6 .bool], fun (v : (List Val) × (List Val) × Int × Int) => slices_EqualFunc_value_alike.l4 rec_value_alike k v.1 v.2.1 v.2.2.1 k v.2.2.2⟩
def slices_EqualFunc_value_alike.H (rec_value_alike : Val → Val → Option (Bool)) (k : Nat) : Hint U := ⟨[], fun i => none, fun i => if i == 58 then some (slices_EqualFunc_value_alike.l4.L rec_value_alike k) else none, fun i => none⟩
theorem slices_EqualFunc_value_alike.l4.ok (rec_value_alike : Val → Val → Option (Bool)) (k n : Nat) (v : Vars U (slices_EqualFunc_value_alike.l4.L rec_value_alike k).ks) : loopRT (slices_EqualFunc_value_alike.G rec_value_alike k) (slices_EqualFunc_value_alike.H rec_value_alike k) (pick [true, true, false, true, false, false] (bodyOf Tryz.f186)) 58 (slices_EqualFunc_value_alike.l4.L rec_value_alike k) n v = (fun (v : (List Val) × (List Val) × Int × Int) => slices_EqualFunc_value_alike.l4 rec_value_alike k v.1 v.2.1 v.2.2.1 n v.2.2.2) v :=
  loopRT_eq (slices_EqualFunc_value_alike.G rec_value_alike k) (slices_EqualFunc_value_alike.H rec_value_alike k) _ _ (slices_EqualFunc_value_alike.l4.L rec_value_alike k) (fun n (v : (List Val) × (List Val) × Int × Int) => slices_EqualFunc_value_alike.l4 rec_value_alike k v.1 v.2.1 v.2.2.1 n v.2.2.2) (fun _ => rfl) (fun n v => by kernel_rfl) n v
theorem slices_EqualFunc_value_alike.ev (rec_value_alike : Val → Val → Option (Bool)) (k : Nat) (v : (List Val) × (List Val)) : evFn (slices_EqualFunc_value_alike.G rec_value_alike k) (slices_EqualFunc_value_alike.H rec_value_alike k) slices_EqualFunc_value_alike.S Tryz.f186 (encA slices_EqualFunc_value_alike.P v) = slices_EqualFunc_value_alike.u rec_value_alike k v := by kernel_rfl
theorem slices_EqualFunc_value_alike.fns : Fns Tryz.prog 186 Tryz.f186 slices_EqualFunc_value_alike.P := ⟨Tryz.func186, by kernel_rfl⟩
theorem slices_EqualFunc_value_alike.loops (rec_value_alike : Val → Val → Option (Bool)) (k : Nat) : LoopsOk (slices_EqualFunc_value_alike.G rec_value_alike k) (slices_EqualFunc_value_alike.H rec_value_alike k) (bodyOf Tryz.f186) 1 := loops_of (ps := [(58, pick [true, true, false, true, false, false] (bodyOf Tryz.f186))]) (by kernel_rfl) ⟨loopR_ok rfl rfl fun v x hx => ⟨k, (slices_EqualFunc_value_alike.l4.ok rec_value_alike k k v).trans hx⟩, trivial⟩
theorem slices_EqualFunc_value_alike.call (rec_value_alike : Val → Val → Option (Bool)) (h_value_alike : FnC Tryz.prog U Lay 163 value_alike.P value_alike.S (fun v => rec_value_alike v.1 v.2)) (k : Nat) : FnC Tryz.prog U Lay 186 slices_EqualFunc_value_alike.P slices_EqualFunc_value_alike.S (slices_EqualFunc_value_alike.u rec_value_alike k) := fnC hLay ulaw gok (fun f xs => (.ite (.entry h_value_alike) (CallC.none) : CallC Tryz.prog U Lay _ f xs)) (fun f xs => (CallC2.none : CallC2 Tryz.prog U Lay _ f xs)) slices_EqualFunc_value_alike.fns (slices_EqualFunc_value_alike.loops rec_value_alike k) (slices_EqualFunc_value_alike.ev rec_value_alike k)
def value_alike : Nat → Val → Val → Option (Bool)
 | 0, _, _ => none
 | k + 1, a0, a1 =>
 ((if (a0.kind == a1.kind) = true then
 some (a0.yes == a1.yes)
 else some false) : Option Bool).bind fun b1 =>
 ((if b1 = true then
 some ((a0.num.neg == a1.num.neg) && (((a0.num.coef.hi == a1.num.coef.hi) && ((a0.num.coef.lo == a1.num.coef.lo) && true)) && ((a0.num.scale == a1.num.scale) && true)))
 else some false) : Option Bool).bind fun b2 =>
 ((if b2 = true then
 some (a0.text.data.toList == a1.text.data.toList)
 else some false) : Option Bool).bind fun b3 =>
 ((if b3 = true then
 some (a0.day == a1.day)
 else some false) : Option Bool).bind fun b4 =>
 ((if b4 = true then
 (slices_Equal k a0.names a1.names).bind fun r5 =>
 some r5
 else some false) : Option Bool).bind fun b6 =>
 ((if b6 = true then
 (slices_EqualFunc_value_alike (value_alike k) k a0.list a1.list).bind fun r7 =>
 some r7
 else some false) : Option Bool).bind fun b8 =>
 some b8
def value_alike.u (k : Nat) (v : Val × Val) : Option (Bool) := value_alike k v.1 v.2
def value_alike.G (k : Nat) : Ctx U := ⟨tyOf, bytesOf, fun f xs => if f == 185 then entry slices_Equal.P slices_Equal.S (slices_Equal.u k) xs else if f == 186 then entry slices_EqualFunc_value_alike.P slices_EqualFunc_value_alike.S (slices_EqualFunc_value_alike.u (value_alike k) k) xs else none, fun f xs => none, fun d => false⟩
def value_alike.H (k : Nat) : Hint U := ⟨[], fun i => none, fun i => none, fun i => none⟩
theorem value_alike.ev (k : Nat) (v : Val × Val) : evFn (value_alike.G k) (value_alike.H k) value_alike.S Tryz.f163 (encA value_alike.P v) = value_alike.u (k + 1) v := by kernel_rfl
theorem value_alike.fns : Fns Tryz.prog 163 Tryz.f163 value_alike.P := ⟨Tryz.func163, by kernel_rfl⟩
theorem value_alike.loops (k : Nat) : LoopsOk (value_alike.G k) (value_alike.H k) (bodyOf Tryz.f163) 1 := loops_of (ps := []) (by kernel_rfl) trivial
theorem value_alike.call : ∀ (k : Nat), FnC Tryz.prog U Lay 163 value_alike.P value_alike.S (value_alike.u k)
  | 0 => fun _ _ h => nomatch (show none = some _ from h)
  | k + 1 => fnC hLay ulaw gok (fun f xs => (.ite (.entry (slices_Equal.call k)) (.ite (.entry (slices_EqualFunc_value_alike.call (value_alike k) (value_alike.call k) k)) (CallC.none)) : CallC Tryz.prog U Lay _ f xs)) (fun f xs => (CallC2.none : CallC2 Tryz.prog U Lay _ f xs)) value_alike.fns (value_alike.loops k) (value_alike.ev k)
def value_equal.l11 (rec_value_equal : Val → Val → Option (Val)) (k : Nat) : Nat → (List Val) → Int → Int → Val → Val → Val → Val → Option (Fl (Val × Val) (Val))
 | 0, _, _, _, _, _, _, _ => none
 | n + 1, v55, v56, v57, b2, b3, b4, b5 =>
 if (decide (v57 < v56)) = true then
 (idx v55 v57).bind fun e8 =>
 ((if (b2.kind == (6 : Int)) = true then
 (idx b2.names v57).bind fun e9 =>
 (slices_Index k b3.names e9).bind fun r10 =>
 if (decide (r10 < (0 : Int))) = true then
 (value_truth false).bind fun r11 =>
 some (Fl.ret r11)
 else
 some (Fl.go (r10, v55, v56, v57, b2, b3, b4, b5, e8))
 else
 some (Fl.go (v57, v55, v56, v57, b2, b3, b4, b5, e8))) : Option (Fl (Int × (List Val) × Int × Int × Val × Val × Val × Val × Val) (Val))).bind fun o => (match o with
 | .go j12 =>
 (idx j12.2.2.2.2.2.1.list j12.1).bind fun e14 =>
 (rec_value_equal j12.2.2.2.2.2.2.2.2 e14).bind fun r15 =>
 (value_both j12.2.2.2.2.2.2.2.1 r15).bind fun r16 =>
 value_equal.l11 rec_value_equal k n j12.2.1 j12.2.2.1 (IntKind.wrap .i64 (j12.2.2.2.1 + (1 : Int))) j12.2.2.2.2.1 j12.2.2.2.2.2.1 j12.2.2.2.2.2.2.1 r16
 | .ret j13 =>
 some (Fl.ret j13))
 else
 some (Fl.go (b4, b5))
def value_equal : Nat → Val → Val → Option (Val)
 | 0, _, _ => none
 | k + 1, a0, a1 =>
 ((if (a0.kind == (0 : Int)) = false then
 some (a1.kind == (0 : Int))
 else some true) : Option Bool).bind fun b1 =>
 if b1 = true then
 (value_truth (a0.kind == a1.kind)).bind fun r2 =>
 some r2
 else
 if (a0.kind != a1.kind) = true then
 some (⟨(0 : Int), false, (⟨false, (⟨(0 : Int), (0 : Int)⟩ : Wide), (0 : Int)⟩ : Dec), ByteArray.empty, (0 : Int), ([] : List Val), ([] : List ByteArray)⟩ : Val)
 else
 ((if (a0.kind != (5 : Int)) = true then
 some (a0.kind != (6 : Int))
 else some false) : Option Bool).bind fun b3 =>
 if b3 = true then
 (value_alike k a0 a1).bind fun r4 =>
 (value_truth r4).bind fun r5 =>
 some r5
 else
 if ((a0.list.length : Int) != (a1.list.length : Int)) = true then
 (value_truth false).bind fun r6 =>
 some r6
 else
 (value_truth true).bind fun r7 =>
 (value_equal.l11 (value_equal k) k k a0.list (a0.list.length : Int) (0 : Int) a0 a1 (⟨(0 : Int), false, (⟨false, (⟨(0 : Int), (0 : Int)⟩ : Wide), (0 : Int)⟩ : Dec), ByteArray.empty, (0 : Int), ([] : List Val), ([] : List ByteArray)⟩ : Val) r7).bind fun o => (match o with
 | .go x17 =>
 some x17.2
 | .ret x18 =>
 some x18)
def value_equal.u (k : Nat) (v : Val × Val) : Option (Val) := value_equal k v.1 v.2
def value_equal.G (k : Nat) : Ctx U := ⟨tyOf, bytesOf, fun f xs => if f == 142 then entry value_truth.P value_truth.S (value_truth.u) xs else if f == 163 then entry value_alike.P value_alike.S (value_alike.u k) xs else if f == 141 then entry slices_Index.P slices_Index.S (slices_Index.u k) xs else if f == 144 then entry value_equal.P value_equal.S (value_equal.u k) xs else if f == 116 then entry value_both.P value_both.S (value_both.u) xs else none, fun f xs => none, fun d => false⟩
def value_equal.l11.L (k : Nat) : ELoopR U := ⟨[.ptr 2 2 [] (.st 3), .ptr 3 3 [] (.st 3), .ptr 4 4 [] (.st 3), .ptr 5 5 [] (.st 3), .slot 55 (.sl (.st 3)), .slot 56 (.int .i64), .slot 57 (.int .i64), .box 2 (.st 3) [], .box 3 (.st 3) [], .box 4 (.st 3) [[5], [6]], .box 5 (.st 3) []], 1, [.ptr 4 4 [] (.st 3), .ptr 5 5 [] (.st 3), .box 4 (.st 3) [[5], [6]], .box 5 (.st 3) []], [.ptr 4 4 [] (.st 3), .box 4 (.st 3) []], fun (v : (List Val) × Int × Int × Val × Val × Val × Val) => value_equal.l11 (value_equal k) k k v.1 v.2.1 v.2.2.1 v.2.2.2.1 v.2.2.2.2.1 v.2.2.2.2.2.1 v.2.2.2.2.2.2⟩
def value_equal.H (k : Nat) : Hint U := ⟨[], fun i => none, fun i => if i == 122 then some (value_equal.l11.L k) else none, fun i => if i == 62669 then some ⟨[.ptr 2 2 [] (.st 3), .ptr 3 3 [] (.st 3), .ptr 4 4 [] (.st 3), .ptr 5 5 [] (.st 3), .ptr 7 7 [] (.st 3), .slot 8 (.int .i64), .slot 55 (.sl (.st 3)), .slot 56 (.int .i64), .slot 57 (.int .i64), .box 2 (.st 3) [], .box 3 (.st 3) [], .box 4 (.st 3) [[5], [6]], .box 5 (.st 3) [], .box 7 (.st 3) []], some [.ptr 4 4 [] (.st 3), .box 4 (.st 3) []]⟩ else none⟩
theorem value_equal.l11.ok (k n : Nat) (v : Vars U (value_equal.l11.L k).ks) : loopRT (value_equal.G k) (value_equal.H k) (pick [true, true, true, false, true, false, false] (bodyOf Tryz.f144)) 122 (value_equal.l11.L k) n v = (fun (v : (List Val) × Int × Int × Val × Val × Val × Val) => value_equal.l11 (value_equal k) k n v.1 v.2.1 v.2.2.1 v.2.2.2.1 v.2.2.2.2.1 v.2.2.2.2.2.1 v.2.2.2.2.2.2) v :=
  loopRT_eq (value_equal.G k) (value_equal.H k) _ _ (value_equal.l11.L k) (fun n (v : (List Val) × Int × Int × Val × Val × Val × Val) => value_equal.l11 (value_equal k) k n v.1 v.2.1 v.2.2.1 v.2.2.2.1 v.2.2.2.2.1 v.2.2.2.2.2.1 v.2.2.2.2.2.2) (fun _ => rfl) (fun n v => by kernel_rfl) n v
theorem value_equal.ev (k : Nat) (v : Val × Val) : evFn (value_equal.G k) (value_equal.H k) value_equal.S Tryz.f144 (encA value_equal.P v) = value_equal.u (k + 1) v := by kernel_rfl
theorem value_equal.fns : Fns Tryz.prog 144 Tryz.f144 value_equal.P := ⟨Tryz.func144, by kernel_rfl⟩
theorem value_equal.loops (k : Nat) : LoopsOk (value_equal.G k) (value_equal.H k) (bodyOf Tryz.f144) 1 := loops_of (ps := [(122, pick [true, true, true, false, true, false, false] (bodyOf Tryz.f144))]) (by kernel_rfl) ⟨loopR_ok rfl rfl fun v x hx => ⟨k, (value_equal.l11.ok k k v).trans hx⟩, trivial⟩
theorem value_equal.call : ∀ (k : Nat), FnC Tryz.prog U Lay 144 value_equal.P value_equal.S (value_equal.u k)
  | 0 => fun _ _ h => nomatch (show none = some _ from h)
  | k + 1 => fnC hLay ulaw gok (fun f xs => (.ite (.entry (value_truth.call)) (.ite (.entry (value_alike.call k)) (.ite (.entry (slices_Index.call k)) (.ite (.entry (value_equal.call k)) (.ite (.entry (value_both.call)) (CallC.none))))) : CallC Tryz.prog U Lay _ f xs)) (fun f xs => (CallC2.none : CallC2 Tryz.prog U Lay _ f xs)) value_equal.fns (value_equal.loops k) (value_equal.ev k)
def value_Equal (k : Nat) (a0 : Val) (a1 : Val) : Option (Val × Int) :=
 (value_checks k ([a0, a1] : List Val)).bind fun r1 =>
 if (r1 != (0 : Int)) = true then
 some ((⟨(0 : Int), false, (⟨false, (⟨(0 : Int), (0 : Int)⟩ : Wide), (0 : Int)⟩ : Dec), ByteArray.empty, (0 : Int), ([] : List Val), ([] : List ByteArray)⟩ : Val), r1)
 else
 (value_equal k a0 a1).bind fun r2 =>
 some (r2, (0 : Int))
def value_Equal.u (k : Nat) (v : Val × Val) : Option (Val × Int) := value_Equal k v.1 v.2
def value_Equal.G (k : Nat) : Ctx U := ⟨tyOf, bytesOf, fun f xs => if f == 114 then entry value_checks.P value_checks.S (value_checks.u k) xs else if f == 144 then entry value_equal.P value_equal.S (value_equal.u k) xs else none, fun f xs => none, fun d => false⟩
def value_Equal.H (k : Nat) : Hint U := ⟨[], fun i => none, fun i => none, fun i => none⟩
theorem value_Equal.ev (k : Nat) (v : Val × Val) : evFn (value_Equal.G k) (value_Equal.H k) value_Equal.S Tryz.f117 (encA value_Equal.P v) = value_Equal.u k v := by kernel_rfl
theorem value_Equal.fns : Fns Tryz.prog 117 Tryz.f117 value_Equal.P := ⟨Tryz.func117, by kernel_rfl⟩
theorem value_Equal.loops (k : Nat) : LoopsOk (value_Equal.G k) (value_Equal.H k) (bodyOf Tryz.f117) 1 := loops_of (ps := []) (by kernel_rfl) trivial
theorem value_Equal.call (k : Nat) : FnC Tryz.prog U Lay 117 value_Equal.P value_Equal.S (value_Equal.u k) := fnC hLay ulaw gok (fun f xs => (.ite (.entry (value_checks.call k)) (.ite (.entry (value_equal.call k)) (CallC.none)) : CallC Tryz.prog U Lay _ f xs)) (fun f xs => (CallC2.none : CallC2 Tryz.prog U Lay _ f xs)) value_Equal.fns (value_Equal.loops k) (value_Equal.ev k)
def dec_long (a0 : Wide) : Option ((List Int)) :=
 some [a0.lo, a0.hi, (0 : Int), (0 : Int)]
def dec_long.u (v : Wide) : Option ((List Int)) := dec_long v
def dec_long.G : Ctx U := ⟨tyOf, bytesOf, fun f xs => none, fun f xs => none, fun d => false⟩
def dec_long.H : Hint U := ⟨[], fun i => none, fun i => none, fun i => none⟩
theorem dec_long.ev (v : Wide) : evFn (dec_long.G) (dec_long.H) dec_long.S Tryz.f220 (encA dec_long.P v) = dec_long.u v := by kernel_rfl
theorem dec_long.fns : Fns Tryz.prog 220 Tryz.f220 dec_long.P := ⟨Tryz.func220, by kernel_rfl⟩
theorem dec_long.loops : LoopsOk (dec_long.G) (dec_long.H) (bodyOf Tryz.f220) 1 := loops_of (ps := []) (by kernel_rfl) trivial
theorem dec_long.call : FnC Tryz.prog U Lay 220 dec_long.P dec_long.S (dec_long.u) := fnC hLay ulaw gok (fun f xs => (CallC.none : CallC Tryz.prog U Lay _ f xs)) (fun f xs => (CallC2.none : CallC2 Tryz.prog U Lay _ f xs)) dec_long.fns (dec_long.loops) (dec_long.ev)
def dec_times.l6 (k : Nat) (v13 : Int) (v14 : Int) (b4 : List Int) : Nat → Int → Int → (List Int) → Option (Int × Int × (List Int) × (List Int))
 | 0, _, _, _ => none
 | n + 1, v6, v16, b5 =>
 if (decide (v16 < (4 : Int))) = true then
 if 0 ≤ v16 ∧ v16 < (4 : Int) then
 (idx b5 v16).bind fun e2 =>
 (bits_Mul64 e2 (10 : Int)).bind fun r3 =>
 (bits_Add64 r3.2 v6 (0 : Int)).bind fun r4 =>
 if 0 ≤ v16 ∧ v16 < (4 : Int) then
 (idx b5 v16).bind fun e5 =>
 dec_times.l6 k v13 v14 b4 n (IntKind.wrap .u64 (r3.1 + r4.2)) (IntKind.wrap .i64 (v16 + (1 : Int))) (b5.set (v16).toNat r4.1)
 else none
 else none
 else
 some (v13, v14, b4, b5)
def dec_times.l3 (k : Nat) : Nat → Int → Int → (List Int) → (List Int) → Option ((List Int) × (List Int))
 | 0, _, _, _, _ => none
 | n + 1, v13, v14, b4, b5 =>
 if (decide (v14 < v13)) = true then
 (dec_times.l6 k v13 v14 b4 k (0 : Int) (0 : Int) b5).bind fun x6 =>
 dec_times.l3 k n x6.1 (IntKind.wrap .i64 (x6.2.1 + (1 : Int))) x6.2.2.1 x6.2.2.2
 else
 some (b4, b5)
def dec_times (k : Nat) (a0 : Wide) (a1 : Int) : Option ((List Int)) :=
 (dec_long a0).bind fun r1 =>
 (dec_times.l3 k k a1 (0 : Int) (List.replicate 4 (0 : Int)) r1).bind fun x7 =>
 some x7.2
def dec_times.u (k : Nat) (v : Wide × Int) : Option ((List Int)) := dec_times k v.1 v.2
def dec_times.G (k : Nat) : Ctx U := ⟨tyOf, bytesOf, fun f xs => if f == 220 then entry dec_long.P dec_long.S (dec_long.u) xs else if f == 204 then entry bits_Mul64.P bits_Mul64.S (bits_Mul64.u) xs else if f == 205 then entry bits_Add64.P bits_Add64.S (bits_Add64.u) xs else none, fun f xs => none, fun d => false⟩
def dec_times.l6.L (k : Nat) : ELoop U := ⟨[.ptr 4 4 [] (.arr 4 (.int .u64)), .ptr 5 5 [] (.arr 4 (.int .u64)), .slot 6 (.int .u64), .slot 13 (.int .i64), .slot 14 (.int .i64), .slot 16 (.int .i64), .box 4 (.arr 4 (.int .u64)) [], .box 5 (.arr 4 (.int .u64)) []], 2, [.ptr 4 4 [] (.arr 4 (.int .u64)), .ptr 5 5 [] (.arr 4 (.int .u64)), .slot 13 (.int .i64), .slot 14 (.int .i64), .box 4 (.arr 4 (.int .u64)) [], .box 5 (.arr 4 (.int .u64)) []], fun (v : Int × Int × Int × Int × (List Int) × (List Int)) => dec_times.l6 k v.2.1 v.2.2.1 v.2.2.2.2.1 k v.1 v.2.2.2.1 v.2.2.2.2.2⟩
def dec_times.l3.L (k : Nat) : ELoop U := ⟨[.ptr 4 4 [] (.arr 4 (.int .u64)), .ptr 5 5 [] (.arr 4 (.int .u64)), .slot 13 (.int .i64), .slot 14 (.int .i64), .box 4 (.arr 4 (.int .u64)) [], .box 5 (.arr 4 (.int .u64)) []], 0, [.ptr 4 4 [] (.arr 4 (.int .u64)), .ptr 5 5 [] (.arr 4 (.int .u64)), .box 4 (.arr 4 (.int .u64)) [], .box 5 (.arr 4 (.int .u64)) []], fun (v : Int × Int × (List Int) × (List Int)) => dec_times.l3 k k v.1 v.2.1 v.2.2.1 v.2.2.2⟩
def dec_times.H (k : Nat) : Hint U := ⟨[], fun i => if i == 58 then some (dec_times.l3.L k) else if i == 14950 then some (dec_times.l6.L k) else none, fun i => none, fun i => none⟩
theorem dec_times.l6.ok (k n : Nat) (v : Vars U (dec_times.l6.L k).ks) : loopT (dec_times.G k) (dec_times.H k) (pick [true, true, false, true, false, false, true, true, false, false, true, true, false, false] (bodyOf Tryz.f207)) 14950 (dec_times.l6.L k) n v = (fun (v : Int × Int × Int × Int × (List Int) × (List Int)) => dec_times.l6 k v.2.1 v.2.2.1 v.2.2.2.2.1 n v.1 v.2.2.2.1 v.2.2.2.2.2) v :=
  loopT_eq (dec_times.G k) (dec_times.H k) _ _ (dec_times.l6.L k) (fun n (v : Int × Int × Int × Int × (List Int) × (List Int)) => dec_times.l6 k v.2.1 v.2.2.1 v.2.2.2.2.1 n v.1 v.2.2.2.1 v.2.2.2.2.2) (fun _ => rfl) (fun n v => by kernel_rfl) n v
theorem dec_times.l3.ok (k n : Nat) (v : Vars U (dec_times.l3.L k).ks) : loopT (dec_times.G k) (dec_times.H k) (pick [true, true, false, true, false, false] (bodyOf Tryz.f207)) 58 (dec_times.l3.L k) n v = (fun (v : Int × Int × (List Int) × (List Int)) => dec_times.l3 k n v.1 v.2.1 v.2.2.1 v.2.2.2) v :=
  loopT_eq (dec_times.G k) (dec_times.H k) _ _ (dec_times.l3.L k) (fun n (v : Int × Int × (List Int) × (List Int)) => dec_times.l3 k n v.1 v.2.1 v.2.2.1 v.2.2.2) (fun _ => rfl) (fun n v => by kernel_rfl) n v
theorem dec_times.ev (k : Nat) (v : Wide × Int) : evFn (dec_times.G k) (dec_times.H k) dec_times.S Tryz.f207 (encA dec_times.P v) = dec_times.u k v := by kernel_rfl
theorem dec_times.fns : Fns Tryz.prog 207 Tryz.f207 dec_times.P := ⟨Tryz.func207, by kernel_rfl⟩
theorem dec_times.loops (k : Nat) : LoopsOk (dec_times.G k) (dec_times.H k) (bodyOf Tryz.f207) 1 := loops_of (ps := [(58, pick [true, true, false, true, false, false] (bodyOf Tryz.f207)), (14950, pick [true, true, false, true, false, false, true, true, false, false, true, true, false, false] (bodyOf Tryz.f207))]) (by kernel_rfl) ⟨loopT_ok rfl fun v x hx => ⟨k, (dec_times.l3.ok k k v).trans hx⟩, ⟨loopT_ok rfl fun v x hx => ⟨k, (dec_times.l6.ok k k v).trans hx⟩, trivial⟩⟩
theorem dec_times.call (k : Nat) : FnC Tryz.prog U Lay 207 dec_times.P dec_times.S (dec_times.u k) := fnC hLay ulaw gok (fun f xs => (.ite (.entry (dec_long.call)) (.ite (.entry (bits_Mul64.call)) (.ite (.entry (bits_Add64.call)) (CallC.none))) : CallC Tryz.prog U Lay _ f xs)) (fun f xs => (CallC2.none : CallC2 Tryz.prog U Lay _ f xs)) dec_times.fns (dec_times.loops k) (dec_times.ev k)
def dec_both (k : Nat) (a0 : Dec) (a1 : Dec) : Option ((List Int) × (List Int) × Int) :=
 (dec_times k a0.coef (IntKind.wrap .i64 ((if a1.scale > a0.scale then a1.scale else a0.scale) - a0.scale))).bind fun r1 =>
 (dec_times k a1.coef (IntKind.wrap .i64 ((if a1.scale > a0.scale then a1.scale else a0.scale) - a1.scale))).bind fun r2 =>
 some (r1, r2, (if a1.scale > a0.scale then a1.scale else a0.scale))
def dec_both.u (k : Nat) (v : Dec × Dec) : Option ((List Int) × (List Int) × Int) := dec_both k v.1 v.2
def dec_both.G (k : Nat) : Ctx U := ⟨tyOf, bytesOf, fun f xs => if f == 207 then entry dec_times.P dec_times.S (dec_times.u k) xs else none, fun f xs => none, fun d => false⟩
def dec_both.H (k : Nat) : Hint U := ⟨[], fun i => none, fun i => none, fun i => none⟩
theorem dec_both.ev (k : Nat) (v : Dec × Dec) : evFn (dec_both.G k) (dec_both.H k) dec_both.S Tryz.f187 (encA dec_both.P v) = dec_both.u k v := by kernel_rfl
theorem dec_both.fns : Fns Tryz.prog 187 Tryz.f187 dec_both.P := ⟨Tryz.func187, by kernel_rfl⟩
theorem dec_both.loops (k : Nat) : LoopsOk (dec_both.G k) (dec_both.H k) (bodyOf Tryz.f187) 1 := loops_of (ps := []) (by kernel_rfl) trivial
theorem dec_both.call (k : Nat) : FnC Tryz.prog U Lay 187 dec_both.P dec_both.S (dec_both.u k) := fnC hLay ulaw gok (fun f xs => (.ite (.entry (dec_times.call k)) (CallC.none) : CallC Tryz.prog U Lay _ f xs)) (fun f xs => (CallC2.none : CallC2 Tryz.prog U Lay _ f xs)) dec_both.fns (dec_both.loops k) (dec_both.ev k)
def dec_order.l2 (k : Nat) (b2 : List Int) (b3 : List Int) : Nat → Int → Option (Fl (Unit) (Int))
 | 0, _ => none
 | n + 1, v5 =>
 if (decide (v5 ≥ (0 : Int))) = true then
 if 0 ≤ v5 ∧ v5 < (4 : Int) then
 (idx b2 v5).bind fun e1 =>
 if 0 ≤ v5 ∧ v5 < (4 : Int) then
 (idx b3 v5).bind fun e2 =>
 if (decide (e1 < e2)) = true then
 some (Fl.ret (-1 : Int))
 else
 if 0 ≤ v5 ∧ v5 < (4 : Int) then
 (idx b2 v5).bind fun e3 =>
 if 0 ≤ v5 ∧ v5 < (4 : Int) then
 (idx b3 v5).bind fun e4 =>
 if (decide (e3 > e4)) = true then
 some (Fl.ret (1 : Int))
 else
 dec_order.l2 k b2 b3 n (IntKind.wrap .i64 (v5 - (1 : Int)))
 else none
 else none
 else none
 else none
 else
 some (Fl.go ())
def dec_order (k : Nat) (a0 : List Int) (a1 : List Int) : Option (Int) :=
 (dec_order.l2 k a0 a1 k (3 : Int)).bind fun o => (match o with
 | .go x5 =>
 some (0 : Int)
 | .ret x6 =>
 some x6)
def dec_order.u (k : Nat) (v : (List Int) × (List Int)) : Option (Int) := dec_order k v.1 v.2
def dec_order.G (k : Nat) : Ctx U := ⟨tyOf, bytesOf, fun f xs => none, fun f xs => none, fun d => false⟩
def dec_order.l2.L (k : Nat) : ELoopR U := ⟨[.ptr 2 2 [] (.arr 4 (.int .u64)), .ptr 3 3 [] (.arr 4 (.int .u64)), .slot 5 (.int .i64), .box 2 (.arr 4 (.int .u64)) [], .box 3 (.arr 4 (.int .u64)) []], 0, [], [.slot 4 (.int .i64)], fun (v : Int × (List Int) × (List Int)) => dec_order.l2 k v.2.1 v.2.2 k v.1⟩
def dec_order.H (k : Nat) : Hint U := ⟨[], fun i => none, fun i => if i == 26 then some (dec_order.l2.L k) else none, fun i => none⟩
theorem dec_order.l2.ok (k n : Nat) (v : Vars U (dec_order.l2.L k).ks) : loopRT (dec_order.G k) (dec_order.H k) (pick [true, false, true, false, false] (bodyOf Tryz.f188)) 26 (dec_order.l2.L k) n v = (fun (v : Int × (List Int) × (List Int)) => dec_order.l2 k v.2.1 v.2.2 n v.1) v :=
  loopRT_eq (dec_order.G k) (dec_order.H k) _ _ (dec_order.l2.L k) (fun n (v : Int × (List Int) × (List Int)) => dec_order.l2 k v.2.1 v.2.2 n v.1) (fun _ => rfl) (fun n v => by kernel_rfl) n v
theorem dec_order.ev (k : Nat) (v : (List Int) × (List Int)) : evFn (dec_order.G k) (dec_order.H k) dec_order.S Tryz.f188 (encA dec_order.P v) = dec_order.u k v := by kernel_rfl
theorem dec_order.fns : Fns Tryz.prog 188 Tryz.f188 dec_order.P := ⟨Tryz.func188, by kernel_rfl⟩
theorem dec_order.loops (k : Nat) : LoopsOk (dec_order.G k) (dec_order.H k) (bodyOf Tryz.f188) 1 := loops_of (ps := [(26, pick [true, false, true, false, false] (bodyOf Tryz.f188))]) (by kernel_rfl) ⟨loopR_ok rfl rfl fun v x hx => ⟨k, (dec_order.l2.ok k k v).trans hx⟩, trivial⟩
theorem dec_order.call (k : Nat) : FnC Tryz.prog U Lay 188 dec_order.P dec_order.S (dec_order.u k) := fnC hLay ulaw gok (fun f xs => (CallC.none : CallC Tryz.prog U Lay _ f xs)) (fun f xs => (CallC2.none : CallC2 Tryz.prog U Lay _ f xs)) dec_order.fns (dec_order.loops k) (dec_order.ev k)
def dec_Cmp (k : Nat) (a0 : Dec) (a1 : Dec) : Option (Int × Int) :=
 (dec_formed k ([a0, a1] : List Dec)).bind fun r1 =>
 if (r1 != (0 : Int)) = true then
 some ((0 : Int), r1)
 else
 if (!(a0.neg == a1.neg)) = true then
 if a0.neg = true then
 some ((-1 : Int), (0 : Int))
 else
 some ((1 : Int), (0 : Int))
 else
 (dec_both k a0 a1).bind fun r2 =>
 ((if a0.neg = true then
 some (r2.2.1, r2.1)
 else
 some (r2.1, r2.2.1)) : Option ((List Int) × (List Int))).bind fun j3 =>
 (dec_order k j3.1 j3.2).bind fun r4 =>
 some (r4, (0 : Int))
def dec_Cmp.u (k : Nat) (v : Dec × Dec) : Option (Int × Int) := dec_Cmp k v.1 v.2
def dec_Cmp.G (k : Nat) : Ctx U := ⟨tyOf, bytesOf, fun f xs => if f == 111 then entry dec_formed.P dec_formed.S (dec_formed.u k) xs else if f == 187 then entry dec_both.P dec_both.S (dec_both.u k) xs else if f == 188 then entry dec_order.P dec_order.S (dec_order.u k) xs else none, fun f xs => none, fun d => false⟩
def dec_Cmp.H (k : Nat) : Hint U := ⟨[], fun i => none, fun i => none, fun i => if i == 125 then some ⟨[.ptr 7 7 [] (.arr 4 (.int .u64)), .ptr 8 8 [] (.arr 4 (.int .u64)), .box 7 (.arr 4 (.int .u64)) [], .box 8 (.arr 4 (.int .u64)) []], none⟩ else none⟩
theorem dec_Cmp.ev (k : Nat) (v : Dec × Dec) : evFn (dec_Cmp.G k) (dec_Cmp.H k) dec_Cmp.S Tryz.f164 (encA dec_Cmp.P v) = dec_Cmp.u k v := by kernel_rfl
theorem dec_Cmp.fns : Fns Tryz.prog 164 Tryz.f164 dec_Cmp.P := ⟨Tryz.func164, by kernel_rfl⟩
theorem dec_Cmp.loops (k : Nat) : LoopsOk (dec_Cmp.G k) (dec_Cmp.H k) (bodyOf Tryz.f164) 1 := loops_of (ps := []) (by kernel_rfl) trivial
theorem dec_Cmp.call (k : Nat) : FnC Tryz.prog U Lay 164 dec_Cmp.P dec_Cmp.S (dec_Cmp.u k) := fnC hLay ulaw gok (fun f xs => (.ite (.entry (dec_formed.call k)) (.ite (.entry (dec_both.call k)) (.ite (.entry (dec_order.call k)) (CallC.none))) : CallC Tryz.prog U Lay _ f xs)) (fun f xs => (CallC2.none : CallC2 Tryz.prog U Lay _ f xs)) dec_Cmp.fns (dec_Cmp.loops k) (dec_Cmp.ev k)
def value_Less (k : Nat) (a0 : Val) (a1 : Val) : Option (Val × Int) :=
 (value_checks k ([a0, a1] : List Val)).bind fun r1 =>
 if (r1 != (0 : Int)) = true then
 some ((⟨(0 : Int), false, (⟨false, (⟨(0 : Int), (0 : Int)⟩ : Wide), (0 : Int)⟩ : Dec), ByteArray.empty, (0 : Int), ([] : List Val), ([] : List ByteArray)⟩ : Val), r1)
 else
 if (a0.kind != a1.kind) = true then
 some ((⟨(0 : Int), false, (⟨false, (⟨(0 : Int), (0 : Int)⟩ : Wide), (0 : Int)⟩ : Dec), ByteArray.empty, (0 : Int), ([] : List Val), ([] : List ByteArray)⟩ : Val), (0 : Int))
 else
 if (a0.kind == (2 : Int)) = true then
 (dec_Cmp k a0.num a1.num).bind fun r2 =>
 (value_truth (decide (r2.1 < (0 : Int)))).bind fun r3 =>
 some (r3, (0 : Int))
 else
 if (a0.kind == (3 : Int)) = true then
 (value_truth (lessB a0.text.data.toList a1.text.data.toList)).bind fun r4 =>
 some (r4, (0 : Int))
 else
 if (a0.kind == (4 : Int)) = true then
 (value_truth (decide (a0.day < a1.day))).bind fun r5 =>
 some (r5, (0 : Int))
 else
 some ((⟨(0 : Int), false, (⟨false, (⟨(0 : Int), (0 : Int)⟩ : Wide), (0 : Int)⟩ : Dec), ByteArray.empty, (0 : Int), ([] : List Val), ([] : List ByteArray)⟩ : Val), (0 : Int))
def value_Less.u (k : Nat) (v : Val × Val) : Option (Val × Int) := value_Less k v.1 v.2
def value_Less.G (k : Nat) : Ctx U := ⟨tyOf, bytesOf, fun f xs => if f == 114 then entry value_checks.P value_checks.S (value_checks.u k) xs else if f == 164 then entry dec_Cmp.P dec_Cmp.S (dec_Cmp.u k) xs else if f == 142 then entry value_truth.P value_truth.S (value_truth.u) xs else none, fun f xs => none, fun d => false⟩
def value_Less.H (k : Nat) : Hint U := ⟨[], fun i => none, fun i => none, fun i => none⟩
theorem value_Less.ev (k : Nat) (v : Val × Val) : evFn (value_Less.G k) (value_Less.H k) value_Less.S Tryz.f145 (encA value_Less.P v) = value_Less.u k v := by kernel_rfl
theorem value_Less.fns : Fns Tryz.prog 145 Tryz.f145 value_Less.P := ⟨Tryz.func145, by kernel_rfl⟩
theorem value_Less.loops (k : Nat) : LoopsOk (value_Less.G k) (value_Less.H k) (bodyOf Tryz.f145) 1 := loops_of (ps := []) (by kernel_rfl) trivial
theorem value_Less.call (k : Nat) : FnC Tryz.prog U Lay 145 value_Less.P value_Less.S (value_Less.u k) := fnC hLay ulaw gok (fun f xs => (.ite (.entry (value_checks.call k)) (.ite (.entry (dec_Cmp.call k)) (.ite (.entry (value_truth.call)) (CallC.none))) : CallC Tryz.prog U Lay _ f xs)) (fun f xs => (CallC2.none : CallC2 Tryz.prog U Lay _ f xs)) value_Less.fns (value_Less.loops k) (value_Less.ev k)
def unary_less (k : Nat) (a0 : Val) (a1 : Val) : Option (Val) :=
 (value_Less k a0 a1).bind fun r1 =>
 some r1.1
def unary_less.u (k : Nat) (v : Val × Val) : Option (Val) := unary_less k v.1 v.2
def unary_less.G (k : Nat) : Ctx U := ⟨tyOf, bytesOf, fun f xs => if f == 145 then entry value_Less.P value_Less.S (value_Less.u k) xs else none, fun f xs => none, fun d => false⟩
def unary_less.H (k : Nat) : Hint U := ⟨[], fun i => none, fun i => none, fun i => none⟩
theorem unary_less.ev (k : Nat) (v : Val × Val) : evFn (unary_less.G k) (unary_less.H k) unary_less.S Tryz.f118 (encA unary_less.P v) = unary_less.u k v := by kernel_rfl
theorem unary_less.fns : Fns Tryz.prog 118 Tryz.f118 unary_less.P := ⟨Tryz.func118, by kernel_rfl⟩
theorem unary_less.loops (k : Nat) : LoopsOk (unary_less.G k) (unary_less.H k) (bodyOf Tryz.f118) 1 := loops_of (ps := []) (by kernel_rfl) trivial
theorem unary_less.call (k : Nat) : FnC Tryz.prog U Lay 118 unary_less.P unary_less.S (unary_less.u k) := fnC hLay ulaw gok (fun f xs => (.ite (.entry (value_Less.call k)) (CallC.none) : CallC Tryz.prog U Lay _ f xs)) (fun f xs => (CallC2.none : CallC2 Tryz.prog U Lay _ f xs)) unary_less.fns (unary_less.loops k) (unary_less.ev k)
def value_And (k : Nat) (a0 : Val) (a1 : Val) : Option (Val × Int) :=
 (value_checks k ([a0, a1] : List Val)).bind fun r1 =>
 if (r1 != (0 : Int)) = true then
 some ((⟨(0 : Int), false, (⟨false, (⟨(0 : Int), (0 : Int)⟩ : Wide), (0 : Int)⟩ : Dec), ByteArray.empty, (0 : Int), ([] : List Val), ([] : List ByteArray)⟩ : Val), r1)
 else
 (value_both a0 a1).bind fun r2 =>
 some (r2, (0 : Int))
def value_And.u (k : Nat) (v : Val × Val) : Option (Val × Int) := value_And k v.1 v.2
def value_And.G (k : Nat) : Ctx U := ⟨tyOf, bytesOf, fun f xs => if f == 114 then entry value_checks.P value_checks.S (value_checks.u k) xs else if f == 116 then entry value_both.P value_both.S (value_both.u) xs else none, fun f xs => none, fun d => false⟩
def value_And.H (k : Nat) : Hint U := ⟨[], fun i => none, fun i => none, fun i => none⟩
theorem value_And.ev (k : Nat) (v : Val × Val) : evFn (value_And.G k) (value_And.H k) value_And.S Tryz.f119 (encA value_And.P v) = value_And.u k v := by kernel_rfl
theorem value_And.fns : Fns Tryz.prog 119 Tryz.f119 value_And.P := ⟨Tryz.func119, by kernel_rfl⟩
theorem value_And.loops (k : Nat) : LoopsOk (value_And.G k) (value_And.H k) (bodyOf Tryz.f119) 1 := loops_of (ps := []) (by kernel_rfl) trivial
theorem value_And.call (k : Nat) : FnC Tryz.prog U Lay 119 value_And.P value_And.S (value_And.u k) := fnC hLay ulaw gok (fun f xs => (.ite (.entry (value_checks.call k)) (.ite (.entry (value_both.call)) (CallC.none)) : CallC Tryz.prog U Lay _ f xs)) (fun f xs => (CallC2.none : CallC2 Tryz.prog U Lay _ f xs)) value_And.fns (value_And.loops k) (value_And.ev k)
def unary_test (k : Nat) (a0 : Node) (a1 : Val) (a2 : List Val) : Option (Val) :=
 if (a0.op == (30 : Int)) = true then
 (idx a2 (0 : Int)).bind fun e1 =>
 (value_Equal k a1 e1).bind fun r2 =>
 some r2.1
 else
 if (a0.op == (31 : Int)) = true then
 (idx a2 (0 : Int)).bind fun e3 =>
 (unary_less k a1 e3).bind fun r4 =>
 some r4
 else
 if (a0.op == (32 : Int)) = true then
 (idx a2 (0 : Int)).bind fun e5 =>
 (unary_less k e5 a1).bind fun r6 =>
 (unary_not k r6).bind fun r7 =>
 some r7
 else
 if (a0.op == (33 : Int)) = true then
 (idx a2 (0 : Int)).bind fun e8 =>
 (unary_less k e8 a1).bind fun r9 =>
 some r9
 else
 if (a0.op == (34 : Int)) = true then
 (idx a2 (0 : Int)).bind fun e10 =>
 (unary_less k a1 e10).bind fun r11 =>
 (unary_not k r11).bind fun r12 =>
 some r12
 else
 (idx a2 (0 : Int)).bind fun e13 =>
 (unary_less k e13 a1).bind fun r14 =>
 (idx a2 (1 : Int)).bind fun e15 =>
 (unary_less k a1 e15).bind fun r16 =>
 (idx a0.text.data.toList (0 : Int)).bind fun e17 =>
 ((if ((e17.toNat : Int) == (91 : Int)) = true then
 (idx a2 (0 : Int)).bind fun e18 =>
 (unary_less k a1 e18).bind fun r19 =>
 (unary_not k r19).bind fun r20 =>
 some (a2, a0, a1, (⟨(0 : Int), false, (⟨false, (⟨(0 : Int), (0 : Int)⟩ : Wide), (0 : Int)⟩ : Dec), ByteArray.empty, (0 : Int), ([] : List Val), ([] : List ByteArray)⟩ : Val), r20, r16)
 else
 some (a2, a0, a1, (⟨(0 : Int), false, (⟨false, (⟨(0 : Int), (0 : Int)⟩ : Wide), (0 : Int)⟩ : Dec), ByteArray.empty, (0 : Int), ([] : List Val), ([] : List ByteArray)⟩ : Val), r14, r16)) : Option ((List Val) × Node × Val × Val × Val × Val)).bind fun j21 =>
 (idx j21.2.1.text.data.toList (1 : Int)).bind fun e22 =>
 ((if ((e22.toNat : Int) == (93 : Int)) = true then
 (idx j21.1 (1 : Int)).bind fun e23 =>
 (unary_less k e23 j21.2.2.1).bind fun r24 =>
 (unary_not k r24).bind fun r25 =>
 some (j21.2.2.2.1, j21.2.2.2.2.1, r25)
 else
 some (j21.2.2.2.1, j21.2.2.2.2.1, j21.2.2.2.2.2)) : Option (Val × Val × Val)).bind fun j26 =>
 (value_And k j26.2.1 j26.2.2).bind fun r27 =>
 some r27.1
def unary_test.u (k : Nat) (v : Node × Val × (List Val)) : Option (Val) := unary_test k v.1 v.2.1 v.2.2
def unary_test.G (k : Nat) : Ctx U := ⟨tyOf, bytesOf, fun f xs => if f == 117 then entry value_Equal.P value_Equal.S (value_Equal.u k) xs else if f == 118 then entry unary_less.P unary_less.S (unary_less.u k) xs else if f == 78 then entry unary_not.P unary_not.S (unary_not.u k) xs else if f == 119 then entry value_And.P value_And.S (value_And.u k) xs else none, fun f xs => none, fun d => false⟩
def unary_test.H (k : Nat) : Hint U := ⟨[], fun i => none, fun i => none, fun i => if i == 125 then some ⟨[.ptr 6 6 [] (.st 3), .ptr 9 9 [] (.st 3), .ptr 10 10 [] (.st 3), .box 6 (.st 3) [[5], [6]], .box 9 (.st 3) [], .box 10 (.st 3) []], none⟩ else if i == 61 then some ⟨[.slot 2 (.sl (.st 3)), .ptr 3 3 [] (.st 0), .ptr 4 4 [] (.st 3), .ptr 6 6 [] (.st 3), .ptr 9 9 [] (.st 3), .ptr 10 10 [] (.st 3), .box 3 (.st 0) [], .box 4 (.st 3) [], .box 6 (.st 3) [[5], [6]], .box 9 (.st 3) [], .box 10 (.st 3) []], none⟩ else none⟩
theorem unary_test.ev (k : Nat) (v : Node × Val × (List Val)) : evFn (unary_test.G k) (unary_test.H k) unary_test.S Tryz.f80 (encA unary_test.P v) = unary_test.u k v := by kernel_rfl
theorem unary_test.fns : Fns Tryz.prog 80 Tryz.f80 unary_test.P := ⟨Tryz.func80, by kernel_rfl⟩
theorem unary_test.loops (k : Nat) : LoopsOk (unary_test.G k) (unary_test.H k) (bodyOf Tryz.f80) 1 := loops_of (ps := []) (by kernel_rfl) trivial
theorem unary_test.call (k : Nat) : FnC Tryz.prog U Lay 80 unary_test.P unary_test.S (unary_test.u k) := fnC hLay ulaw gok (fun f xs => (.ite (.entry (value_Equal.call k)) (.ite (.entry (unary_less.call k)) (.ite (.entry (unary_not.call k)) (.ite (.entry (value_And.call k)) (CallC.none)))) : CallC Tryz.prog U Lay _ f xs)) (fun f xs => (CallC2.none : CallC2 Tryz.prog U Lay _ f xs)) unary_test.fns (unary_test.loops k) (unary_test.ev k)
def unary_literal (a0 : Node) : Option (Val × Bool) :=
 ((if (a0.op == (2 : Int)) = true then
 some (a0.op, true, a0, (⟨(0 : Int), false, (⟨false, (⟨(0 : Int), (0 : Int)⟩ : Wide), (0 : Int)⟩ : Dec), ByteArray.empty, (0 : Int), ([] : List Val), ([] : List ByteArray)⟩ : Val))
 else
 some (a0.op, (a0.op == (3 : Int)), a0, (⟨(0 : Int), false, (⟨false, (⟨(0 : Int), (0 : Int)⟩ : Wide), (0 : Int)⟩ : Dec), ByteArray.empty, (0 : Int), ([] : List Val), ([] : List ByteArray)⟩ : Val))) : Option (Int × Bool × Node × Val)).bind fun j1 =>
 if j1.2.1 = true then
 (unary_truth (j1.2.2.1.op == (2 : Int))).bind fun r2 =>
 some (r2, true)
 else
 if (j1.1 == (4 : Int)) = true then
 some ((⟨(2 : Int), false, j1.2.2.1.num, ByteArray.empty, (0 : Int), ([] : List Val), ([] : List ByteArray)⟩ : Val), true)
 else
 if (j1.1 == (5 : Int)) = true then
 some ((⟨(3 : Int), false, (⟨false, (⟨(0 : Int), (0 : Int)⟩ : Wide), (0 : Int)⟩ : Dec), j1.2.2.1.text, (0 : Int), ([] : List Val), ([] : List ByteArray)⟩ : Val), true)
 else
 if (j1.1 == (6 : Int)) = true then
 some ((⟨(4 : Int), false, (⟨false, (⟨(0 : Int), (0 : Int)⟩ : Wide), (0 : Int)⟩ : Dec), ByteArray.empty, j1.2.2.1.day, ([] : List Val), ([] : List ByteArray)⟩ : Val), true)
 else
 some ((⟨(0 : Int), false, (⟨false, (⟨(0 : Int), (0 : Int)⟩ : Wide), (0 : Int)⟩ : Dec), ByteArray.empty, (0 : Int), ([] : List Val), ([] : List ByteArray)⟩ : Val), false)
def unary_literal.u (v : Node) : Option (Val × Bool) := unary_literal v
def unary_literal.G : Ctx U := ⟨tyOf, bytesOf, fun f xs => if f == 76 then entry unary_truth.P unary_truth.S (unary_truth.u) xs else none, fun f xs => none, fun d => false⟩
def unary_literal.H : Hint U := ⟨[], fun i => none, fun i => none, fun i => if i == 105 then some ⟨[.ptr 1 1 [] (.st 0), .ptr 2 2 [] (.st 3), .slot 5 (.int .i64), .slot 6 .bool, .box 1 (.st 0) [], .box 2 (.st 3) [[5], [6]]], none⟩ else none⟩
theorem unary_literal.ev (v : Node) : evFn (unary_literal.G) (unary_literal.H) unary_literal.S Tryz.f81 (encA unary_literal.P v) = unary_literal.u v := by kernel_rfl
theorem unary_literal.fns : Fns Tryz.prog 81 Tryz.f81 unary_literal.P := ⟨Tryz.func81, by kernel_rfl⟩
theorem unary_literal.loops : LoopsOk (unary_literal.G) (unary_literal.H) (bodyOf Tryz.f81) 1 := loops_of (ps := []) (by kernel_rfl) trivial
theorem unary_literal.call : FnC Tryz.prog U Lay 81 unary_literal.P unary_literal.S (unary_literal.u) := fnC hLay ulaw gok (fun f xs => (.ite (.entry (unary_truth.call)) (CallC.none) : CallC Tryz.prog U Lay _ f xs)) (fun f xs => (CallC2.none : CallC2 Tryz.prog U Lay _ f xs)) unary_literal.fns (unary_literal.loops) (unary_literal.ev)
def unary_machine_step.l17 (k : Nat) (v122 : List Val) (v123 : Int) (b0 : unary_machine) : Nat → Int → Val → Option (unary_machine × Val)
 | 0, _, _ => none
 | n + 1, v124, b7 =>
 if (decide (v124 < v123)) = true then
 (idx v122 v124).bind fun e13 =>
 (value_Or k b7 e13).bind fun r14 =>
 unary_machine_step.l17 k v122 v123 b0 n (IntKind.wrap .i64 (v124 + (1 : Int))) r14.1
 else
 some (b0, b7)
def unary_machine_step (k : Nat) (a0 : unary_machine) (a1 : Node) : Option (Bool × unary_machine) :=
 if (a1.op == (8 : Int)) = true then
 if ((a0.stack.length : Int) == (0 : Int)) = false then
 if 0 ≤ (IntKind.wrap .i64 ((a0.stack.length : Int) - (1 : Int))) ∧ (IntKind.wrap .i64 ((a0.stack.length : Int) - (1 : Int))) < (a0.stack.length : Int) then
 (idx a0.stack (IntKind.wrap .i64 ((a0.stack.length : Int) - (1 : Int)))).bind fun e1 =>
 if (e1.kind != (2 : Int)) = true then
 some (false, a0)
 else
 if 0 ≤ (IntKind.wrap .i64 ((a0.stack.length : Int) - (1 : Int))) ∧ (IntKind.wrap .i64 ((a0.stack.length : Int) - (1 : Int))) < (a0.stack.length : Int) then
 (idx a0.stack (IntKind.wrap .i64 ((a0.stack.length : Int) - (1 : Int)))).bind fun e2 =>
 (dec_Neg k e2.num).bind fun r3 =>
 (idx a0.stack (IntKind.wrap .i64 ((a0.stack.length : Int) - (1 : Int)))).bind fun e4 =>
 some (true, (⟨a0.v, (a0.stack.set ((IntKind.wrap .i64 ((a0.stack.length : Int) - (1 : Int)))).toNat (⟨e4.kind, e4.yes, r3.1, e4.text, e4.day, e4.list, e4.names⟩ : Val)), a0.ends, a0.is, a0.asked⟩ : unary_machine))
 else none
 else none
 else
 some (false, a0)
 else
 if (a1.op == (29 : Int)) = true then
 (unary_truth true).bind fun r5 =>
 if room ((a0.stack.length + ([(⟨(0 : Int), false, (⟨false, (⟨(0 : Int), (0 : Int)⟩ : Wide), (0 : Int)⟩ : Dec), ByteArray.empty, (0 : Int), ([] : List Val), ([] : List ByteArray)⟩ : Val)] : List Val).length) * 120) then
 if 0 ≤ (a0.stack.length : Int) ∧ (a0.stack.length : Int) < ((a0.stack ++ ([(⟨(0 : Int), false, (⟨false, (⟨(0 : Int), (0 : Int)⟩ : Wide), (0 : Int)⟩ : Dec), ByteArray.empty, (0 : Int), ([] : List Val), ([] : List ByteArray)⟩ : Val)] : List Val)).length : Int) then
 (idx (a0.stack ++ ([(⟨(0 : Int), false, (⟨false, (⟨(0 : Int), (0 : Int)⟩ : Wide), (0 : Int)⟩ : Dec), ByteArray.empty, (0 : Int), ([] : List Val), ([] : List ByteArray)⟩ : Val)] : List Val)) (a0.stack.length : Int)).bind fun e6 =>
 some (true, (⟨a0.v, ((a0.stack ++ ([(⟨(0 : Int), false, (⟨false, (⟨(0 : Int), (0 : Int)⟩ : Wide), (0 : Int)⟩ : Dec), ByteArray.empty, (0 : Int), ([] : List Val), ([] : List ByteArray)⟩ : Val)] : List Val)).set ((a0.stack.length : Int)).toNat r5), a0.ends, a0.is, a0.asked⟩ : unary_machine))
 else none
 else none
 else
 if (a1.op == (37 : Int)) = true then
 (unary_machine_pop a0 (1 : Int)).bind fun r7 =>
 (idx r7.1 (0 : Int)).bind fun e8 =>
 (unary_not k e8).bind fun r9 =>
 if room ((r7.2.stack.length + ([(⟨(0 : Int), false, (⟨false, (⟨(0 : Int), (0 : Int)⟩ : Wide), (0 : Int)⟩ : Dec), ByteArray.empty, (0 : Int), ([] : List Val), ([] : List ByteArray)⟩ : Val)] : List Val).length) * 120) then
 if 0 ≤ (r7.2.stack.length : Int) ∧ (r7.2.stack.length : Int) < ((r7.2.stack ++ ([(⟨(0 : Int), false, (⟨false, (⟨(0 : Int), (0 : Int)⟩ : Wide), (0 : Int)⟩ : Dec), ByteArray.empty, (0 : Int), ([] : List Val), ([] : List ByteArray)⟩ : Val)] : List Val)).length : Int) then
 (idx (r7.2.stack ++ ([(⟨(0 : Int), false, (⟨false, (⟨(0 : Int), (0 : Int)⟩ : Wide), (0 : Int)⟩ : Dec), ByteArray.empty, (0 : Int), ([] : List Val), ([] : List ByteArray)⟩ : Val)] : List Val)) (r7.2.stack.length : Int)).bind fun e10 =>
 some (true, (⟨r7.2.v, ((r7.2.stack ++ ([(⟨(0 : Int), false, (⟨false, (⟨(0 : Int), (0 : Int)⟩ : Wide), (0 : Int)⟩ : Dec), ByteArray.empty, (0 : Int), ([] : List Val), ([] : List ByteArray)⟩ : Val)] : List Val)).set ((r7.2.stack.length : Int)).toNat r9), r7.2.ends, r7.2.is, r7.2.asked⟩ : unary_machine))
 else none
 else none
 else
 if (a1.op == (36 : Int)) = true then
 (unary_truth false).bind fun r11 =>
 (unary_machine_pop a0 a1.kids).bind fun r12 =>
 (unary_machine_step.l17 k r12.1 (r12.1.length : Int) r12.2 k (0 : Int) r11).bind fun x15 =>
 if room ((x15.1.stack.length + ([(⟨(0 : Int), false, (⟨false, (⟨(0 : Int), (0 : Int)⟩ : Wide), (0 : Int)⟩ : Dec), ByteArray.empty, (0 : Int), ([] : List Val), ([] : List ByteArray)⟩ : Val)] : List Val).length) * 120) then
 if 0 ≤ (x15.1.stack.length : Int) ∧ (x15.1.stack.length : Int) < ((x15.1.stack ++ ([(⟨(0 : Int), false, (⟨false, (⟨(0 : Int), (0 : Int)⟩ : Wide), (0 : Int)⟩ : Dec), ByteArray.empty, (0 : Int), ([] : List Val), ([] : List ByteArray)⟩ : Val)] : List Val)).length : Int) then
 (idx (x15.1.stack ++ ([(⟨(0 : Int), false, (⟨false, (⟨(0 : Int), (0 : Int)⟩ : Wide), (0 : Int)⟩ : Dec), ByteArray.empty, (0 : Int), ([] : List Val), ([] : List ByteArray)⟩ : Val)] : List Val)) (x15.1.stack.length : Int)).bind fun e16 =>
 some (true, (⟨x15.1.v, ((x15.1.stack ++ ([(⟨(0 : Int), false, (⟨false, (⟨(0 : Int), (0 : Int)⟩ : Wide), (0 : Int)⟩ : Dec), ByteArray.empty, (0 : Int), ([] : List Val), ([] : List ByteArray)⟩ : Val)] : List Val)).set ((x15.1.stack.length : Int)).toNat x15.2), x15.1.ends, x15.1.is, x15.1.asked⟩ : unary_machine))
 else none
 else none
 else
 ((if (decide (a1.op ≥ (30 : Int))) = true then
 some (decide (a1.op ≤ (35 : Int)))
 else some false) : Option Bool).bind fun b17 =>
 if b17 = true then
 (unary_machine_pop a0 a1.kids).bind fun r18 =>
 if room ((r18.2.ends.length + r18.1.length) * 120) then
 ((if r18.2.is = true then
 some (a1.op == (30 : Int))
 else some false) : Option Bool).bind fun b19 =>
 (unary_truth false).bind fun r20 =>
 ((if r18.2.asked = true then
 (unary_test k a1 r18.2.v r18.1).bind fun r21 =>
 some ((⟨r18.2.v, r18.2.stack, (r18.2.ends ++ r18.1), b19, r18.2.asked⟩ : unary_machine), r21)
 else
 some ((⟨r18.2.v, r18.2.stack, (r18.2.ends ++ r18.1), b19, r18.2.asked⟩ : unary_machine), r20)) : Option (unary_machine × Val)).bind fun j22 =>
 if room ((j22.1.stack.length + ([(⟨(0 : Int), false, (⟨false, (⟨(0 : Int), (0 : Int)⟩ : Wide), (0 : Int)⟩ : Dec), ByteArray.empty, (0 : Int), ([] : List Val), ([] : List ByteArray)⟩ : Val)] : List Val).length) * 120) then
 if 0 ≤ (j22.1.stack.length : Int) ∧ (j22.1.stack.length : Int) < ((j22.1.stack ++ ([(⟨(0 : Int), false, (⟨false, (⟨(0 : Int), (0 : Int)⟩ : Wide), (0 : Int)⟩ : Dec), ByteArray.empty, (0 : Int), ([] : List Val), ([] : List ByteArray)⟩ : Val)] : List Val)).length : Int) then
 (idx (j22.1.stack ++ ([(⟨(0 : Int), false, (⟨false, (⟨(0 : Int), (0 : Int)⟩ : Wide), (0 : Int)⟩ : Dec), ByteArray.empty, (0 : Int), ([] : List Val), ([] : List ByteArray)⟩ : Val)] : List Val)) (j22.1.stack.length : Int)).bind fun e23 =>
 some (true, (⟨j22.1.v, ((j22.1.stack ++ ([(⟨(0 : Int), false, (⟨false, (⟨(0 : Int), (0 : Int)⟩ : Wide), (0 : Int)⟩ : Dec), ByteArray.empty, (0 : Int), ([] : List Val), ([] : List ByteArray)⟩ : Val)] : List Val)).set ((j22.1.stack.length : Int)).toNat j22.2), j22.1.ends, j22.1.is, j22.1.asked⟩ : unary_machine))
 else none
 else none
 else none
 else
 (unary_literal a1).bind fun r24 =>
 if room ((a0.stack.length + ([(⟨(0 : Int), false, (⟨false, (⟨(0 : Int), (0 : Int)⟩ : Wide), (0 : Int)⟩ : Dec), ByteArray.empty, (0 : Int), ([] : List Val), ([] : List ByteArray)⟩ : Val)] : List Val).length) * 120) then
 if 0 ≤ (a0.stack.length : Int) ∧ (a0.stack.length : Int) < ((a0.stack ++ ([(⟨(0 : Int), false, (⟨false, (⟨(0 : Int), (0 : Int)⟩ : Wide), (0 : Int)⟩ : Dec), ByteArray.empty, (0 : Int), ([] : List Val), ([] : List ByteArray)⟩ : Val)] : List Val)).length : Int) then
 (idx (a0.stack ++ ([(⟨(0 : Int), false, (⟨false, (⟨(0 : Int), (0 : Int)⟩ : Wide), (0 : Int)⟩ : Dec), ByteArray.empty, (0 : Int), ([] : List Val), ([] : List ByteArray)⟩ : Val)] : List Val)) (a0.stack.length : Int)).bind fun e25 =>
 some (r24.2, (⟨a0.v, ((a0.stack ++ ([(⟨(0 : Int), false, (⟨false, (⟨(0 : Int), (0 : Int)⟩ : Wide), (0 : Int)⟩ : Dec), ByteArray.empty, (0 : Int), ([] : List Val), ([] : List ByteArray)⟩ : Val)] : List Val)).set ((a0.stack.length : Int)).toNat r24.1), a0.ends, a0.is, a0.asked⟩ : unary_machine))
 else none
 else none
def unary_machine_step.u (k : Nat) (v : unary_machine × Node) : Option (Bool × unary_machine) := unary_machine_step k v.1 v.2
def unary_machine_step.G (k : Nat) : Ctx U := ⟨tyOf, bytesOf, fun f xs => if f == 75 then entry dec_Neg.P dec_Neg.S (dec_Neg.u k) xs else if f == 76 then entry unary_truth.P unary_truth.S (unary_truth.u) xs else if f == 77 then entry unary_machine_pop.P unary_machine_pop.S (unary_machine_pop.u) xs else if f == 78 then entry unary_not.P unary_not.S (unary_not.u k) xs else if f == 79 then entry value_Or.P value_Or.S (value_Or.u k) xs else if f == 80 then entry unary_test.P unary_test.S (unary_test.u k) xs else if f == 81 then entry unary_literal.P unary_literal.S (unary_literal.u) xs else none, fun f xs => none, fun d => false⟩
def unary_machine_step.l17.L (k : Nat) : ELoop U := ⟨[.ptr 0 0 [] (.st 4), .ptr 7 7 [] (.st 3), .slot 122 (.sl (.st 3)), .slot 123 (.int .i64), .slot 124 (.int .i64), .box 0 (.st 4) [[1], [2]], .box 7 (.st 3) []], 1, [.ptr 0 0 [] (.st 4), .ptr 7 7 [] (.st 3), .box 0 (.st 4) [[1], [2]], .box 7 (.st 3) []], fun (v : (List Val) × Int × Int × unary_machine × Val) => unary_machine_step.l17 k v.1 v.2.1 v.2.2.2.1 k v.2.2.1 v.2.2.2.2⟩
def unary_machine_step.H (k : Nat) : Hint U := ⟨[], fun i => if i == 53226 then some (unary_machine_step.l17.L k) else none, fun i => none, fun i => if i == 851901 then some ⟨[.ptr 0 0 [] (.st 4), .ptr 11 11 [] (.st 3), .box 0 (.st 4) [[1], [2]], .box 11 (.st 3) []], none⟩ else none⟩
theorem unary_machine_step.l17.ok (k n : Nat) (v : Vars U (unary_machine_step.l17.L k).ks) : loopT (unary_machine_step.G k) (unary_machine_step.H k) (pick [true, false, false, true, true, true, true, true, true, true, false, true, false, true, false, false] (bodyOf Tryz.f51)) 53226 (unary_machine_step.l17.L k) n v = (fun (v : (List Val) × Int × Int × unary_machine × Val) => unary_machine_step.l17 k v.1 v.2.1 v.2.2.2.1 n v.2.2.1 v.2.2.2.2) v :=
  loopT_eq (unary_machine_step.G k) (unary_machine_step.H k) _ _ (unary_machine_step.l17.L k) (fun n (v : (List Val) × Int × Int × unary_machine × Val) => unary_machine_step.l17 k v.1 v.2.1 v.2.2.2.1 n v.2.2.1 v.2.2.2.2) (fun _ => rfl) (fun n v => by kernel_rfl) n v
theorem unary_machine_step.ev (k : Nat) (v : unary_machine × Node) : evFn (unary_machine_step.G k) (unary_machine_step.H k) unary_machine_step.S Tryz.f51 (encA unary_machine_step.P v) = unary_machine_step.u k v := by kernel_rfl
theorem unary_machine_step.fns : Fns Tryz.prog 51 Tryz.f51 unary_machine_step.P := ⟨Tryz.func51, by kernel_rfl⟩
theorem unary_machine_step.loops (k : Nat) : LoopsOk (unary_machine_step.G k) (unary_machine_step.H k) (bodyOf Tryz.f51) 1 := loops_of (ps := [(53226, pick [true, false, false, true, true, true, true, true, true, true, false, true, false, true, false, false] (bodyOf Tryz.f51))]) (by kernel_rfl) ⟨loopT_ok rfl fun v x hx => ⟨k, (unary_machine_step.l17.ok k k v).trans hx⟩, trivial⟩
theorem unary_machine_step.call (k : Nat) : FnC Tryz.prog U Lay 51 unary_machine_step.P unary_machine_step.S (unary_machine_step.u k) := fnC hLay ulaw gok (fun f xs => (.ite (.entry (dec_Neg.call k)) (.ite (.entry (unary_truth.call)) (.ite (.entry (unary_machine_pop.call)) (.ite (.entry (unary_not.call k)) (.ite (.entry (value_Or.call k)) (.ite (.entry (unary_test.call k)) (.ite (.entry (unary_literal.call)) (CallC.none))))))) : CallC Tryz.prog U Lay _ f xs)) (fun f xs => (CallC2.none : CallC2 Tryz.prog U Lay _ f xs)) unary_machine_step.fns (unary_machine_step.loops k) (unary_machine_step.ev k)
def unary_machine_all.l3 (k : Nat) (v1 : List Node) (v10 : List Node) (v11 : Int) : Nat → Int → unary_machine → Option (Fl (unary_machine) (Bool × unary_machine))
 | 0, _, _ => none
 | n + 1, v12, b0 =>
 if (decide (v12 < v11)) = true then
 (idx v10 v12).bind fun e1 =>
 ((if (e1.op == (8 : Int)) = true then
 (idx v1 (IntKind.wrap .i64 (v12 - (1 : Int)))).bind fun e2 =>
 some (e2.op != (4 : Int))
 else some false) : Option Bool).bind fun b3 =>
 if b3 = false then
 (unary_machine_step k b0 e1).bind fun r4 =>
 if (!r4.1) = true then
 some (Fl.ret (false, r4.2))
 else
 unary_machine_all.l3 k v1 v10 v11 n (IntKind.wrap .i64 (v12 + (1 : Int))) r4.2
 else
 some (Fl.ret (false, b0))
 else
 some (Fl.go b0)
def unary_machine_all (k : Nat) (a0 : unary_machine) (a1 : List Node) : Option (Bool × unary_machine) :=
 (unary_machine_all.l3 k a1 a1 (a1.length : Int) k (0 : Int) (⟨a0.v, a0.stack, a0.ends, true, a0.asked⟩ : unary_machine)).bind fun o => (match o with
 | .go x5 =>
 some (true, x5)
 | .ret x6 =>
 some (x6.1, x6.2))
def unary_machine_all.u (k : Nat) (v : unary_machine × (List Node)) : Option (Bool × unary_machine) := unary_machine_all k v.1 v.2
def unary_machine_all.G (k : Nat) : Ctx U := ⟨tyOf, bytesOf, fun f xs => if f == 51 then entry unary_machine_step.P unary_machine_step.S (unary_machine_step.u k) xs else none, fun f xs => none, fun d => false⟩
def unary_machine_all.l3.L (k : Nat) : ELoopR U := ⟨[.ptr 0 0 [] (.st 4), .slot 1 (.sl (.st 0)), .slot 10 (.sl (.st 0)), .slot 11 (.int .i64), .slot 12 (.int .i64), .box 0 (.st 4) [[1], [2]]], 0, [.box 0 (.st 4) [[1], [2]]], [.slot 4 .bool, .box 0 (.st 4) [[1], [2]]], fun (v : (List Node) × (List Node) × Int × Int × unary_machine) => unary_machine_all.l3 k v.1 v.2.1 v.2.2.1 k v.2.2.2.1 v.2.2.2.2⟩
def unary_machine_all.H (k : Nat) : Hint U := ⟨[34], fun i => none, fun i => if i == 58 then some (unary_machine_all.l3.L k) else none, fun i => none⟩
theorem unary_machine_all.l3.ok (k n : Nat) (v : Vars U (unary_machine_all.l3.L k).ks) : loopRT (unary_machine_all.G k) (unary_machine_all.H k) (pick [true, true, false, true, false, false] (bodyOf Tryz.f29)) 58 (unary_machine_all.l3.L k) n v = (fun (v : (List Node) × (List Node) × Int × Int × unary_machine) => unary_machine_all.l3 k v.1 v.2.1 v.2.2.1 n v.2.2.2.1 v.2.2.2.2) v :=
  loopRT_eq (unary_machine_all.G k) (unary_machine_all.H k) _ _ (unary_machine_all.l3.L k) (fun n (v : (List Node) × (List Node) × Int × Int × unary_machine) => unary_machine_all.l3 k v.1 v.2.1 v.2.2.1 n v.2.2.2.1 v.2.2.2.2) (fun _ => rfl) (fun n v => by kernel_rfl) n v
theorem unary_machine_all.ev (k : Nat) (v : unary_machine × (List Node)) : evFn (unary_machine_all.G k) (unary_machine_all.H k) unary_machine_all.S Tryz.f29 (encA unary_machine_all.P v) = unary_machine_all.u k v := by kernel_rfl
theorem unary_machine_all.fns : Fns Tryz.prog 29 Tryz.f29 unary_machine_all.P := ⟨Tryz.func29, by kernel_rfl⟩
theorem unary_machine_all.loops (k : Nat) : LoopsOk (unary_machine_all.G k) (unary_machine_all.H k) (bodyOf Tryz.f29) 1 := loops_of (ps := [(58, pick [true, true, false, true, false, false] (bodyOf Tryz.f29))]) (by kernel_rfl) ⟨loopR_ok rfl rfl fun v x hx => ⟨k, (unary_machine_all.l3.ok k k v).trans hx⟩, trivial⟩
theorem unary_machine_all.call (k : Nat) : FnC Tryz.prog U Lay 29 unary_machine_all.P unary_machine_all.S (unary_machine_all.u k) := fnC hLay ulaw gok (fun f xs => (.ite (.entry (unary_machine_step.call k)) (CallC.none) : CallC Tryz.prog U Lay _ f xs)) (fun f xs => (CallC2.none : CallC2 Tryz.prog U Lay _ f xs)) unary_machine_all.fns (unary_machine_all.loops k) (unary_machine_all.ev k)
def unary_Match (k : Nat) (a0 : List Node) (a1 : Val) : Option (Val × Int) :=
 (expr_Check k a0 true).bind fun r1 =>
 if (r1 != (0 : Int)) = true then
 some ((⟨(0 : Int), false, (⟨false, (⟨(0 : Int), (0 : Int)⟩ : Wide), (0 : Int)⟩ : Dec), ByteArray.empty, (0 : Int), ([] : List Val), ([] : List ByteArray)⟩ : Val), r1)
 else
 (value_Check k a1).bind fun r2 =>
 if (r2 != (0 : Int)) = true then
 some ((⟨(0 : Int), false, (⟨false, (⟨(0 : Int), (0 : Int)⟩ : Wide), (0 : Int)⟩ : Dec), ByteArray.empty, (0 : Int), ([] : List Val), ([] : List ByteArray)⟩ : Val), r2)
 else
 (unary_machine_all k (⟨a1, ([] : List Val), ([] : List Val), false, true⟩ : unary_machine) a0).bind fun r3 =>
 if (!r3.1) = true then
 some ((⟨(0 : Int), false, (⟨false, (⟨(0 : Int), (0 : Int)⟩ : Wide), (0 : Int)⟩ : Dec), ByteArray.empty, (0 : Int), ([] : List Val), ([] : List ByteArray)⟩ : Val), (18 : Int))
 else
 if 0 ≤ (0 : Int) ∧ (0 : Int) < (r3.2.stack.length : Int) then
 (idx r3.2.stack (0 : Int)).bind fun e4 =>
 some (e4, (0 : Int))
 else none
def unary_Match.u (k : Nat) (v : (List Node) × Val) : Option (Val × Int) := unary_Match k v.1 v.2
def unary_Match.G (k : Nat) : Ctx U := ⟨tyOf, bytesOf, fun f xs => if f == 27 then entry expr_Check.P expr_Check.S (expr_Check.u k) xs else if f == 28 then entry value_Check.P value_Check.S (value_Check.u k) xs else if f == 29 then entry unary_machine_all.P unary_machine_all.S (unary_machine_all.u k) xs else none, fun f xs => none, fun d => false⟩
def unary_Match.H (k : Nat) : Hint U := ⟨[], fun i => none, fun i => none, fun i => none⟩
theorem unary_Match.ev (k : Nat) (v : (List Node) × Val) : evFn (unary_Match.G k) (unary_Match.H k) unary_Match.S Tryz.f9 (encA unary_Match.P v) = unary_Match.u k v := by kernel_rfl
theorem unary_Match.fns : Fns Tryz.prog 9 Tryz.f9 unary_Match.P := ⟨Tryz.func9, by kernel_rfl⟩
theorem unary_Match.loops (k : Nat) : LoopsOk (unary_Match.G k) (unary_Match.H k) (bodyOf Tryz.f9) 1 := loops_of (ps := []) (by kernel_rfl) trivial
theorem unary_Match.call (k : Nat) : FnC Tryz.prog U Lay 9 unary_Match.P unary_Match.S (unary_Match.u k) := fnC hLay ulaw gok (fun f xs => (.ite (.entry (expr_Check.call k)) (.ite (.entry (value_Check.call k)) (.ite (.entry (unary_machine_all.call k)) (CallC.none))) : CallC Tryz.prog U Lay _ f xs)) (fun f xs => (CallC2.none : CallC2 Tryz.prog U Lay _ f xs)) unary_Match.fns (unary_Match.loops k) (unary_Match.ev k)
def unary_gathered (k : Nat) (a0 : List Node) : Option (Fl (unary_machine × Bool × Int) (Bool × Int)) :=
 (expr_Check k a0 true).bind fun r1 =>
 if (r1 != (0 : Int)) = true then
 some (Fl.ret (false, r1))
 else
 (unary_machine_all k (⟨(⟨(0 : Int), false, (⟨false, (⟨(0 : Int), (0 : Int)⟩ : Wide), (0 : Int)⟩ : Dec), ByteArray.empty, (0 : Int), ([] : List Val), ([] : List ByteArray)⟩ : Val), ([] : List Val), ([] : List Val), false, false⟩ : unary_machine) a0).bind fun r2 =>
 some (Fl.go (r2.2, r2.1, (0 : Int)))
def unary_gathered.u (k : Nat) (v : (List Node)) : Option (Fl (unary_machine × Bool × Int) (Bool × Int)) := unary_gathered k v
def unary_gathered.G (k : Nat) : Ctx U := ⟨tyOf, bytesOf, fun f xs => if f == 27 then entry expr_Check.P expr_Check.S (expr_Check.u k) xs else if f == 29 then entry unary_machine_all.P unary_machine_all.S (unary_machine_all.u k) xs else none, fun f xs => none, fun d => false⟩
def unary_gathered.H (k : Nat) : Hint U := ⟨[], fun i => none, fun i => none, fun i => none⟩
theorem unary_gathered.ev (k : Nat) (v : (List Node)) : evFn2 (unary_gathered.G k) (unary_gathered.H k) unary_gathered.S unary_gathered.S2 Tryz.f31 (encA unary_gathered.P v) = unary_gathered.u k v := by kernel_rfl
theorem unary_gathered.fns : Fns Tryz.prog 31 Tryz.f31 unary_gathered.P := ⟨Tryz.func31, by kernel_rfl⟩
theorem unary_gathered.loops (k : Nat) : LoopsOk (unary_gathered.G k) (unary_gathered.H k) (bodyOf Tryz.f31) 1 := loops_of (ps := []) (by kernel_rfl) trivial
theorem unary_gathered.call (k : Nat) : FnC2 Tryz.prog U Lay 31 unary_gathered.P unary_gathered.S unary_gathered.S2 (unary_gathered.u k) := fnC2 hLay ulaw gok (fun f xs => (.ite (.entry (expr_Check.call k)) (.ite (.entry (unary_machine_all.call k)) (CallC.none)) : CallC Tryz.prog U Lay _ f xs)) (fun f xs => (CallC2.none : CallC2 Tryz.prog U Lay _ f xs)) unary_gathered.fns (unary_gathered.loops k) (unary_gathered.ev k)
def unary_Ends (k : Nat) (a0 : List Node) : Option ((List Val) × Int) :=
 (unary_gathered k a0).bind fun o => o.elim (fun r1 =>
 if (r1.2.2 != (0 : Int)) = true then
 some (([] : List Val), r1.2.2)
 else
 if (!r1.2.1) = true then
 some (([] : List Val), (18 : Int))
 else
 some (r1.1.ends, (0 : Int))) (fun r2 =>
 if (r2.2 != (0 : Int)) = true then
 some (([] : List Val), r2.2)
 else
 if (!r2.1) = true then
 some (([] : List Val), (18 : Int))
 else
 none)
def unary_Ends.u (k : Nat) (v : (List Node)) : Option ((List Val) × Int) := unary_Ends k v
def unary_Ends.G (k : Nat) : Ctx U := ⟨tyOf, bytesOf, fun f xs => none, fun f xs => if f == 31 then entry2 unary_gathered.P unary_gathered.S unary_gathered.S2 (unary_gathered.u k) xs else none, fun d => false⟩
def unary_Ends.H (k : Nat) : Hint U := ⟨[], fun i => none, fun i => none, fun i => none⟩
theorem unary_Ends.ev (k : Nat) (v : (List Node)) : evFn (unary_Ends.G k) (unary_Ends.H k) unary_Ends.S Tryz.f11 (encA unary_Ends.P v) = unary_Ends.u k v := by kernel_rfl
theorem unary_Ends.fns : Fns Tryz.prog 11 Tryz.f11 unary_Ends.P := ⟨Tryz.func11, by kernel_rfl⟩
theorem unary_Ends.loops (k : Nat) : LoopsOk (unary_Ends.G k) (unary_Ends.H k) (bodyOf Tryz.f11) 1 := loops_of (ps := []) (by kernel_rfl) trivial
theorem unary_Ends.call (k : Nat) : FnC Tryz.prog U Lay 11 unary_Ends.P unary_Ends.S (unary_Ends.u k) := fnC hLay ulaw gok (fun f xs => (CallC.none : CallC Tryz.prog U Lay _ f xs)) (fun f xs => (.ite (.entry (unary_gathered.call k)) (CallC2.none) : CallC2 Tryz.prog U Lay _ f xs)) unary_Ends.fns (unary_Ends.loops k) (unary_Ends.ev k)
def tariffref07_Is (a0 : Val) (a1 : Bool) : Option (Bool) :=
 ((if (a0.kind == (1 : Int)) = true then
 some (a0.yes == a1)
 else some false) : Option Bool).bind fun b1 =>
 some b1
def tariffref07_Is.u (v : Val × Bool) : Option (Bool) := tariffref07_Is v.1 v.2
def tariffref07_Is.G : Ctx U := ⟨tyOf, bytesOf, fun f xs => none, fun f xs => none, fun d => false⟩
def tariffref07_Is.H : Hint U := ⟨[], fun i => none, fun i => none, fun i => none⟩
theorem tariffref07_Is.ev (v : Val × Bool) : evFn (tariffref07_Is.G) (tariffref07_Is.H) tariffref07_Is.S Tryz.f22 (encA tariffref07_Is.P v) = tariffref07_Is.u v := by kernel_rfl
theorem tariffref07_Is.fns : Fns Tryz.prog 22 Tryz.f22 tariffref07_Is.P := ⟨Tryz.func22, by kernel_rfl⟩
theorem tariffref07_Is.loops : LoopsOk (tariffref07_Is.G) (tariffref07_Is.H) (bodyOf Tryz.f22) 1 := loops_of (ps := []) (by kernel_rfl) trivial
theorem tariffref07_Is.call : FnC Tryz.prog U Lay 22 tariffref07_Is.P tariffref07_Is.S (tariffref07_Is.u) := fnC hLay ulaw gok (fun f xs => (CallC.none : CallC Tryz.prog U Lay _ f xs)) (fun f xs => (CallC2.none : CallC2 Tryz.prog U Lay _ f xs)) tariffref07_Is.fns (tariffref07_Is.loops) (tariffref07_Is.ev)
end Go.EvT
end
