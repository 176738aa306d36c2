/- For all nodes of small bulk the law UnaryApart answers true: what is handed in stays as it is, spare room too; answers are memory of their own. Conditions: those of the given card (its second form, by size). -/
import Derived.Test.YtlpfolhckkcopaaGreatDoorApart6
import Derived.Test.YtlpfolhckkcopaaGreatDoorCards
import Derived.Test.YtlpfolhckkcopaaGreatDoorTie
import Derived.Lib.LaidU8T
import Derived.ProofKit
import Derived.OpenShut
set_option linter.unusedVariables false
set_option linter.unusedSimpArgs false
section
set_option maxRecDepth 100000
namespace Go.EvT
open Go.Proofs Go.Ev Go.Proofs Go.ChangeShapes Go.WideShapes Go.RowKit Go.Lib
namespace RW
open Go.Proofs.YtlpfolhckkcopaaGreatDoor
theorem rd_build0 (ds : List U.D) (h : ds.map D.t = U.tys 0) : ∃ x : U.car 0, U.get 0 x = ds := by
  have h : ds.map D.t = [(.int .i64), (.int .i64), .str, (.st 1), (.int .i64)] := h
  rcases ds with _ | ⟨⟨t0, x0⟩, _ | ⟨⟨t1, x1⟩, _ | ⟨⟨t2, x2⟩, _ | ⟨⟨t3, x3⟩, _ | ⟨⟨t4, x4⟩, _ | ⟨w, ws⟩⟩⟩⟩⟩⟩
  · cases h
  · cases h
  · cases h
  · cases h
  · cases h
  · cases h
    exact ⟨(⟨x0, x1, x2, x3, x4⟩ : Node), rfl⟩
  · cases h
theorem rd_build1 (ds : List U.D) (h : ds.map D.t = U.tys 1) : ∃ x : U.car 1, U.get 1 x = ds := by
  have h : ds.map D.t = [.bool, (.st 2), (.int .i64)] := h
  rcases ds with _ | ⟨⟨t0, x0⟩, _ | ⟨⟨t1, x1⟩, _ | ⟨⟨t2, x2⟩, _ | ⟨w, ws⟩⟩⟩⟩
  · cases h
  · cases h
  · cases h
  · cases h
    exact ⟨(⟨x0, x1, x2⟩ : Dec), rfl⟩
  · cases h
theorem rd_build2 (ds : List U.D) (h : ds.map D.t = U.tys 2) : ∃ x : U.car 2, U.get 2 x = ds := by
  have h : ds.map D.t = [(.int .u64), (.int .u64)] := h
  rcases ds with _ | ⟨⟨t0, x0⟩, _ | ⟨⟨t1, x1⟩, _ | ⟨w, ws⟩⟩⟩
  · cases h
  · cases h
  · cases h
    exact ⟨(⟨x0, x1⟩ : Wide), rfl⟩
  · cases h
theorem rd_build3 (ds : List U.D) (h : ds.map D.t = U.tys 3) : ∃ x : U.car 3, U.get 3 x = ds := by
  have h : ds.map D.t = [(.int .i64), .bool, (.st 1), .str, (.int .i64), (.sl (.st 3)), (.sl .str)] := h
  rcases ds with _ | ⟨⟨t0, x0⟩, _ | ⟨⟨t1, x1⟩, _ | ⟨⟨t2, x2⟩, _ | ⟨⟨t3, x3⟩, _ | ⟨⟨t4, x4⟩, _ | ⟨⟨t5, x5⟩, _ | ⟨⟨t6, x6⟩, _ | ⟨w, ws⟩⟩⟩⟩⟩⟩⟩⟩
  · cases h
  · cases h
  · cases h
  · cases h
  · cases h
  · cases h
  · cases h
  · cases h
    exact ⟨(⟨x0, x1, x2, x3, x4, x5, x6⟩ : Val), rfl⟩
  · cases h
theorem rd_build4 (ds : List U.D) (h : ds.map D.t = U.tys 4) : ∃ x : U.car 4, U.get 4 x = ds := by
  have h : ds.map D.t = [(.st 3), (.sl (.st 3)), (.sl (.st 3)), .bool, .bool] := h
  rcases ds with _ | ⟨⟨t0, x0⟩, _ | ⟨⟨t1, x1⟩, _ | ⟨⟨t2, x2⟩, _ | ⟨⟨t3, x3⟩, _ | ⟨⟨t4, x4⟩, _ | ⟨w, ws⟩⟩⟩⟩⟩⟩
  · cases h
  · cases h
  · cases h
  · cases h
  · cases h
  · cases h
    exact ⟨(⟨x0, x1, x2, x3, x4⟩ : unary_machine), rfl⟩
  · cases h
theorem rd_build5 (ds : List U.D) (h : ds.map D.t = U.tys 5) : ∃ x : U.car 5, U.get 5 x = ds := by
  have h : ds.map D.t = [(.int .i64), (.int .i64), (.int .i64)] := h
  rcases ds with _ | ⟨⟨t0, x0⟩, _ | ⟨⟨t1, x1⟩, _ | ⟨⟨t2, x2⟩, _ | ⟨w, ws⟩⟩⟩⟩
  · cases h
  · cases h
  · cases h
  · cases h
    exact ⟨(⟨x0, x1, x2⟩ : expr_thing), rfl⟩
  · cases h
theorem rd_build : ∀ id ds, ds.map D.t = U.tys id → U.tys id ≠ [] → ∃ x, U.get id x = ds
  | 0, ds, h, _ => rd_build0 ds h
  | 1, ds, h, _ => rd_build1 ds h
  | 2, ds, h, _ => rd_build2 ds h
  | 3, ds, h, _ => rd_build3 ds h
  | 4, ds, h, _ => rd_build4 ds h
  | 5, ds, h, _ => rd_build5 ds h
  | _ + 6, ds, _, hne => absurd rfl hne
theorem rdok : RdOk Tryz.prog U tyL := ⟨by kernel_rfl, rd_build⟩
theorem bulkAll {H : Type} : ∀ l : List (DataW H), Rows.uptoBulkAll l = sumB Rows.uptoBulk l
  | [] => rfl
  | d :: r => by simp only [Rows.uptoBulkAll, sumB, bulkAll r]
theorem bulkOk (H : Type) : BulkOk (Rows.uptoBulk (H := H)) where
  lit l := by cases l <;> simp [Rows.uptoBulk]
  str bytes := by simp [Rows.uptoBulk]
  nil := by simp [Rows.uptoBulk]
  slice es rs := by simp only [Rows.uptoBulk, bulkAll]; omega
  agg es := by simp only [Rows.uptoBulk, bulkAll]; omega
theorem sumB_le {H : Type} : ∀ a b : List (DataW H), sumB Rows.uptoBulk a ≤ sumB Rows.uptoBulk (a ++ b)
  | [], _ => Nat.zero_le _
  | d :: a, b => by
    have := sumB_le a b
    simp only [List.cons_append, sumB]
    omega
theorem own : ownKnob Tryz.prog.godebug = none := by kernel_rfl
theorem laidOut : laidOutB Tryz.prog = true := by kernel_rfl
end RW
end Go.EvT
end
section
set_option maxRecDepth 100000
namespace Go.EvT
open Go.Ev Go Go.Lib
theorem db_up {a b : Nat} {d : U.D} (h : DB U a d) (hab : a ≤ b) : DB U b d := by
  cases h with
  | int h1 h2 => exact .int h1 (by omega)
  | bool h1 => exact .bool (by omega)
  | str h1 => exact .str (by omega)
  | sl h1 h2 => exact .sl h1 (by omega)
  | arr h1 h2 => exact .arr h1 (by omega)
  | st h1 h2 => exact .st h1 (by omega)
theorem dbl_all : ∀ {N : Nat} {ds : List U.D}, DBL U N ds → ds.length ≤ N ∧ ∀ d ∈ ds, DB U N d
  | N, [], _ => ⟨Nat.zero_le _, fun d h => by cases h⟩
  | N, d :: ds, h => by
    cases h with
    | @cons a b _ _ _ h1 h2 h3 =>
      obtain ⟨g1, g2⟩ := dbl_all h2
      have h1' : 1 ≤ a := by cases h1 <;> omega
      refine ⟨by simp only [List.length_cons]; omega, fun x hx => ?_⟩
      cases hx with
      | head => exact db_up h1 (by omega)
      | tail _ hx => exact db_up (g2 x hx) (by omega)
theorem db_sl {N : Nat} {e : Ty} {l : List (e.den U.car)} (h : DB U N ⟨.sl e, l⟩) : l.length + 1 ≤ N ∧ ∀ x ∈ l, DB U N ⟨e, x⟩ := by
  cases h with
  | sl h1 h2 =>
    obtain ⟨g1, g2⟩ := dbl_all h1
    rw [List.length_map] at g1
    exact ⟨by omega, fun x hx => db_up (g2 _ (List.mem_map_of_mem hx)) (by omega)⟩
theorem db_str {N : Nat} {s : ByteArray} (h : DB U N ⟨.str, s⟩) : s.size + 1 ≤ N := by
  cases h with
  | str h1 => exact h1
theorem db_int {N : Nat} {k : IntKind} {n : Int} (h : DB U N ⟨.int k, n⟩) : fitInt k n := by
  cases h with
  | int h1 _ => exact h1
theorem db_st {N id : Nat} {x : U.car id} (h : DB U N ⟨.st id, x⟩) : ∀ d ∈ U.get id x, DB U N d := by
  cases h with
  | st h1 h2 => exact fun d hd => db_up ((dbl_all h1).2 d hd) (by omega)
theorem wide_ok {N : Nat} {w : Wide} (h : DB U N ⟨.st 2, w⟩) : w.Ok := by
  have h := db_st h
  have h1 := fit_u64 (db_int (h ⟨.int .u64, w.hi⟩ (.head _)))
  have h2 := fit_u64 (db_int (h ⟨.int .u64, w.lo⟩ (.tail _ (.head _))))
  exact ⟨h1, h2⟩
theorem dec_ok {N : Nat} {d : Dec} (h : DB U N ⟨.st 1, d⟩) : d.coef.Ok := wide_ok (db_st h ⟨.st 2, d.coef⟩ (.tail _ (.head _)))
theorem node_ok {N : Nat} {n : Node} (h : DB U N ⟨.st 0, n⟩) (hN : N ≤ 2000000) : NodeOk n := by
  have h := db_st h
  have h1 := db_str (h ⟨.str, n.text⟩ (.tail _ (.tail _ (.head _))))
  exact ⟨dec_ok (h ⟨.st 1, n.num⟩ (.tail _ (.tail _ (.tail _ (.head _))))), by omega⟩
theorem nodes_ok {N K : Nat} {l : List Node} (h : DB U N ⟨.sl (.st 0), l⟩) (hN : N ≤ 2000000) (hK : N + 1000 ≤ K) : NodesOk K l := fun n hn => by
  have hd := (db_sl h).2 n hn
  have h1 := db_str (db_st hd ⟨.str, n.text⟩ (.tail _ (.tail _ (.head _))))
  exact ⟨node_ok hd hN, by omega⟩
end Go.EvT
end
section

end
section
set_option maxRecDepth 100000
namespace Go.EvT
open Go.Ev Go.Proofs Go.ChangeShapes Go.WideShapes Go.RowKit Go.Lib Go.Shelf
namespace RWUnaryApart
open Go.Proofs.YtlpfolhckkcopaaGreatDoor RW
noncomputable def laidWorld (os : Os) : World :=
  let w0 := World.holding Tryz.prog os ⟨#[], #[], []⟩
  let put (h : Array Obj) (g : Nat) (cs : Array Value) : Array Obj := h.modify g fun
    | .cells _ t frozen => .cells cs t frozen
    | o => o
  let h1 := put w0.heap 0 (Lib.firstTab.map fun z => Value.int .u8 z).toArray
  let h2 := put h1 1 ((List.range 16).flatMap fun i => [Value.int .u8 (Lib.accLo i), Value.int .u8 (Lib.accHi i)]).toArray
  { w0 with heap := h2 }
theorem laid_met (os : Os) (args : Array Value) : laidMet Tryz.prog Rows.unaryApartUptoRow.laid ((laidWorld os).forCall (fun _ _ => 0) ⟨#[], args, []⟩).memory :=
  (LaidIn.of_run [1, 0] 8 (by kernel_rfl) (by kernel_rfl) (by kernel_rfl) (by kernel_rfl)).met
theorem utf8_lay {W : World} (hL : laidMetH Tryz.prog Rows.unaryApartUptoRow.laid W) : Lay (fun b => b < W.heap.size) W := by
  have hU : Lib.Utf8Tabs 0 1 W := utf8Tabs_of_readsT (ρ := Tryz.laysValid_ren) (U8Types.of196 Tryz.laysValid) ⟨by kernel_rfl, by kernel_rfl, by kernel_rfl, by kernel_rfl, by kernel_rfl, by kernel_rfl, by kernel_rfl⟩ (Lib.laidMet.reads hL (.tail _ (.head _))) (Lib.laidMet.reads hL (.head _))
  have hb : 1 < W.heap.size := by
    have := (hU.2 0 (by decide)).1
    unfold World.cell? at this
    cases hh : W.heap[1]? with
    | none => simp [hh] at this
    | some o => exact getElem?_lt (by simpa using hh)
  exact ⟨Nat.lt_of_le_of_lt (by decide) hb, hb, hU⟩
theorem law (xs : List U.D) (h1 : xs.map D.t = [(.sl (.st 0))]) (h2 : DBL U 1048576 xs) :
    ∃ (F : Tup U.car (ptys tarifflaw12_UnaryApart.P) → Option (Tup U.car [.bool])) (v : Tup U.car (ptys tarifflaw12_UnaryApart.P)), FnC Tryz.prog U Lay 4 tarifflaw12_UnaryApart.P ⟨[.d .bool], []⟩ F ∧ F v = some true ∧ encA tarifflaw12_UnaryApart.P v = xs.map .d := by
  rcases xs with _ | ⟨⟨t0, x0⟩, _ | ⟨w, ws⟩⟩
  · cases h1
  · cases h1
    have hd := (dbl_all h2).2
    have hl := db_sl (hd _ (.head _))
    exact ⟨tarifflaw12_UnaryApart.u (2000000 + 60), x0, tarifflaw12_UnaryApart.call _, unaryApart_true 2000000 (by decide) x0 (Nat.le_trans (Nat.le_of_succ_le hl.1) (by decide)) (nodes_ok (hd _ (.head _)) (by decide) (by decide)), rfl⟩
  · cases h1
theorem contract (H : Type) (enc : TypeId × Value → H) (W : World) (base : Nat) (args : Array Value) (ds gs : List (DataW H)) (before : List MemPlace)
    (hval : ∀ (j : Nat) t v, Tryz.f4.params[j]? = some t → args[j]? = some v → Value.okWide Tryz.prog W .any base t v)
    (hW : DataW.Whole enc Tryz.prog Tryz.f4.params.toList Rows.unaryApartSpec.vars false W args.toList ds gs before) (hcond : Rows.uptoSmall H (ds ++ gs) = true) (hL : laidMetH Tryz.prog Rows.unaryApartUptoRow.laid W) :
    Calls Tryz.prog 4 args W fun e W' => ∃ v, e = .returned v ∧ Rows.unaryApartSpec.post enc Tryz.prog Tryz.f4 false true false false W args v W' := by
  have hb : sumB Rows.uptoBulk ds ≤ 1048576 := by
    have h := of_decide_eq_true hcond
    rw [bulkAll] at h
    exact Nat.le_trans (sumB_le ds gs) h
  exact row_contract (bulkOk H) rdok laidOut (Ts := [22]) (ts := [(.sl (.st 0))]) (bt := 4) (by kernel_rfl) (fun x hx => by
    have hx := List.mem_singleton.1 hx
    subst hx
    exact hasRd_mem (by kernel_rfl)) rfl (fun t ht => by
    have ht := List.mem_singleton.1 ht
    subst ht
    exact ⟨by kernel_rfl, of_decide_eq_true (by kernel_rfl)⟩) rfl (by kernel_rfl) Tryz.underlying4 (fun ds h => by
    rcases ds with _ | ⟨d0, _ | ⟨e, r⟩⟩
    · cases h
    · rfl
    · cases h) tarifflaw12_UnaryApart.fns law hval hW hb (utf8_lay hL)
theorem reads (os : Os) {H : Type} (enc : TypeId × Value → H) : ∃ places, DataW.whole enc Tryz.prog ((laidWorld os).forCall (fun _ _ => 0) ⟨#[], #[.slice none 0 0], []⟩).memory Tryz.f4.params.toList Rows.unaryApartSpec.vars false (#[.slice none 0 0] : Array Value).toList 8 = some ([.nil], [], places) :=
  ⟨[], by kernel_rfl⟩
theorem lifted (os : Os) (started : os.Started) (H : Type) (enc : TypeId × Value → H) (F : Stop.Interp) :
    ReturnsInHanded {} Tryz.checked os 4 .any ((Rows.OpenSpec.upto Rows.unaryApartSpec).preRow enc Tryz.prog Tryz.f4 Rows.unaryApartUptoRow.domain false Rows.unaryApartUptoRow.laid) (((Rows.OpenSpec.upto Rows.unaryApartSpec).at F).post enc Tryz.prog Tryz.f4 false true false false) := by
  obtain ⟨places, hx⟩ := reads os enc
  refine returnsInHanded_of_row (C := Tryz.checked) (s := Rows.OpenSpec.upto Rows.unaryApartSpec) own started (by kernel_rfl) Tryz.func4
    (witness_row_at (enc := enc) (C := Tryz.checked) false (laidWorld os) #[.slice none 0 0] rfl (by kernel_rfl) (by kernel_rfl) (by kernel_rfl)
      (OpenSpec.preRow_of_cond 8 hx (by kernel_rfl) (fun k hk => by cases hk; kernel_rfl) (by kernel_rfl) (laid_met os _))) ?_
  intro W base args ds gs before hval hW _ hcond _ hL _ _
  exact contract H enc W base args ds gs before hval hW (hcond _ rfl) hL
theorem said : Rows.UnaryApartUptoSaid :=
  OpenClaim.holds_of_cond 4 Tryz.f4 rfl rfl rfl rfl rfl rfl rfl ⟨rfl, rfl, rfl, rfl, rfl⟩ rfl rfl rfl rfl rfl (by kernel_rfl) Tryz.func4 (by kernel_rfl)
    (of_decide_eq_true (by kernel_rfl)) (by unfold Func.isWrapper; first | (rw [if_pos (by decide +kernel)]; kernel_rfl) | (rw [if_neg (by decide +kernel)]; exact ⟨rfl, rfl⟩))
    (fun os started H enc _ F => by rw [OpenClaim.pre_eq_preRow]; exact lifted os started H enc F)
theorem plain (f : FuncId) (fn : Func) (hf : Tryz.pinned.checked.prog.funcNamed Rows.unaryApartUptoRow.func = some f) (hfn : Tryz.pinned.checked.prog.funcs[f]? = some fn) :
    true = Tryz.pinned.checked.prog.looks [] ∧ ∀ (j : Nat) t, fn.params[j]? = some t → Tryz.pinned.checked.prog.wantsStandIn t = false := by
  obtain rfl : f = 4 := Option.some.inj ((show Tryz.prog.funcNamed Rows.unaryApartUptoRow.func = some 4 by kernel_rfl).symm.trans hf) |>.symm
  obtain rfl : fn = Tryz.f4 := (Option.some.inj (Tryz.func4.symm.trans hfn)).symm
  refine ⟨by kernel_rfl, fun j t ht => ?_⟩
  rw [Tryz.params4] at ht
  have hm : t ∈ [22] := by simpa using Array.mem_of_getElem? ht
  have hm := List.mem_singleton.1 hm
  subst hm
  exact (show Tryz.prog.wantsStandIn 22 = false by kernel_rfl)
theorem card : Rows.UnaryApartUptoCardSaid :=
  Claim7.holds_tied_plain_at .later [] _ _ _ _ said (fun _ h => by cases h) (by kernel_rfl) (fun _ h => by cases h) unaryApartUpto_row_tie rfl ⟨rfl, rfl⟩ (by kernel_rfl) rfl plain (by kernel_rfl)
end RWUnaryApart
end Go.EvT
end
namespace Go.Proofs.YtlpfolhckkcopaaGreatDoor
theorem unaryApart_upto : Rows.UnaryApartUptoCardSaid := Go.EvT.RWUnaryApart.card
end Go.Proofs.YtlpfolhckkcopaaGreatDoor
