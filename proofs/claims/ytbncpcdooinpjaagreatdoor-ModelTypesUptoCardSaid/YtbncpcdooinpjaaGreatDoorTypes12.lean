/- THE CLAIM: the statement ModelTypes of tarifflaw17, in its Upto form, carded. By an AI agent. -/
import Derived.Test.YtbncpcdooinpjaaGreatDoorTypes11
set_option linter.unusedVariables false
set_option linter.unusedSimpArgs false
section
set_option maxRecDepth 100000
namespace Go.EvT
open Go.Ev Go.Proofs Go.ChangeShapes Go.WideShapes Go.RowKit Go.Lib
namespace RWModelTypes
open Go.Proofs.YtbncpcdooinpjaaGreatDoor RW
noncomputable def laidWorld (os : Os) : World := World.laidAll Tryz.prog os Rows.modelTypesUptoRow.laid
theorem laid_met (os : Os) (args : Array Value) : laidMet Tryz.prog Rows.modelTypesUptoRow.laid ((laidWorld os).forCall (fun _ _ => 0) ⟨#[], args, []⟩).memory :=
  laidMet_laidAll args (by kernel_rfl) (by kernel_rfl)
theorem utf8_lay {W : World} (hL : laidMetH Tryz.prog Rows.modelTypesUptoRow.laid W) : Lay (fun b => b < W.heap.size) W := trivial
theorem law (xs : List U.D) (h1 : xs.map D.t = [(.st 0), .str]) (h2 : DBL U 1048576 xs) :
    ∃ (F : Tup U.car (ptys tarifflaw17_ModelTypes.P) → Option (Tup U.car [.bool])) (v : Tup U.car (ptys tarifflaw17_ModelTypes.P)), FnC Tryz.prog U Lay 3 tarifflaw17_ModelTypes.P ⟨[.d .bool], []⟩ F ∧ F v = some true ∧ encA tarifflaw17_ModelTypes.P v = xs.map .d := by
  rcases xs with _ | ⟨⟨t0, x0⟩, _ | ⟨⟨t1, x1⟩, _ | ⟨w, ws⟩⟩⟩
  · cases h1
  · cases h1
  · cases h1
    have hd := (dbl_all h2).2
    have hd := (dbl_all h2).2
    exact ⟨tarifflaw17_ModelTypes.u 2100000, (x0, x1), tarifflaw17_ModelTypes.call _, modelTypes_true (by decide) (mod_ok (hd _ (.head _)) (by decide)) (Nat.le_of_succ_le (db_str (hd _ (.tail _ (.head _))))), rfl⟩
  · cases h1
theorem contract (H : Type) (enc : TypeId × Value → H) (W : World) (base : Nat) (args : Array Value) (ds gs : List (DataW H)) (before : List MemPlace)
    (hval : ∀ (j : Nat) t v, Tryz.f3.params[j]? = some t → args[j]? = some v → Value.okWide Tryz.prog W .any base t v)
    (hW : DataW.Whole enc Tryz.prog Tryz.f3.params.toList Rows.modelTypesSpec.vars false W args.toList ds gs before) (hcond : Rows.uptoSmall H (ds ++ gs) = true) (hL : laidMetH Tryz.prog Rows.modelTypesUptoRow.laid W) :
    Calls Tryz.prog 3 args W fun e W' => ∃ v, e = .returned v ∧ Rows.modelTypesSpec.post enc Tryz.prog Tryz.f3 false true false false W args v W' := by
  have hb : sumB Rows.uptoBulk ds ≤ 1048576 := by
    have h := of_decide_eq_true hcond
    rw [bulkAll] at h
    exact Nat.le_trans (sumB_le ds gs) h
  exact row_contract (bulkOk H) rdok laidOut (Ts := [26, 9]) (ts := [(.st 0), .str]) (bt := 4) (by kernel_rfl) (fun x hx => by
    rcases List.mem_cons.1 hx with hx | hx
    · subst hx
      exact hasRd_mem (by kernel_rfl)
    have hx := List.mem_singleton.1 hx
    subst hx
    exact hasRd_mem (by kernel_rfl)) rfl (fun t ht => by
    rcases List.mem_cons.1 ht with ht | ht
    · subst ht
      exact ⟨by kernel_rfl, of_decide_eq_true (by kernel_rfl)⟩
    have ht := List.mem_singleton.1 ht
    subst ht
    exact ⟨by kernel_rfl, of_decide_eq_true (by kernel_rfl)⟩) rfl (by kernel_rfl) Tryz.underlying4 (fun ds h => by
    rcases ds with _ | ⟨d0, _ | ⟨d1, _ | ⟨e, r⟩⟩⟩
    · cases h
    · cases h
    · rfl
    · cases h) tarifflaw17_ModelTypes.fns law hval hW hb (utf8_lay hL)
theorem reads (os : Os) {H : Type} (enc : TypeId × Value → H) : ∃ places, DataW.whole enc Tryz.prog ((laidWorld os).forCall (fun _ _ => 0) ⟨#[], #[.agg #[.string ⟨#[]⟩, .string ⟨#[]⟩, .slice none 0 0, .slice none 0 0, .slice none 0 0], .string ⟨#[]⟩], []⟩).memory Tryz.f3.params.toList Rows.modelTypesSpec.vars false (#[.agg #[.string ⟨#[]⟩, .string ⟨#[]⟩, .slice none 0 0, .slice none 0 0, .slice none 0 0], .string ⟨#[]⟩] : Array Value).toList 8 = some ([.agg [.lit (.string []), .lit (.string []), .nil, .nil, .nil], .lit (.string [])], [], places) :=
  ⟨[], by kernel_rfl⟩
theorem lifted (os : Os) (started : os.Started) (H : Type) (enc : TypeId × Value → H) (F : Stop.Interp) :
    ReturnsInHanded {} Tryz.checked os 3 .any ((Rows.OpenSpec.upto Rows.modelTypesSpec).preRow enc Tryz.prog Tryz.f3 Rows.modelTypesUptoRow.domain false Rows.modelTypesUptoRow.laid) (((Rows.OpenSpec.upto Rows.modelTypesSpec).at F).post enc Tryz.prog Tryz.f3 false true false false) := by
  obtain ⟨places, hx⟩ := reads os enc
  refine returnsInHanded_of_row (C := Tryz.checked) (s := Rows.OpenSpec.upto Rows.modelTypesSpec) own started (by kernel_rfl) Tryz.func3
    (witness_row_at (enc := enc) (C := Tryz.checked) false (laidWorld os) #[.agg #[.string ⟨#[]⟩, .string ⟨#[]⟩, .slice none 0 0, .slice none 0 0, .slice none 0 0], .string ⟨#[]⟩] (World.laidAll_os _ _ _) (by kernel_rfl) (by kernel_rfl) (by kernel_rfl)
      (OpenSpec.preRow_of_cond 8 hx (by kernel_rfl) (fun k hk => by cases hk; kernel_rfl) (by kernel_rfl) (laid_met os _))) ?_
  intro W base args ds gs before hval hW _ hcond _ hL _ _
  exact contract H enc W base args ds gs before hval hW (hcond _ rfl) hL
theorem said : Rows.ModelTypesUptoSaid :=
  OpenClaim.holds_of_cond 3 Tryz.f3 rfl rfl rfl rfl rfl rfl rfl ⟨rfl, rfl, rfl, rfl, rfl⟩ rfl rfl rfl rfl rfl (by kernel_rfl) Tryz.func3 joined
    (of_decide_eq_true (by kernel_rfl)) (by unfold Func.isWrapper; first | (rw [if_pos (by decide +kernel)]; kernel_rfl) | (rw [if_neg (by decide +kernel)]; exact ⟨rfl, rfl⟩))
    (fun os started H enc _ F => by rw [OpenClaim.pre_eq_preRow]; exact lifted os started H enc F)
theorem plain (f : FuncId) (fn : Func) (hf : Tryz.pinned.checked.prog.funcNamed Rows.modelTypesUptoRow.func = some f) (hfn : Tryz.pinned.checked.prog.funcs[f]? = some fn) :
    true = Tryz.pinned.checked.prog.looks [] ∧ ∀ (j : Nat) t, fn.params[j]? = some t → Tryz.pinned.checked.prog.wantsStandIn t = false := by
  obtain rfl : f = 3 := Option.some.inj ((show Tryz.prog.funcNamed Rows.modelTypesUptoRow.func = some 3 by kernel_rfl).symm.trans hf) |>.symm
  obtain rfl : fn = Tryz.f3 := (Option.some.inj (Tryz.func3.symm.trans hfn)).symm
  refine ⟨by kernel_rfl, fun j t ht => ?_⟩
  rw [Tryz.params3] at ht
  have hm : t ∈ [26, 9] := by simpa using Array.mem_of_getElem? ht
  rcases List.mem_cons.1 hm with hm | hm
  · subst hm
    exact (show Tryz.prog.wantsStandIn 26 = false by kernel_rfl)
  have hm := List.mem_singleton.1 hm
  subst hm
  exact (show Tryz.prog.wantsStandIn 9 = false by kernel_rfl)
theorem card : Rows.ModelTypesUptoCardSaid :=
  Claim7.holds_tied_plain_at .later [] _ _ _ _ said (fun _ h => by cases h) (by kernel_rfl) (fun _ h => by cases h) modelTypesUpto_row_tie rfl ⟨rfl, rfl⟩ (by kernel_rfl) rfl plain (by kernel_rfl)
end RWModelTypes
end Go.EvT
end
namespace Go.Proofs.YtbncpcdooinpjaaGreatDoor
theorem modelTypes_upto : Rows.ModelTypesUptoCardSaid := Go.EvT.RWModelTypes.card
end Go.Proofs.YtbncpcdooinpjaaGreatDoor
