/- A part of the proof in YtlpfolhckkcopaaDoorSides7: lemmas and contracts; nothing is claimed here. -/
import Derived.Test.YtlpfolhckkcopaaDoorSides5
set_option linter.unusedVariables false
set_option linter.unusedSimpArgs false
section
set_option maxRecDepth 100000
namespace Go.EvT
open Go.Ev Go Go.Lib
def zDec : Dec := ⟨false, ⟨0, 0⟩, 0⟩
def nd (op kids : Int) : Node := ⟨op, kids, ByteArray.empty, zDec, 0⟩
def ndNum (d : Dec) : Node := ⟨4, 0, ByteArray.empty, d, 0⟩
def sideL (op : Int) (d : Dec) : List Node := if d.neg = true then [ndNum ⟨false, d.coef, d.scale⟩, nd 8 1, nd op 1, nd 36 1] else [ndNum d, nd op 1, nd 36 1]
theorem pass_step {v0 : List Node} {n : Node} {r : List Node} {i : Nat} {st : List Nat} {D : List Int} (h1 : (fitsB n.op n.kids && decide (n.kids ≤ (st.length : Int))) = true) (h2 : stepOk v0 D n (st.drop (st.length - n.kids.toNat)) = true) :
    pass v0 (n :: r) i st D = pass v0 r (i + 1) (st.take (st.length - n.kids.toNat) ++ [i]) (D ++ [deep1 v0 D (st.drop (st.length - n.kids.toNat))]) := by
  simp only [pass]
  rw [if_pos h1, if_pos h2]
theorem num_fields {d : Dec} (hf : d.form = true) (hn : d.neg = false) : fieldsB (ndNum d) = true := by
  unfold fieldsB
  show (if (4 : Int) = 4 then d.form && !d.neg && restB ByteArray.empty ⟨false, ⟨0, 0⟩, 0⟩ 0 else _) = true
  rw [if_pos rfl, hf, hn]
  rfl
def SideOp (op : Int) : Prop := op = 30 ∨ op = 31 ∨ op = 32 ∨ op = 33 ∨ op = 34
theorem abs_form {d : Dec} (hd : d.coef.Ok) (hf : d.form = true) (hn : d.neg = true) : (⟨false, d.coef, d.scale⟩ : Dec).form = true := by
  obtain ⟨a1, a2, a3, a4, a5⟩ := form_parts hd hf
  have hz : d.coef.val ≠ 0 := fun h => by have := (a4 h).1; rw [hn] at this; cases this
  unfold Dec.form at hf ⊢
  simp only [Bool.and_eq_true, decide_eq_true_eq] at hf ⊢
  refine ⟨hf.1, ?_⟩
  have h2 := hf.2
  rw [if_neg hz] at h2 ⊢
  exact h2
theorem abs_flip {d : Dec} (hd : d.coef.Ok) (hf : d.form = true) (hn : d.neg = true) : flipD ⟨false, d.coef, d.scale⟩ = d := by
  obtain ⟨a1, a2, a3, a4, a5⟩ := form_parts hd hf
  have hz : d.coef.val ≠ 0 := fun h => by have := (a4 h).1; rw [hn] at this; cases this
  unfold flipD
  have : ((d.coef.hi == 0) && ((d.coef.lo == 0) && true)) = false := by
    rw [Bool.eq_false_iff]
    intro h
    simp only [Bool.and_eq_true, beq_iff_eq, Bool.and_true] at h
    exact hz (by unfold Wide.val; omega)
  show (⟨!false && !((d.coef.hi == 0) && ((d.coef.lo == 0) && true)), d.coef, d.scale⟩ : Dec) = d
  rw [this]
  obtain ⟨n, c, s⟩ := d
  have hn : n = true := hn
  subst hn
  rfl
theorem side_check {op : Int} (ho : SideOp op) {d : Dec} (hd : d.coef.Ok) (hf : d.form = true) : checkV (sideL op d) true = 0 := by
  unfold sideL
  cases hn : d.neg with
  | false =>
    simp only [Bool.false_eq_true, if_false]
    have f0 := num_fields hf hn
    have hp : pass [ndNum d, nd op 1, nd 36 1] [ndNum d, nd op 1, nd 36 1] 0 [] [] = some ([2], [1, 2, 3]) := by
      rw [pass_step (show (fitsB 4 0 && decide ((0 : Int) ≤ 0)) = true by decide) (by unfold stepOk; rw [f0]; rfl)]
      rcases ho with rfl | rfl | rfl | rfl | rfl <;> rfl
    unfold checkV
    rw [hp]
    rfl
  | true =>
    simp only [if_true]
    have f0 := num_fields (abs_form hd hf hn) rfl
    have hp : pass [ndNum ⟨false, d.coef, d.scale⟩, nd 8 1, nd op 1, nd 36 1] [ndNum ⟨false, d.coef, d.scale⟩, nd 8 1, nd op 1, nd 36 1] 0 [] [] = some ([3], [1, 2, 3, 4]) := by
      rw [pass_step (show (fitsB 4 0 && decide ((0 : Int) ≤ 0)) = true by decide) (by unfold stepOk; rw [f0]; rfl)]
      rcases ho with rfl | rfl | rfl | rfl | rfl <;> rfl
    unfold checkV
    rw [hp]
    rfl
theorem orV_false {t : Val} (h : Tri t) : orV (truthV false) t = t := by
  rcases h with rfl | ⟨b, rfl⟩
  · rfl
  · cases b <;> rfl
theorem side_ok {op : Int} {d : Dec} (hd : d.coef.Ok) (K : Nat) (hK : 2000 ≤ K) : NodesOk K (sideL op d) := by
  have h1 : ∀ o k : Int, NodeOk (nd o k) ∧ (nd o k).text.size + 1000 ≤ K := fun o k => ⟨⟨zero_ok, by show 0 ≤ 2000000; decide⟩, by show 0 + 1000 ≤ K; omega⟩
  have h2 : ∀ e : Dec, e.coef.Ok → NodeOk (ndNum e) ∧ (ndNum e).text.size + 1000 ≤ K := fun e he => ⟨⟨he, by show 0 ≤ 2000000; decide⟩, by show 0 + 1000 ≤ K; omega⟩
  unfold sideL
  split
  · intro n hn
    simp only [List.mem_cons, List.not_mem_nil, or_false] at hn
    rcases hn with rfl | rfl | rfl | rfl
    · exact h2 _ hd
    · exact h1 _ _
    · exact h1 _ _
    · exact h1 _ _
  · intro n hn
    simp only [List.mem_cons, List.not_mem_nil, or_false] at hn
    rcases hn with rfl | rfl | rfl
    · exact h2 _ hd
    · exact h1 _ _
    · exact h1 _ _
theorem all_step {K n i : Nat} {v0 : List Node} {x : Node} {m m' : unary_machine} (hx : v0[i]? = some x) (hs : v0.length ≤ 300) (h8 : x.op = 8 → ∃ p, 1 ≤ i ∧ v0[i - 1]? = some p ∧ p.op = 4) (hstep : unary_machine_step K m x = some (true, m')) :
    unary_machine_all.l3 K v0 v0 (v0.length : Int) (n + 1) (i : Int) m = unary_machine_all.l3 K v0 v0 (v0.length : Int) n ((i + 1 : Nat) : Int) m' := by
  have hlt := getElem?_lt hx
  rw [show unary_machine_all.l3 K v0 v0 (v0.length : Int) (n + 1) (i : Int) m = _ from by unfold unary_machine_all.l3; rfl]
  have e1 : decide ((i : Int) < (v0.length : Int)) = true := decide_eq_true (by omega)
  rw [e1, if_pos rfl, idx_nat, hx]
  simp only [Option.bind_some]
  have hb3 : ((if (x.op == (8 : Int)) = true then (idx v0 (IntKind.wrap .i64 ((i : Int) - (1 : Int)))).bind fun e2 => some (e2.op != (4 : Int)) else some false) : Option Bool) = some false := by
    by_cases h : x.op = 8
    · obtain ⟨p, g1, hp, hp4⟩ := h8 h
      have e8 : (x.op == 8) = true := by simpa using h
      rw [e8, if_pos rfl, i64_small (by omega) (by omega), show (i : Int) - 1 = ((i - 1 : Nat) : Int) by omega, idx_nat, hp]
      simp only [Option.bind_some]
      rw [hp4]
      rfl
    · have e8 : (x.op == 8) = false := by simpa using h
      rw [e8]
      rfl
  rw [hb3]
  simp only [Option.bind_some, if_true]
  rw [hstep]
  simp only [Option.bind_some, Bool.not_true, Bool.false_eq_true, if_false]
  rw [i64_small (by omega) (by omega), show (i : Int) + 1 = ((i + 1 : Nat) : Int) by omega]
theorem all_end {K n : Nat} {v0 : List Node} {m : unary_machine} : unary_machine_all.l3 K v0 v0 (v0.length : Int) (n + 1) ((v0.length : Nat) : Int) m = some (.go m) := by
  unfold unary_machine_all.l3
  have e1 : decide (((v0.length : Nat) : Int) < (v0.length : Int)) = false := decide_eq_false (by omega)
  rw [e1]
  rfl
theorem side_match (K B : Nat) (hB0 : 1000 ≤ B) (hB : B ≤ 2000000) (hK : 12000000 ≤ K) (hK2 : K ≤ 100000000) {op : Int} (ho : SideOp op) {d : Dec} (hd : d.coef.Ok) (hf : d.form = true) {v : Val} (hv : Good B v) (ht : Tri (testV (nd op 1) v [numV d])) : unary_Match K (sideL op d) v = some (testV (nd op 1) v [numV d], 0) := by
  have hck := side_check ho hd hf
  have hl := lit_num hB0 hd hf
  have hop : 30 ≤ op ∧ op ≤ 34 := by rcases ho with h | h | h | h | h <;> omega
  have hce := check_eq K (sideL op d) true (side_ok hd K (by omega)) (by omega)
  rw [hck] at hce
  have htest : unary_test K (nd op 1) v [numV d] = some (testV (nd op 1) v [numV d]) := test_p hB (by omega) hK2 (nd op 1) v (numV d) hop.1 hop.2 hv hl
  obtain ⟨k, rfl⟩ : ∃ k, K = k + 20 := ⟨K - 20, by omega⟩
  have hor : orAll (k + 20) (truthV false) [testV (nd op 1) v [numV d]] = some (testV (nd op 1) v [numV d]) := by
    simp only [orAll]
    rw [or_p k (.inr ⟨false, rfl⟩) ht, orV_false ht]
    rfl
  have key : ∃ m, unary_machine_all (k + 20) ⟨v, [], [], false, true⟩ (sideL op d) = some (true, m) ∧ m.stack = [testV (nd op 1) v [numV d]] := by
    cases hn : d.neg with
    | false =>
      have hs : sideL op d = [ndNum d, nd op 1, nd 36 1] := by unfold sideL; rw [hn]; rfl
      rw [hs]
      obtain ⟨v0, hv0⟩ : ∃ v0, v0 = [ndNum d, nd op 1, nd 36 1] := ⟨_, rfl⟩
      have hlen : v0.length = 3 := by rw [hv0]; rfl
      have s1 := all_step (K := k + 20) (n := k + 19) (i := 0) (v0 := v0) (x := ndNum d) (by rw [hv0]; rfl) (by omega) (fun h => absurd h (by show ¬ (4 : Int) = 8; decide)) (step_lit (k + 20) v [] [] true true (ndNum d) (by show (4 : Int) ≤ 28; decide) (by show ¬ (4 : Int) = 8; decide) (by simp))
      have s2 := all_step (K := k + 20) (n := k + 18) (i := 1) (v0 := v0) (x := nd op 1) (by rw [hv0]; rfl) (by omega) (fun h => absurd h (by show ¬ op = 8; omega)) (step_test (k + 20) v [] [numV d] [] true true (nd op 1) hop.1 (by show op ≤ 35; omega) rfl (testV (nd op 1) v [numV d]) htest (by simp) (by simp))
      have s3 := all_step (K := k + 20) (n := k + 17) (i := 2) (v0 := v0) (x := nd 36 1) (by rw [hv0]; rfl) (by omega) (fun h => absurd h (by show ¬ (36 : Int) = 8; decide)) (step_some (k + 20) v [] [testV (nd op 1) v [numV d]] ([] ++ [numV d]) (true && ((nd op 1).op == 30)) true (nd 36 1) rfl rfl _ hor (by simp) (by omega))
      rw [← hv0]
      unfold unary_machine_all
      have e : unary_machine_all.l3 (k + 20) v0 v0 (v0.length : Int) (k + 20) (0 : Int) ⟨v, [], [], true, true⟩ = some (.go ⟨v, [] ++ [testV (nd op 1) v [numV d]], [] ++ [numV d], true && ((nd op 1).op == 30), true⟩) := by
        refine s1.trans (s2.trans (s3.trans ?_))
        rw [show ((2 + 1 : Nat) : Int) = ((v0.length : Nat) : Int) by rw [hlen]]
        exact all_end
      simp only [e]
      exact ⟨_, rfl, rfl⟩
    | true =>
      have hs : sideL op d = [ndNum ⟨false, d.coef, d.scale⟩, nd 8 1, nd op 1, nd 36 1] := by unfold sideL; rw [hn]; rfl
      rw [hs]
      obtain ⟨v0, hv0⟩ : ∃ v0, v0 = [ndNum ⟨false, d.coef, d.scale⟩, nd 8 1, nd op 1, nd 36 1] := ⟨_, rfl⟩
      have hlen : v0.length = 4 := by rw [hv0]; rfl
      have s1 := all_step (K := k + 20) (n := k + 19) (i := 0) (v0 := v0) (x := ndNum ⟨false, d.coef, d.scale⟩) (by rw [hv0]; rfl) (by omega) (fun h => absurd h (by show ¬ (4 : Int) = 8; decide)) (step_lit (k + 20) v [] [] true true (ndNum ⟨false, d.coef, d.scale⟩) (by show (4 : Int) ≤ 28; decide) (by show ¬ (4 : Int) = 8; decide) (by simp))
      have hneg := step_neg (k + 20) (by omega) v [] [] true true (nd 8 1) rfl ⟨false, d.coef, d.scale⟩ hd (abs_form hd hf hn) (by simp)
      rw [abs_flip hd hf hn] at hneg
      have sn := all_step (K := k + 20) (n := k + 18) (i := 1) (v0 := v0) (x := nd 8 1) (by rw [hv0]; rfl) (by omega) (fun h => ⟨ndNum ⟨false, d.coef, d.scale⟩, by decide, by rw [hv0]; rfl, rfl⟩) hneg
      have s2 := all_step (K := k + 20) (n := k + 17) (i := 2) (v0 := v0) (x := nd op 1) (by rw [hv0]; rfl) (by omega) (fun h => absurd h (by show ¬ op = 8; omega)) (step_test (k + 20) v [] [numV d] [] true true (nd op 1) hop.1 (by show op ≤ 35; omega) rfl (testV (nd op 1) v [numV d]) htest (by simp) (by simp))
      have s3 := all_step (K := k + 20) (n := k + 16) (i := 3) (v0 := v0) (x := nd 36 1) (by rw [hv0]; rfl) (by omega) (fun h => absurd h (by show ¬ (36 : Int) = 8; decide)) (step_some (k + 20) v [] [testV (nd op 1) v [numV d]] ([] ++ [numV d]) (true && ((nd op 1).op == 30)) true (nd 36 1) rfl rfl _ hor (by simp) (by omega))
      rw [← hv0]
      unfold unary_machine_all
      have e : unary_machine_all.l3 (k + 20) v0 v0 (v0.length : Int) (k + 20) (0 : Int) ⟨v, [], [], true, true⟩ = some (.go ⟨v, [] ++ [testV (nd op 1) v [numV d]], [] ++ [numV d], true && ((nd op 1).op == 30), true⟩) := by
        refine s1.trans (sn.trans (s2.trans (s3.trans ?_)))
        rw [show ((3 + 1 : Nat) : Int) = ((v0.length : Nat) : Int) by rw [hlen]]
        exact all_end
      simp only [e]
      exact ⟨_, rfl, rfl⟩
  obtain ⟨m, hm, hst⟩ := key
  unfold unary_Match
  rw [hce, vCheck_eq B hB (k + 20) v hv.size (by omega) hK2 hv.good, hv.ok]
  simp only [Option.bind_some, show ((0 : Int) != 0) = false from rfl, Bool.false_eq_true, if_false]
  rw [hm]
  simp only [Option.bind_some, Bool.not_true, Bool.false_eq_true, if_false]
  rw [hst, if_pos ⟨by decide, by simp⟩]
  rfl
end Go.EvT
end
section
set_option maxRecDepth 100000
namespace Go.EvT
open Go.Ev Go Go.Lib
theorem side_eq (op : Int) (d : Dec) : tarifflaw12_side op d = some (sideL op d) := by
  unfold tarifflaw12_side sideL
  cases d.neg with
  | true =>
    simp only [if_true, Option.bind_some]
    rw [if_pos ((room_iff _).2 (by simp only [List.length_cons, List.length_nil]; omega))]
    rfl
  | false =>
    simp only [Bool.false_eq_true, if_false, Option.bind_some]
    rw [if_pos ((room_iff _).2 (by simp only [List.length_cons, List.length_nil]; omega))]
    rfl
theorem cmpI_lt (x y : Int) : decide (cmpI x y < 0) = decide (x < y) := by
  unfold cmpI
  by_cases h : x < y
  · rw [if_pos h, decide_eq_true h]; rfl
  · rw [if_neg h, decide_eq_false h]
    split <;> rfl
theorem sides_round (K : Nat) (v w : Val) (l : List Int) (n i : Nat) (op : Int) (b5 : List Bool) (c b : Bool) (hx : l[i]? = some op) (hl : l.length = 5) (h5 : b5[i]? = some c) (hm : unary_Match K (sideL op w.num) v = some (truthV b, 0)) :
    tarifflaw12_UnarySides.l8 K l v w (n + 1) (i : Int) b5 = tarifflaw12_UnarySides.l8 K l v w n ((i + 1 : Nat) : Int) (b5.set i b) := by
  have hlt := getElem?_lt hx
  rw [show tarifflaw12_UnarySides.l8 K l v w (n + 1) (i : Int) b5 = _ from by unfold tarifflaw12_UnarySides.l8; rfl]
  have e1 : decide ((i : Int) < (l.length : Int)) = true := decide_eq_true (by omega)
  rw [e1, if_pos rfl, idx_nat, hx]
  simp only [Option.bind_some]
  rw [side_eq]
  simp only [Option.bind_some]
  rw [hm]
  simp only [Option.bind_some, show ((0 : Int) != 0) = false from rfl, if_true, show ((truthV b).kind != 1) = false from rfl, Bool.false_eq_true, if_false]
  rw [if_pos ⟨by omega, by omega⟩, idx_nat, h5]
  simp only [Option.bind_some]
  rw [i64_small (by omega) (by omega), show (i : Int) + 1 = ((i + 1 : Nat) : Int) by omega]
  rfl
theorem sides_end (K : Nat) (v w : Val) (l : List Int) (n : Nat) (b5 : List Bool) (hl : l.length = 5) : tarifflaw12_UnarySides.l8 K l v w (n + 1) ((5 : Nat) : Int) b5 = some (.go b5) := by
  unfold tarifflaw12_UnarySides.l8
  have e1 : decide (((5 : Nat) : Int) < (l.length : Int)) = false := decide_eq_false (by omega)
  rw [e1]
  rfl
theorem count_three (K k : Nat) (a b c d e : Bool) : tarifflaw12_UnarySides.l16 K [a, b, c, d, e] (k + 5) 0 0 = some ((if a then 1 else 0) + (if b then 1 else 0) + (if c then 1 else 0), [a, b, c, d, e]) := by
  cases a <;> cases b <;> cases c <;> kernel_rfl
theorem num_alike {B : Nat} {v : Val} (hv : Good B v) (hk : v.kind = 2) {d : Dec} (hd : d.coef.Ok) (hf : d.form = true) : alikeB v (numV d) = decide (dsg v.num = dsg d) := by
  have hb := hv.bare
  unfold bareB at hb
  simp only [Bool.and_eq_true, Bool.or_eq_true, beq_iff_eq, Bool.not_eq_true', decide_eq_true_eq] at hb
  obtain ⟨h1, h2, h3, h4, h5, h6⟩ := hb
  have hy : v.yes = false := by rcases h1 with h | h; · omega
                                · exact h
  have ht : txtZ v.text = true := by rcases h3 with h | h; · omega
                                     · exact h
  have hd0 : v.day = 0 := by rcases h4 with h | h; · omega
                             · exact h
  unfold alikeB
  rw [← num_eq hv.coef hd (hv.form hk) hf]
  show ((v.yes == false) && (numEqB v.num d && ((v.text.data.toList == ByteArray.empty.data.toList) && (v.day == 0)))) = numEqB v.num d
  have ht' : (v.text.data.toList == ByteArray.empty.data.toList) = true := ht
  rw [hy, hd0, ht']
  simp
theorem unarySides_true (k B : Nat) (hB0 : 1000 ≤ B) (hB : B ≤ 2000000) (hk : 12000000 ≤ k) (hk2 : k + 60 ≤ 100000000) (v w : Val) (hs : vsz v ≤ 2000000) (hg : VGood B v) (hs2 : vsz w ≤ 2000000) (hg2 : VGood B w) : tarifflaw12_UnarySides (k + 60) v w = some true := by
  unfold tarifflaw12_UnarySides
  rw [known_ok, rCheck_eq B hB (k + 60) v hs (by omega) hk2 hg, rCheck_eq B hB (k + 60) w hs2 (by omega) hk2 hg2]
  simp only [Option.bind_some, Bool.not_true, Bool.false_eq_true, if_false, orO]
  by_cases hvc : vcheck v = 0
  · by_cases hwc : vcheck w = 0
    · by_cases hvk : v.kind = 2
      · by_cases hwk : w.kind = 2
        · have e1 : ((((vcheck v != 0) || (vcheck w != 0)) || (v.kind != 2)) || (w.kind != 2)) = false := by rw [hvc, hwc, hvk, hwk]; rfl
          rw [e1]
          simp only [Bool.false_eq_true, if_false]
          have gv : Good B v := ⟨hvc, hg, hs⟩
          have gw : Good B w := ⟨hwc, hg2, hs2⟩
          have fw := gw.form hwk
          have cw := gw.coef
          obtain ⟨x, hx⟩ : ∃ x, x = dsg v.num := ⟨_, rfl⟩
          obtain ⟨y, hy⟩ : ∃ y, y = dsg w.num := ⟨_, rfl⟩
          have kk : v.kind = (numV w.num).kind := hvk
          have t0 : testV (nd 31 1) v [numV w.num] = truthV (decide (x < y)) := by
            rw [hx, hy, ← cmpI_lt]
            exact lessV_2 kk hvk
          have t1 : testV (nd 30 1) v [numV w.num] = truthV (decide (x = y)) := by
            rw [hx, hy, ← num_alike gv hvk cw fw]
            exact equalV_eq (by omega) kk
          have t2 : testV (nd 33 1) v [numV w.num] = truthV (decide (y < x)) := by
            rw [hx, hy, ← cmpI_lt]
            exact lessV_2 kk.symm rfl
          have t3 : testV (nd 32 1) v [numV w.num] = truthV (!decide (y < x)) := by
            have : lessV (numV w.num) v = truthV (decide (y < x)) := by
              rw [hx, hy, ← cmpI_lt]
              exact lessV_2 kk.symm rfl
            show notV (lessV (numV w.num) v) = _
            rw [this]
            rfl
          have t4 : testV (nd 34 1) v [numV w.num] = truthV (!decide (x < y)) := by
            have : lessV v (numV w.num) = truthV (decide (x < y)) := by
              rw [hx, hy, ← cmpI_lt]
              exact lessV_2 kk hvk
            show notV (lessV v (numV w.num)) = _
            rw [this]
            rfl
          have tri : ∀ b, Tri (truthV b) := fun b => .inr ⟨b, rfl⟩
          have m0 := side_match (k + 60) B hB0 hB (by omega) hk2 (op := 31) (.inr (.inl rfl)) cw fw gv (by rw [t0]; exact tri _)
          have m1 := side_match (k + 60) B hB0 hB (by omega) hk2 (op := 30) (.inl rfl) cw fw gv (by rw [t1]; exact tri _)
          have m2 := side_match (k + 60) B hB0 hB (by omega) hk2 (op := 33) (.inr (.inr (.inr (.inl rfl)))) cw fw gv (by rw [t2]; exact tri _)
          have m3 := side_match (k + 60) B hB0 hB (by omega) hk2 (op := 32) (.inr (.inr (.inl rfl))) cw fw gv (by rw [t3]; exact tri _)
          have m4 := side_match (k + 60) B hB0 hB (by omega) hk2 (op := 34) (.inr (.inr (.inr (.inr rfl)))) cw fw gv (by rw [t4]; exact tri _)
          rw [t0] at m0
          rw [t1] at m1
          rw [t2] at m2
          rw [t3] at m3
          rw [t4] at m4
          have r0 := sides_round (k + 60) v w [31, 30, 33, 32, 34] (k + 59) 0 31 [false, false, false, false, false] false _ rfl rfl rfl m0
          have r1 := sides_round (k + 60) v w [31, 30, 33, 32, 34] (k + 58) 1 30 [decide (x < y), false, false, false, false] false _ rfl rfl rfl m1
          have r2 := sides_round (k + 60) v w [31, 30, 33, 32, 34] (k + 57) 2 33 [decide (x < y), decide (x = y), false, false, false] false _ rfl rfl rfl m2
          have r3 := sides_round (k + 60) v w [31, 30, 33, 32, 34] (k + 56) 3 32 [decide (x < y), decide (x = y), decide (y < x), false, false] false _ rfl rfl rfl m3
          have r4 := sides_round (k + 60) v w [31, 30, 33, 32, 34] (k + 55) 4 34 [decide (x < y), decide (x = y), decide (y < x), !decide (y < x), false] false _ rfl rfl rfl m4
          have r5 := sides_end (k + 60) v w [31, 30, 33, 32, 34] (k + 54) [decide (x < y), decide (x = y), decide (y < x), !decide (y < x), !decide (x < y)] rfl
          have hloop : tarifflaw12_UnarySides.l8 (k + 60) ([(31 : Int), (30 : Int), (33 : Int), (32 : Int), (34 : Int)] : List Int) v w (k + 60) (0 : Int) (List.replicate 5 false) = some (.go [decide (x < y), decide (x = y), decide (y < x), !decide (y < x), !decide (x < y)]) := r0.trans (r1.trans (r2.trans (r3.trans (r4.trans r5))))
          rw [hloop]
          simp only [Option.bind_some]
          have hc := count_three (k + 60) (k + 55) (decide (x < y)) (decide (x = y)) (decide (y < x)) (!decide (y < x)) (!decide (x < y))
          have hc' : tarifflaw12_UnarySides.l16 (k + 60) [decide (x < y), decide (x = y), decide (y < x), !decide (y < x), !decide (x < y)] (k + 60) (0 : Int) (0 : Int) = some ((if decide (x < y) then 1 else 0) + (if decide (x = y) then 1 else 0) + (if decide (y < x) then 1 else 0), [decide (x < y), decide (x = y), decide (y < x), !decide (y < x), !decide (x < y)]) := hc
          rw [hc']
          simp only [Option.bind_some]
          rcases Int.lt_trichotomy x y with h | h | h
          · have d1 : decide (x < y) = true := decide_eq_true h
            have d2 : decide (x = y) = false := decide_eq_false (by omega)
            have d3 : decide (y < x) = false := decide_eq_false (by omega)
            rw [d1, d2, d3]
            rfl
          · have d1 : decide (x < y) = false := decide_eq_false (by omega)
            have d2 : decide (x = y) = true := decide_eq_true h
            have d3 : decide (y < x) = false := decide_eq_false (by omega)
            rw [d1, d2, d3]
            rfl
          · have d1 : decide (x < y) = false := decide_eq_false (by omega)
            have d2 : decide (x = y) = false := decide_eq_false (by omega)
            have d3 : decide (y < x) = true := decide_eq_true h
            rw [d1, d2, d3]
            rfl
        · have : (w.kind != 2) = true := by simpa using hwk
          rw [this, Bool.or_true]
          rfl
      · have : (v.kind != 2) = true := by simpa using hvk
        rw [this, Bool.or_true, Bool.true_or]
        rfl
    · have : (vcheck w != 0) = true := by simpa using hwc
      rw [this, Bool.or_true, Bool.true_or, Bool.true_or]
      rfl
  · have : (vcheck v != 0) = true := by simpa using hvc
    rw [this, Bool.true_or, Bool.true_or, Bool.true_or]
    rfl
end Go.EvT
end
