/- A part of the proof in YtlpfolhckkcopaaGreatDoorMatch7: lemmas and contracts; nothing is claimed here. -/
import Derived.Test.YtlpfolhckkcopaaGreatDoorMatch5
set_option linter.unusedVariables false
set_option linter.unusedSimpArgs false
section
set_option maxRecDepth 100000
namespace Go.EvT
open Go.Ev Go Go.Lib
def ints (l : List Nat) : List Int := l.map fun (q : Nat) => (q : Int)
def stk : List Node → Nat → List Nat → List (List Nat) → Option (List Nat × List (List Nat))
  | [], _, st, P => some (st, P)
  | n :: r, i, st, P => if (fitsB n.op n.kids && decide (n.kids ≤ (st.length : Int))) = true then stk r (i + 1) (st.take (st.length - n.kids.toNat) ++ [i]) (P ++ [st.drop (st.length - n.kids.toNat)]) else none
theorem fits_nn {op kids : Int} (h : fitsB op kids = true) : 0 ≤ kids ∧ 1 ≤ op ∧ op ≤ 37 := by
  by_cases hr : 1 ≤ op ∧ op ≤ 37
  · refine ⟨?_, hr.1, hr.2⟩
    have key : ∀ lo hi : Int, 0 ≤ lo → fitB lo hi kids = true → 0 ≤ kids := by
      intro lo hi h0 hf
      unfold fitB at hf
      simp only [Bool.and_eq_true, decide_eq_true_eq] at hf
      omega
    unfold fitsB at h
    simp only [Bool.and_eq_true] at h
    refine key _ _ ?_ h.2
    rcases in37 hr.1 hr.2 with rfl | rfl | rfl | rfl | rfl | rfl | rfl | rfl | rfl | rfl | rfl | rfl | rfl | rfl | rfl | rfl | rfl | rfl | rfl | rfl | rfl | rfl | rfl | rfl | rfl | rfl | rfl | rfl | rfl | rfl | rfl | rfl | rfl | rfl | rfl | rfl | rfl
    all_goals decide
  · unfold fitsB at h
    rw [arity_out _ hr] at h
    cases h
theorem stack_loop (K : Nat) (v0 : List Node) (hv : v0.length ≤ 1000) : ∀ (r : List Node) (n i : Nat) (st : List Nat) (P : List (List Nat)), v0.drop i = r → r.length < n → st.length ≤ i → P.length = i → i ≤ v0.length →
    tariffref10_stack.l4 K v0 ((v0.length : Int) - 1) n (ints st) (P.map ints) (i : Int) = match stk r i st P with
      | some (st', P') => some (.go (ints st', P'.map ints))
      | none => some (.ret ([], [], false))
  | _, 0, _, _, _, _, h, _, _, _ => by omega
  | [], n + 1, i, st, P, hd, _, hs, hP, hi => by
    have hlen := congrArg List.length hd
    simp at hlen
    unfold tariffref10_stack.l4
    have e1 : decide ((i : Int) ≤ (v0.length : Int) - 1) = false := by simp; omega
    rw [e1]
    rfl
  | x :: r, n + 1, i, st, P, hd, hn, hs, hP, hi => by
    have hlen := congrArg List.length hd
    simp at hlen
    have hx : v0[i]? = some x := by
      have := congrArg (fun l => l[0]?) hd
      simpa using this
    have hd' : v0.drop (i + 1) = r := by
      have := congrArg List.tail hd
      simpa using this
    unfold tariffref10_stack.l4
    have e1 : decide ((i : Int) ≤ (v0.length : Int) - 1) = true := by simp; omega
    rw [e1, if_pos rfl, idx_nat, hx]
    simp only [Option.bind_some]
    rw [kids_eq]
    simp only [Option.bind_some]
    have hil : (ints st).length = st.length := by simp [ints]
    rw [hil]
    by_cases hf : fitsB x.op x.kids = true
    · obtain ⟨k0, _, _⟩ := fits_nn hf
      by_cases hk : x.kids ≤ (st.length : Int)
      · have c1 : (fitsB x.op x.kids && decide (x.kids ≤ (st.length : Int))) = true := by simp [hf, hk]
        have c2 : decide (x.kids > (st.length : Int)) = false := by simp; omega
        obtain ⟨kn, hkn⟩ : ∃ kn : Nat, x.kids = (kn : Int) := ⟨x.kids.toNat, by omega⟩
        have ew : IntKind.i64.wrap ((st.length : Int) - x.kids) = ((st.length - kn : Nat) : Int) := by rw [i64_small (by omega) (by omega)]; omega
        have ekn : x.kids.toNat = kn := by omega
        have esub : sub (ints st) ((st.length - kn : Nat) : Int) (st.length : Int) = ints (st.drop (st.length - kn)) := by
          unfold sub ints
          rw [show (((st.length - kn : Nat) : Int)).toNat = st.length - kn from rfl, ← List.map_drop, List.take_of_length_le]
          simp
        have etake : (ints st).take (((st.length - kn : Nat) : Int)).toNat = ints (st.take (st.length - kn)) := by
          unfold ints
          rw [show (((st.length - kn : Nat) : Int)).toNat = st.length - kn from rfl, List.map_take]
        have eapp : ints (st.take (st.length - kn)) ++ [(i : Int)] = ints (st.take (st.length - kn) ++ [i]) := by simp [ints]
        have ePP : P.map ints ++ [ints (st.drop (st.length - kn))] = (P ++ [st.drop (st.length - kn)]).map ints := by simp
        have l1 : (ints (st.drop (st.length - kn))).length ≤ 1000 := by simp [ints]; omega
        have l2 : (ints (st.take (st.length - kn))).length ≤ 1000 := by simp [ints]; omega
        simp only [hf, Bool.not_true, if_true, c2, Option.bind_some, Bool.false_eq_true, if_false, ew, esub, etake, List.nil_append]
        rw [if_pos ⟨by omega, by omega, by omega⟩, if_pos ((room_iff _).2 (by simp only [List.length_nil, Nat.zero_add]; omega)), if_pos ((room_iff _).2 (by simp only [List.length_map, List.length_cons, List.length_nil]; omega)), if_pos ⟨by omega, by omega, by omega⟩,
          if_pos ((room_iff _).2 (by simp only [List.length_nil, Nat.zero_add]; omega)), if_pos ((room_iff _).2 (by simp only [List.length_cons, List.length_nil]; omega)), i64_small (by omega) (by omega), show (i : Int) + 1 = ((i + 1 : Nat) : Int) by omega, eapp, ePP]
        rw [stack_loop K v0 hv r n (i + 1) _ _ hd' (by simp at hn; omega) (by simp; omega) (by simp [hP]) (by omega)]
        simp only [stk]
        rw [if_pos c1, ekn]
      · have c1 : (fitsB x.op x.kids && decide (x.kids ≤ (st.length : Int))) = false := by simp [hk]
        have c2 : decide (x.kids > (st.length : Int)) = true := by simp; omega
        simp only [stk]
        rw [c1, hf, c2]
        rfl
    · have hf' : fitsB x.op x.kids = false := by simpa using hf
      simp only [stk]
      rw [hf']
      rfl
end Go.EvT
end
section
set_option maxRecDepth 100000
namespace Go.EvT
open Go.Ev Go Go.Lib
theorem stack_eq (K : Nat) (v0 : List Node) (hv : v0.length ≤ 1000) (hK : v0.length < K) : tariffref10_stack K v0 ((v0.length : Int) - 1) = match stk v0 0 [] [] with
    | some (st, P) => some (P.map ints, ints st, true)
    | none => some ([], [], false) := by
  have h := stack_loop K v0 hv v0 K 0 [] [] rfl hK (Nat.le_refl _) rfl (Nat.zero_le _)
  unfold tariffref10_stack
  have h' : tariffref10_stack.l4 K v0 ((v0.length : Int) - 1) K [] [] (0 : Int) = _ := h
  rw [h']
  cases stk v0 0 [] [] with
  | none => rfl
  | some r => rfl
theorem stk_facts : ∀ (r : List Node) (i : Nat) (st : List Nat) (P : List (List Nat)) (st' : List Nat) (P' : List (List Nat)), stk r i st P = some (st', P') → (∀ q ∈ st, q < i) → P.length = i →
    (∀ q ∈ st', q < i + r.length) ∧ P'.length = i + r.length ∧ (∃ Q : List (List Nat), P' = P ++ Q ∧ ∀ (j : Nat) (ps : List Nat), Q[j]? = some ps → ∀ q ∈ ps, q < i + j) ∧ ∀ (j : Nat) (n : Node), r[j]? = some n → fitsB n.op n.kids = true
  | [], i, st, P, st', P', h, hst, hP => by
    simp only [stk, Option.some.injEq, Prod.mk.injEq] at h
    obtain ⟨rfl, rfl⟩ := h
    exact ⟨by simpa using hst, by simpa using hP, ⟨[], by simp, fun j ps h => (by simp at h)⟩, fun j n h => (by simp at h)⟩
  | n :: r, i, st, P, st', P', h, hst, hP => by
    simp only [stk] at h
    by_cases hc : (fitsB n.op n.kids && decide (n.kids ≤ (st.length : Int))) = true
    · rw [if_pos hc] at h
      simp only [Bool.and_eq_true] at hc
      have hst' : ∀ q ∈ st.take (st.length - n.kids.toNat) ++ [i], q < i + 1 := by
        intro q hq
        rcases List.mem_append.1 hq with hq | hq
        · have := hst q (List.mem_of_mem_take hq)
          omega
        · have := List.mem_singleton.1 hq
          omega
      obtain ⟨g1, g2, ⟨Q, g3, g4⟩, g5⟩ := stk_facts r (i + 1) _ _ st' P' h hst' (by simp [hP])
      refine ⟨fun q hq => (by have := g1 q hq; simp only [List.length_cons]; omega), (by simp only [List.length_cons]; omega), ⟨st.drop (st.length - n.kids.toNat) :: Q, (by rw [g3]; simp), fun j ps hj q hq => ?_⟩, fun j m hj => ?_⟩
      · cases j with
        | zero =>
          simp at hj
          subst hj
          have := hst q (List.mem_of_mem_drop hq)
          omega
        | succ j =>
          have := g4 j ps (by simpa using hj) q hq
          omega
      · cases j with
        | zero =>
          simp at hj
          subst hj
          exact hc.1
        | succ j => exact g5 j m (by simpa using hj)
    · rw [if_neg hc] at h
      cases h
end Go.EvT
end
section
set_option maxRecDepth 100000
namespace Go.EvT
open Go.Ev Go Go.Lib
def txts (v0 : List Node) (ps : List Nat) : List (List UInt8) := ps.map fun (q : Nat) => txtAt v0 (q : Int)
def stepOk (v0 : List Node) (D : List Int) (n : Node) (ps : List Nat) : Bool := fieldsB n && (sortsOk n.op 0 (ps.map (ent v0 D)) && !((n.op == 27) && dupFrom (txts v0 ps) ps.length 0))
def deep1 (v0 : List Node) (D : List Int) (ps : List Nat) : Int := dmax 0 (ps.map (ent v0 D)) + 1
def pass (v0 : List Node) : List Node → Nat → List Nat → List Int → Option (List Nat × List Int)
  | [], _, st, D => some (st, D)
  | n :: r, i, st, D =>
    if (fitsB n.op n.kids && decide (n.kids ≤ (st.length : Int))) = true then
      if stepOk v0 D n (st.drop (st.length - n.kids.toNat)) = true then
        pass v0 r (i + 1) (st.take (st.length - n.kids.toNat) ++ [i]) (D ++ [deep1 v0 D (st.drop (st.length - n.kids.toNat))])
      else none
    else none
def mx (D : List Int) : Int := D.foldl (fun m d => if d > m then d else m) 0
theorem mx_snoc (D : List Int) (d : Int) : mx (D ++ [d]) = if d > mx D then d else mx D := by unfold mx; rw [List.foldl_append]; rfl
def thg (v0 : List Node) (D : List Int) (q : Nat) : expr_thing := ⟨sortI (opAt v0 q), (D[q]?).getD 0, (q : Int)⟩
theorem sd_thg (v0 : List Node) (D : List Int) (l : List Nat) : (l.map (thg v0 D)).map sd = l.map (ent v0 D) := by rw [List.map_map]; rfl
theorem ent_app (v0 : List Node) (D E : List Int) (l : List Nat) (h : ∀ q ∈ l, q < D.length) : l.map (ent v0 (D ++ E)) = l.map (ent v0 D) := by
  refine List.map_congr_left fun q hq => ?_
  unfold ent
  rw [List.getElem?_append_left (h q hq)]
theorem thg_app (v0 : List Node) (D E : List Int) (l : List Nat) (h : ∀ q ∈ l, q < D.length) : l.map (thg v0 (D ++ E)) = l.map (thg v0 D) := by
  refine List.map_congr_left fun q hq => ?_
  unfold thg
  rw [List.getElem?_append_left (h q hq)]
theorem dmax_le : ∀ (l : List (Int × Int)) (m B : Int), m ≤ B → (∀ a ∈ l, a.2 ≤ B) → dmax m l ≤ B
  | [], _, _, h, _ => h
  | a :: r, m, B, h, hl => by
    refine dmax_le r _ B ?_ fun b hb => hl b (List.mem_cons_of_mem _ hb)
    have := hl a List.mem_cons_self
    split <;> omega
theorem dmax_ge : ∀ (l : List (Int × Int)) (m : Int), m ≤ dmax m l
  | [], _ => Int.le_refl _
  | a :: r, m => by
    refine Int.le_trans ?_ (dmax_ge r _)
    split <;> omega
def DOk (D : List Int) : Prop := ∀ d ∈ D, 0 ≤ d ∧ d ≤ (D.length : Int)
theorem deep1_ok {v0 : List Node} {D : List Int} {ps : List Nat} (hD : DOk D) : 1 ≤ deep1 v0 D ps ∧ deep1 v0 D ps ≤ (D.length : Int) + 1 := by
  unfold deep1
  have h1 := dmax_ge (ps.map (ent v0 D)) 0
  have h2 := dmax_le (ps.map (ent v0 D)) 0 (D.length : Int) (by omega) (fun a ha => by
    obtain ⟨q, _, rfl⟩ := List.mem_map.1 ha
    unfold ent
    simp only
    cases hq : D[q]? with
    | none => simp
    | some d => exact (hD d (List.mem_of_getElem? hq)).2)
  omega
theorem DOk.snoc {v0 : List Node} {D : List Int} {ps : List Nat} (hD : DOk D) : DOk (D ++ [deep1 v0 D ps]) := by
  intro d hd
  have := deep1_ok (v0 := v0) (ps := ps) hD
  rcases List.mem_append.1 hd with h | h
  · have := hD d h
    simp; omega
  · have := List.mem_singleton.1 h
    simp; omega
theorem bad_eq {α : Type} (b : Bool) (p : Node) (e : Bool → Option α) : (((if (!b) = false then
    some (!(p.text.data.toList == []))
    else some true) : Option Bool).bind fun b3 =>
    ((if b3 = false then
    some (!((p.num.neg == false) && (((p.num.coef.hi == (0 : Int)) && ((p.num.coef.lo == (0 : Int)) && true)) && ((p.num.scale == (0 : Int)) && true))))
    else some true) : Option Bool).bind fun b4 =>
    ((if b4 = false then
    some (p.day != (0 : Int))
    else some true) : Option Bool).bind e) = e (!(b && restB p.text p.num p.day)) := by
  have hz : txtZ p.text = (p.text.data.toList == []) := rfl
  unfold restB decZ
  rw [hz]
  obtain ⟨t, ht⟩ : ∃ t, t = (p.text.data.toList == []) := ⟨_, rfl⟩
  obtain ⟨z, hz⟩ : ∃ z, z = ((p.num.neg == false) && (((p.num.coef.hi == (0 : Int)) && ((p.num.coef.lo == (0 : Int)) && true)) && ((p.num.scale == (0 : Int)) && true))) := ⟨_, rfl⟩
  rw [← ht, ← hz]
  have hd : (p.day != (0 : Int)) = !(p.day == 0) := rfl
  rw [hd]
  obtain ⟨d, hd⟩ : ∃ d, d = (p.day == (0 : Int)) := ⟨_, rfl⟩
  rw [← hd]
  cases b <;> cases t <;> cases z <;> cases d <;> rfl
end Go.EvT
end
section
set_option maxRecDepth 100000
namespace Go.EvT
open Go.Ev Go Go.Lib
theorem opAt_eq {v0 : List Node} {i : Nat} {x : Node} (h : v0[i]? = some x) : opAt v0 i = x.op := by unfold opAt; rw [h]; rfl
theorem check_loop (K : Nat) (v0 : List Node) (v1 : Bool) (hv : v0.length ≤ 300) (hok : ∀ n ∈ v0, NodeOk n ∧ n.text.size + 1000 ≤ K) (hK : 1000 ≤ K) : ∀ (r : List Node) (n i : Nat) (st : List Nat) (D : List Int), v0.drop i = r → r.length < n → st.length ≤ i → D.length = i → i ≤ v0.length → (∀ q ∈ st, q < i) → DOk D →
    expr_Check.l6 K n v0 v1 (st.map (thg v0 D)) (mx D) v0 (v0.length : Int) (i : Int) = match pass v0 r i st D with
      | some (st', D') => some (.go (v1, st'.map (thg v0 D'), mx D'))
      | none => some (.ret 2)
  | _, 0, _, _, _, _, h, _, _, _, _, _ => by omega
  | [], n + 1, i, st, D, hd, _, hs, hP, hi, _, _ => by
    have hlen := congrArg List.length hd
    simp at hlen
    unfold expr_Check.l6
    have e1 : decide ((i : Int) < (v0.length : Int)) = false := by simp; omega
    rw [e1]
    rfl
  | x :: r, n + 1, i, st, D, hd, hn, hs, hP, hi, hq, hD => by
    have hlen := congrArg List.length hd
    simp at hlen
    have hx : v0[i]? = some x := by
      have := congrArg (fun l => l[0]?) hd
      simpa using this
    have hd' : v0.drop (i + 1) = r := by
      have := congrArg List.tail hd
      simpa using this
    obtain ⟨hxo, hxk⟩ := hok x (List.mem_of_getElem? hx)
    obtain ⟨p, b, hp, hb⟩ := plain_eq K x hxo hxk
    unfold expr_Check.l6
    have e1 : decide ((i : Int) < (v0.length : Int)) = true := by simp; omega
    rw [e1, if_pos rfl, idx_nat, hx]
    simp only [Option.bind_some]
    rw [hp]
    simp only [Option.bind_some]
    refine (bad_eq b p _).trans ?_
    rw [hb, fits_eq]
    simp only [pass]
    have hwl : (st.map (thg v0 D)).length = st.length := by simp
    rw [hwl]
    cases hfd : fieldsB x with
    | false =>
      have hso : stepOk v0 D x (st.drop (st.length - x.kids.toNat)) = false := by unfold stepOk; rw [hfd]; rfl
      rw [hso]
      simp
    | true =>
      cases hf : fitsB x.op x.kids with
      | false => simp
      | true =>
        obtain ⟨k0, _, _⟩ := fits_nn hf
        by_cases hk : x.kids ≤ (st.length : Int)
        · obtain ⟨kn, hkn⟩ : ∃ kn : Nat, x.kids = (kn : Int) := ⟨x.kids.toNat, by omega⟩
          have ekn : x.kids.toNat = kn := by omega
          have c2 : decide (x.kids > (st.length : Int)) = false := by simp; omega
          have c3 : decide (x.kids ≤ (st.length : Int)) = true := by simp; omega
          have ew : IntKind.i64.wrap ((st.length : Int) - x.kids) = ((st.length - kn : Nat) : Int) := by rw [i64_small (by omega) (by omega)]; omega
          have en : (st.length : Int) - ((st.length - kn : Nat) : Int) = (kn : Int) := by omega
          simp only [Bool.not_true, Bool.false_eq_true, if_false, if_true, Option.bind_some, c2, c3, Bool.true_and, ew, ekn, en]
          rw [if_pos ⟨by omega, by omega, by omega⟩]
          have hcp := check_parts K ((st.length - kn : Nat) : Int) (kn : Int) (st.length - kn) kn v0 v1 (st.map (thg v0 D)) (mx D) (i : Int) v0 (v0.length : Int) (i : Int) x (by rw [hwl]; omega) (by rw [hwl]; omega) kn K 0 0 (by omega) (by omega) (Nat.zero_le _)
          rw [show ((0 : Nat) : Int) = (0 : Int) from rfl] at hcp
          rw [hcp, Nat.add_zero, ← List.map_drop, sd_thg]
          obtain ⟨ps, hps⟩ : ∃ ps, ps = st.drop (st.length - kn) := ⟨_, rfl⟩
          have hpl : ps.length = kn := by rw [hps]; simp; omega
          rw [← hps]
          have hpq : ∀ q ∈ ps, q < i := fun q h => hq q (List.mem_of_mem_drop (hps ▸ h))
          cases hso : sortsOk x.op 0 (ps.map (ent v0 D)) with
          | false =>
            have : stepOk v0 D x ps = false := by unfold stepOk; rw [hso]; simp
            rw [this]
            simp
          | true =>
            simp only [if_true, Option.bind_some]
            have esub : sub (st.map (thg v0 D)) ((st.length - kn : Nat) : Int) (((st.length - kn : Nat) : Int) + (kn : Int)) = ps.map (thg v0 D) := by
              unfold sub
              rw [show (((st.length - kn : Nat) : Int)).toNat = st.length - kn from rfl, ← List.map_drop, ← hps, List.take_of_length_le]
              simp [hpl]
              omega
            have hun : expr_unlike K v0 (ps.map (thg v0 D)) = some (!dupFrom (txts v0 ps) ps.length 0) := by
              rw [unlike_eq K v0 (ps.map (thg v0 D)) (by simp; omega) (fun a ha => by
                obtain ⟨q, hq', rfl⟩ := List.mem_map.1 ha
                exact ⟨_, by rw [show (thg v0 D q).at_ = (q : Int) from rfl, idx_nat]; exact List.getElem?_eq_getElem (by have := hpq q hq'; omega)⟩) (by simp; omega), List.map_map, List.length_map]
              rfl
            have hb14 : ((if (x.op == (27 : Int)) = true then (expr_unlike K v0 (sub (st.map (thg v0 D)) ((st.length - kn : Nat) : Int) (((st.length - kn : Nat) : Int) + (kn : Int)))).bind fun r13 => some (!r13) else some false) : Option Bool) = some ((x.op == 27) && dupFrom (txts v0 ps) ps.length 0) := by
              rw [esub, hun]
              cases (x.op == (27 : Int)) <;> simp
            rw [hb14]
            have hst : stepOk v0 D x ps = !((x.op == 27) && dupFrom (txts v0 ps) ps.length 0) := by unfold stepOk; rw [hfd, hso]; rfl
            rw [hst]
            simp only [Option.bind_some]
            cases ((x.op == (27 : Int)) && dupFrom (txts v0 ps) ps.length 0) with
            | true => simp
            | false =>
              have hdp := deep1_ok (v0 := v0) (ps := ps) hD
              have edp : IntKind.i64.wrap (dmax 0 (ps.map (ent v0 D)) + 1) = deep1 v0 D ps := by
                have : dmax 0 (ps.map (ent v0 D)) + 1 = deep1 v0 D ps := rfl
                rw [this, i64_small (by omega) (by omega)]
              simp only [Bool.false_eq_true, if_false, Bool.not_false, if_true]
              rw [hwl, ew, if_pos ⟨by omega, by omega, by omega⟩, sortI_eq]
              simp only [Option.bind_some]
              rw [edp, show (((st.length - kn : Nat) : Int)).toNat = st.length - kn from rfl, ← List.map_take]
              have htl : ∀ q ∈ st.take (st.length - kn), q < D.length := fun q h => by have := hq q (List.mem_of_mem_take h); omega
              have enew : (st.take (st.length - kn)).map (thg v0 D) ++ [(⟨sortI x.op, deep1 v0 D ps, (i : Int)⟩ : expr_thing)] = (st.take (st.length - kn) ++ [i]).map (thg v0 (D ++ [deep1 v0 D ps])) := by
                rw [List.map_append, thg_app v0 D _ _ htl]
                refine congrArg (_ ++ ·) ?_
                simp only [List.map_cons, List.map_nil]
                unfold thg
                rw [opAt_eq hx, ← hP, List.getElem?_append_right (Nat.le_refl _)]
                simp
              rw [enew, ← mx_snoc, i64_small (by omega) (by omega), show (i : Int) + 1 = ((i + 1 : Nat) : Int) by omega, if_pos ((room_iff _).2 (by simp only [List.length_map, List.length_take, List.length_cons, List.length_nil]; omega))]
              exact check_loop K v0 v1 hv hok hK r n (i + 1) _ _ hd' (by simp at hn; omega) (by simp; omega) (by simp [hP]) (by omega) (fun q hq' => by
                rcases List.mem_append.1 hq' with h | h
                · have := htl q h; omega
                · have := List.mem_singleton.1 h; omega) hD.snoc
        · have c2 : decide (x.kids > (st.length : Int)) = true := by simp; omega
          have c3 : decide (x.kids ≤ (st.length : Int)) = false := by simp; omega
          rw [c2, c3]
          simp
end Go.EvT
end
section
set_option maxRecDepth 100000
namespace Go.EvT
open Go.Ev Go Go.Lib
def pass2 (v0 : List Node) : List Node → List (List Nat) → List Int → Option (List Int)
  | [], _, D => some D
  | n :: r, Q, D => if stepOk v0 D n (Q.headD []) = true then pass2 v0 r Q.tail (D ++ [deep1 v0 D (Q.headD [])]) else none
theorem pass2_cons (v0 : List Node) (n : Node) (r : List Node) (ps : List Nat) (Q : List (List Nat)) (D : List Int) : pass2 v0 (n :: r) (ps :: Q) D = if stepOk v0 D n ps = true then pass2 v0 r Q (D ++ [deep1 v0 D ps]) else none := rfl
theorem pass_eq (v0 : List Node) : ∀ (r : List Node) (i : Nat) (st : List Nat) (P : List (List Nat)) (D : List Int),
    pass v0 r i st D = match stk r i st P with
      | some (st', P') => (pass2 v0 r (P'.drop P.length) D).map fun D' => (st', D')
      | none => none
  | [], i, st, P, D => by simp [pass, stk, pass2]
  | n :: r, i, st, P, D => by
    simp only [pass, stk]
    by_cases hc : (fitsB n.op n.kids && decide (n.kids ≤ (st.length : Int))) = true
    · rw [if_pos hc, if_pos hc]
      obtain ⟨ps, hps⟩ : ∃ ps, ps = st.drop (st.length - n.kids.toNat) := ⟨_, rfl⟩
      rw [← hps]
      have ih := pass_eq v0 r (i + 1) (st.take (st.length - n.kids.toNat) ++ [i]) (P ++ [ps]) (D ++ [deep1 v0 D ps])
      rw [ih]
      have hpre : ∀ (r : List Node) (i : Nat) (st : List Nat) (P : List (List Nat)) st' P', stk r i st P = some (st', P') → ∃ Q, P' = P ++ Q := by
        intro r
        induction r with
        | nil =>
          intro i st P st' P' h
          simp only [stk, Option.some.injEq, Prod.mk.injEq] at h
          exact ⟨[], by simp [h.2]⟩
        | cons m r ihr =>
          intro i st P st' P' h
          simp only [stk] at h
          split at h
          · obtain ⟨Q, hQ⟩ := ihr _ _ _ _ _ h
            exact ⟨_, by rw [hQ, List.append_assoc]⟩
          · cases h
      cases hs : stk r (i + 1) (st.take (st.length - n.kids.toNat) ++ [i]) (P ++ [ps]) with
      | none => simp
      | some x =>
        obtain ⟨st', P'⟩ := x
        obtain ⟨Q, rfl⟩ := hpre _ _ _ _ _ _ hs
        simp only [List.append_assoc]
        have e1 : (P ++ ([ps] ++ Q)).drop P.length = ps :: Q := by rw [List.drop_left]; rfl
        have e2 : (P ++ ([ps] ++ Q)).drop (P ++ [ps]).length = Q := by rw [← List.append_assoc, List.drop_left]
        rw [e1, e2]
        rw [pass2_cons]
        by_cases hso : stepOk v0 D n ps = true
        · rw [if_pos hso, if_pos hso]
        · rw [if_neg hso, if_neg hso]
          rfl
    · rw [if_neg hc, if_neg hc]
end Go.EvT
end
section
set_option maxRecDepth 100000
namespace Go.EvT
open Go.Ev Go Go.Lib
theorem set_zeros (D : List Int) (m : Nat) (d : Int) : (D ++ List.replicate (m + 1) 0).set D.length d = (D ++ [d]) ++ List.replicate m 0 := by
  rw [List.set_append_right _ _ (Nat.le_refl _), Nat.sub_self, List.replicate_succ, List.append_assoc]
  rfl
theorem rcheck_loop (K : Nat) (v0 : List Node) (v1 : Bool) (P : List (List Nat)) (hv : v0.length ≤ 300) (hok : ∀ n ∈ v0, NodeOk n ∧ n.text.size + 1000 ≤ K) (hK : 1000 ≤ K) (hPl : P.length = v0.length) (hPq : ∀ (j : Nat) (ps : List Nat), P[j]? = some ps → ps.length ≤ 300 ∧ ∀ q ∈ ps, q < j) (hfit : ∀ n ∈ v0, fitsB n.op n.kids = true) :
    ∀ (r : List Node) (n i : Nat) (D : List Int), v0.drop i = r → r.length < n → D.length = i → i ≤ v0.length → DOk D →
    tariffref10_Check.l9 K n v0 v1 (P.map ints) (D ++ List.replicate (v0.length - i) 0) (mx D) (i : Int) = match pass2 v0 r (P.drop i) D with
      | some D' => some (.go (v0, v1, mx D'))
      | none => some (.ret 2)
  | _, 0, _, _, _, h, _, _, _ => by omega
  | [], n + 1, i, D, hd, _, hP, hi, _ => by
    have hlen := congrArg List.length hd
    simp at hlen
    unfold tariffref10_Check.l9
    have e1 : decide ((i : Int) < (v0.length : Int)) = false := by simp; omega
    rw [e1]
    rfl
  | x :: r, n + 1, i, D, hd, hn, hP, hi, hD => by
    have hlen := congrArg List.length hd
    simp at hlen
    have hx : v0[i]? = some x := by
      have := congrArg (fun l => l[0]?) hd
      simpa using this
    have hd' : v0.drop (i + 1) = r := by
      have := congrArg List.tail hd
      simpa using this
    have hil : i < v0.length := by omega
    obtain ⟨hxo, hxk⟩ := hok x (List.mem_of_getElem? hx)
    obtain ⟨ps, hps⟩ : ∃ ps, P[i]? = some ps := ⟨_, List.getElem?_eq_getElem (by omega)⟩
    obtain ⟨hpl, hpq⟩ := hPq i ps hps
    have hopq : ∀ q ∈ ps, 1 ≤ opAt v0 q ∧ opAt v0 q ≤ 37 := fun q h => by
      have hqi := hpq q h
      obtain ⟨m, hm⟩ : ∃ m, v0[q]? = some m := ⟨_, List.getElem?_eq_getElem (by omega)⟩
      rw [opAt_eq hm]
      exact (fits_nn (hfit m (List.mem_of_getElem? hm))).2
    have hPi : (P.map ints)[i]? = some (ints ps) := by rw [List.getElem?_map, hps]; rfl
    unfold tariffref10_Check.l9
    have e1 : decide ((i : Int) < (v0.length : Int)) = true := by simp; omega
    rw [e1, if_pos rfl, idx_nat, hx]
    simp only [Option.bind_some]
    rw [fields_eq K x hxo hxk]
    simp only [Option.bind_some]
    rw [drop_cons hps, pass2_cons]
    cases hfd : fieldsB x with
    | false =>
      have hso : stepOk v0 D x ps = false := by unfold stepOk; rw [hfd]; rfl
      rw [hso]
      simp
    | true =>
      simp only [Bool.not_true, Bool.false_eq_true, if_false]
      obtain ⟨m, hm⟩ : ∃ m, v0.length - i = m + 1 := ⟨v0.length - i - 1, by omega⟩
      have hw : (D ++ List.replicate (v0.length - i) (0 : Int)) = (D ++ List.replicate (v0.length - i) 0).set i 0 := by
        rw [hm, ← hP, set_zeros, List.append_assoc]
        rfl
      have hwl : (D ++ List.replicate (v0.length - i) (0 : Int)).length = v0.length := by simp; omega
      have hrp := rcheck_parts K v0 v1 (P.map ints) (mx D) i ps x (D ++ List.replicate (v0.length - i) 0) hx hPi (by omega) hpq hopq (by rw [hwl]; exact hil) hil ps.length K 0 0 (by omega) (by omega) (Nat.zero_le _)
      rw [← hw, List.drop_zero, ent_app v0 D _ ps (fun q h => by rw [hP]; exact hpq q h)] at hrp
      rw [show ((0 : Nat) : Int) = (0 : Int) from rfl] at hrp
      rw [hrp]
      cases hso : sortsOk x.op 0 (ps.map (ent v0 D)) with
      | false =>
        have : stepOk v0 D x ps = false := by unfold stepOk; rw [hso]; simp
        rw [this]
        simp
      | true =>
        simp only [if_true, Option.bind_some, idx_nat, hx, hPi]
        have htw : tariffref10_twice K v0 (ints ps) = some (dupFrom (txts v0 ps) ps.length 0) := by
          rw [twice_names K v0 (ints ps) (by simp [ints]; omega) (fun a ha => by
            obtain ⟨q, hq', rfl⟩ := List.mem_map.1 ha
            exact ⟨_, by rw [idx_nat]; exact List.getElem?_eq_getElem (by have := hpq q hq'; omega)⟩) (by simp [ints]; omega)]
          unfold ints
          rw [List.map_map, List.length_map]
          rfl
        have hb22 : ((if (x.op == (27 : Int)) = true then (tariffref10_twice K v0 (ints ps)).bind fun r21 => some r21 else some false) : Option Bool) = some ((x.op == 27) && dupFrom (txts v0 ps) ps.length 0) := by
          rw [htw]
          cases (x.op == (27 : Int)) <;> simp
        rw [hb22]
        have hst : stepOk v0 D x ps = !((x.op == 27) && dupFrom (txts v0 ps) ps.length 0) := by unfold stepOk; rw [hfd, hso]; rfl
        rw [hst]
        simp only [Option.bind_some]
        cases ((x.op == (27 : Int)) && dupFrom (txts v0 ps) ps.length 0) with
        | true => simp
        | false =>
          have hdp := deep1_ok (v0 := v0) (ps := ps) hD
          have edp : IntKind.i64.wrap (dmax 0 (ps.map (ent v0 D)) + 1) = deep1 v0 D ps := by
            have : dmax 0 (ps.map (ent v0 D)) + 1 = deep1 v0 D ps := rfl
            rw [this, i64_small (by omega) (by omega)]
          simp only [Bool.false_eq_true, if_false, Bool.not_false, if_true]
          obtain ⟨w, hwd⟩ : ∃ w, w = (D ++ List.replicate (v0.length - i) (0 : Int)) := ⟨_, rfl⟩
          rw [← hwd] at hwl ⊢
          have g1 : (w.set i (dmax 0 (ps.map (ent v0 D))))[i]? = some (dmax 0 (ps.map (ent v0 D))) := by rw [List.getElem?_set]; simp; omega
          rw [if_pos ⟨by omega, by rw [List.length_set]; omega⟩, g1]
          simp only [Option.bind_some]
          rw [if_pos ⟨by omega, by rw [List.length_set]; omega⟩, edp, show ((i : Int)).toNat = i from rfl, List.set_set, if_pos ⟨by omega, by rw [List.length_set]; omega⟩]
          have g2 : (w.set i (deep1 v0 D ps))[i]? = some (deep1 v0 D ps) := by rw [List.getElem?_set]; simp; omega
          rw [g2]
          simp only [Option.bind_some]
          have hnew : w.set i (deep1 v0 D ps) = (D ++ [deep1 v0 D ps]) ++ List.replicate (v0.length - (i + 1)) 0 := by
            rw [hwd, hm, ← hP, set_zeros, show v0.length - (D.length + 1) = m by omega]
          rw [hnew, ← mx_snoc, i64_small (by omega) (by omega), show (i : Int) + 1 = ((i + 1 : Nat) : Int) by omega]
          exact rcheck_loop K v0 v1 P hv hok hK hPl hPq hfit r n (i + 1) _ hd' (by simp at hn; omega) (by simp [hP]) (by omega) hD.snoc
end Go.EvT
end
section
set_option maxRecDepth 100000
namespace Go.EvT
open Go.Ev Go Go.Lib
theorem stk_last : ∀ (r : List Node) (i : Nat) (st : List Nat) (P : List (List Nat)) (st' : List Nat) (P' : List (List Nat)), stk r i st P = some (st', P') → (r = [] ∧ st' = st) ∨ ∃ s, st' = s ++ [i + r.length - 1]
  | [], i, st, P, st', P', h => by
    simp only [stk, Option.some.injEq, Prod.mk.injEq] at h
    exact .inl ⟨rfl, h.1.symm⟩
  | n :: r, i, st, P, st', P', h => by
    simp only [stk] at h
    split at h
    · rcases stk_last r _ _ _ _ _ h with ⟨rfl, rfl⟩ | ⟨s, rfl⟩
      · exact .inr ⟨_, rfl⟩
      · refine .inr ⟨s, ?_⟩
        rw [List.length_cons, show i + 1 + r.length - 1 = i + (r.length + 1) - 1 by omega]
    · cases h
theorem stk_parts : ∀ (r : List Node) (i : Nat) (st : List Nat) (P : List (List Nat)) (st' : List Nat) (P' : List (List Nat)), stk r i st P = some (st', P') → st.length ≤ i →
    ∃ Q : List (List Nat), P' = P ++ Q ∧ ∀ (j : Nat) (ps : List Nat), Q[j]? = some ps → ps.length ≤ i + j
  | [], i, st, P, st', P', h, _ => by
    simp only [stk, Option.some.injEq, Prod.mk.injEq] at h
    exact ⟨[], by simp [h.2], fun j ps h => by simp at h⟩
  | n :: r, i, st, P, st', P', h, hs => by
    simp only [stk] at h
    split at h
    · obtain ⟨Q, h1, h2⟩ := stk_parts r _ _ _ _ _ h (by simp; omega)
      refine ⟨_ :: Q, by rw [h1, List.append_assoc]; rfl, fun j ps hj => ?_⟩
      cases j with
      | zero =>
        simp at hj
        subst hj
        simp; omega
      | succ j =>
        have := h2 j ps (by simpa using hj)
        omega
    · cases h
def rootOk (v1 : Bool) (s : Int) : Bool := if v1 = true then s == 4 || s == 5 else s == 1
def checkV (v0 : List Node) (v1 : Bool) : Int :=
  if (v0.length : Int) > 300 then 6
  else match pass v0 v0 0 [] [] with
    | none => 2
    | some (st, D) => if st.length = 1 then (if rootOk v1 (sortI (opAt v0 (v0.length - 1))) = true then (if mx D > 40 then 7 else 0) else 2) else 2
theorem check_eq (K : Nat) (v0 : List Node) (v1 : Bool) (hok : ∀ n ∈ v0, NodeOk n ∧ n.text.size + 1000 ≤ K) (hK : 1000 ≤ K) : expr_Check K v0 v1 = some (checkV v0 v1) := by
  unfold expr_Check checkV
  by_cases h3 : (v0.length : Int) > 300
  · have : decide ((v0.length : Int) > (300 : Int)) = true := by simpa using h3
    rw [this, if_pos rfl, if_pos h3]
  · have e3 : decide ((v0.length : Int) > (300 : Int)) = false := by simpa using h3
    rw [e3, if_neg h3]
    simp only [Bool.false_eq_true, if_false]
    have h := check_loop K v0 v1 (by omega) hok hK v0 K 0 [] [] rfl (by omega) (Nat.le_refl _) rfl (Nat.zero_le _) (fun q h => by cases h) (fun d h => by cases h)
    have h' : expr_Check.l6 K K v0 v1 [] (0 : Int) v0 (v0.length : Int) (0 : Int) = _ := h
    rw [h', pass_eq]
    cases hs : stk v0 0 [] [] with
    | none => rfl
    | some x =>
      obtain ⟨st, P⟩ := x
      cases hp : pass2 v0 v0 (P.drop ([] : List (List Nat)).length) [] with
      | none =>
        simp only [hp]
        rfl
      | some D =>
        simp only [hp, Option.map_some, Option.bind_some]
        by_cases h1 : st.length = 1
        · have hq : st = [v0.length - 1] := by
            rcases stk_last _ _ _ _ _ _ hs with ⟨_, rfl⟩ | ⟨s, rfl⟩
            · simp at h1
            · simp at h1
              rw [h1, Nat.zero_add]
              rfl
          subst hq
          simp only [List.map_cons, List.map_nil, List.length_cons, List.length_nil, Nat.zero_add]
          have e0 : idx [thg v0 D (v0.length - 1)] (0 : Int) = some (thg v0 D (v0.length - 1)) := rfl
          have es : (thg v0 D (v0.length - 1)).sort_ = sortI (opAt v0 (v0.length - 1)) := rfl
          simp only [e0, Option.bind_some, es]
          obtain ⟨s, hs'⟩ : ∃ s, s = sortI (opAt v0 (v0.length - 1)) := ⟨_, rfl⟩
          rw [← hs']
          unfold rootOk
          have c4 : (s != 4) = !(s == 4) := rfl
          have c5 : (s != 5) = !(s == 5) := rfl
          have c1 : (s != 1) = !(s == 1) := rfl
          rw [c4, c5, c1]
          rcases Decidable.em (40 < mx D) with hm | hm <;> cases v1 <;> cases (s == 4) <;> cases (s == 5) <;> cases (s == 1) <;> simp [hm]
        · have : ((((st.map (thg v0 D)).length : Int) != (1 : Int))) = true := by
            rw [List.length_map]
            simp
            omega
          rw [this, if_neg h1]
          rfl
theorem rcheck_eq (K : Nat) (v0 : List Node) (v1 : Bool) (hok : ∀ n ∈ v0, NodeOk n ∧ n.text.size + 1000 ≤ K) (hK : 1000 ≤ K) : tariffref10_Check K v0 v1 = some (checkV v0 v1) := by
  unfold tariffref10_Check checkV
  by_cases h3 : (v0.length : Int) > 300
  · have : decide ((v0.length : Int) > (300 : Int)) = true := by simpa using h3
    rw [this, if_pos rfl, if_pos h3]
  · have e3 : decide ((v0.length : Int) > (300 : Int)) = false := by simpa using h3
    rw [e3, if_neg h3]
    simp only [Bool.false_eq_true, if_false]
    rw [i64_small (by omega) (by omega), stack_eq K v0 (by omega) (by omega), pass_eq]
    cases hs : stk v0 0 [] [] with
    | none => rfl
    | some x =>
      obtain ⟨st, P⟩ := x
      simp only [Option.bind_some, Bool.not_true, if_true, List.length_nil, List.drop_zero]
      by_cases h1 : st.length = 1
      · have hne : v0 ≠ [] := by
          rintro rfl
          simp only [stk, Option.some.injEq, Prod.mk.injEq] at hs
          rw [← hs.1] at h1
          cases h1
        have hl : 0 < v0.length := List.length_pos_iff.2 hne
        have e1 : (((ints st).length : Int) != (1 : Int)) = false := by simp [ints, h1]
        rw [e1]
        simp only [Bool.false_eq_true, if_false]
        rw [if_pos ⟨by omega, by omega, (room_iff _).2 (by omega)⟩]
        obtain ⟨f1, f2, ⟨Q, f3, f4⟩, f5⟩ := stk_facts v0 0 [] [] st P hs (fun q h => by cases h) rfl
        obtain ⟨Q', f6, f7⟩ := stk_parts v0 0 [] [] st P hs (Nat.le_refl _)
        have hPl : P.length = v0.length := by simpa using f2
        have hPQ : P = Q := by simpa using f3
        have hPQ' : P = Q' := by simpa using f6
        subst hPQ
        subst hPQ'
        have hloop := rcheck_loop K v0 v1 P (by omega) hok hK hPl (fun j ps hj => ⟨by
          have := f7 j ps hj
          have := getElem?_lt hj
          omega, fun q hq => by have := f4 j ps hj q hq; omega⟩) (fun n hn => by
          obtain ⟨j, hj⟩ := List.getElem?_of_mem hn
          exact f5 j n hj) v0 K 0 [] rfl (by omega) rfl (Nat.zero_le _) (fun d h => by cases h)
        rw [List.drop_zero] at hloop
        have h' : tariffref10_Check.l9 K K v0 v1 (P.map ints) (List.replicate ((v0.length : Int)).toNat (0 : Int)) (0 : Int) (0 : Int) = _ := hloop
        rw [h']
        cases hp : pass2 v0 v0 P [] with
        | none => rfl
        | some D =>
          obtain ⟨nd, hnd⟩ : ∃ nd, v0[v0.length - 1]? = some nd := ⟨_, List.getElem?_eq_getElem (by omega)⟩
          simp only [Option.map_some, Option.bind_some, h1, if_true]
          rw [i64_small (by omega) (by omega), show (v0.length : Int) - 1 = ((v0.length - 1 : Nat) : Int) by omega, idx_nat, hnd]
          simp only [Option.bind_some]
          have hft := fits_nn (f5 (v0.length - 1) nd hnd)
          rw [rsort_eq hft.2.1 hft.2.2, opAt_eq hnd]
          simp only [Option.bind_some]
          obtain ⟨s, hs'⟩ : ∃ s, s = sortI nd.op := ⟨_, rfl⟩
          rw [← hs']
          unfold rootOk
          have c4 : (s != 4) = !(s == 4) := rfl
          have c5 : (s != 5) = !(s == 5) := rfl
          have c1 : (s != 1) = !(s == 1) := rfl
          rw [c4, c5, c1]
          rcases Decidable.em (40 < mx D) with hm | hm <;> cases v1 <;> cases (s == 4) <;> cases (s == 5) <;> cases (s == 1) <;> simp [hm]
      · have e1 : (((ints st).length : Int) != (1 : Int)) = true := by
          unfold ints
          rw [List.length_map]
          simp
          omega
        rw [e1]
        cases pass2 v0 v0 P [] with
        | none => rfl
        | some D => simp [h1]
end Go.EvT
end
section
set_option maxRecDepth 100000
namespace Go.EvT
open Go.Ev Go Go.Lib
structure Chk (v0 : List Node) (P : List (List Nat)) : Prop where
  run : stk v0 0 [] [] = some ([v0.length - 1], P)
  pos : 0 < v0.length
  small : v0.length ≤ 300
  root : rootOk true (sortI (opAt v0 (v0.length - 1))) = true
  len : P.length = v0.length
  fld : ∀ (i : Nat) (x : Node), v0[i]? = some x → fieldsB x = true
  fit : ∀ (i : Nat) (x : Node), v0[i]? = some x → fitsB x.op x.kids = true
  srt : ∀ (i : Nat) (x : Node) (ps : List Nat), v0[i]? = some x → P[i]? = some ps → ∀ (j q : Nat), ps[j]? = some q → sortI (opAt v0 q) = wantI x.op (j : Int)
  ahead : ∀ (i : Nat) (ps : List Nat), P[i]? = some ps → ps.length ≤ i ∧ ∀ q ∈ ps, q < i
theorem sortsOk_at (op : Int) : ∀ (l : List (Int × Int)) (j m : Nat) (a : Int × Int), sortsOk op j l = true → l[m]? = some a → a.1 = wantI op ((j + m : Nat) : Int)
  | [], _, _, _, _, h => by simp at h
  | b :: r, j, 0, a, h, h2 => by
    simp only [List.getElem?_cons_zero, Option.some.injEq] at h2
    subst h2
    simp only [sortsOk, Bool.and_eq_true, beq_iff_eq] at h
    exact h.1
  | b :: r, j, m + 1, a, h, h2 => by
    simp only [sortsOk, Bool.and_eq_true, beq_iff_eq] at h
    have := sortsOk_at op r (j + 1) m a h.2 (by simpa using h2)
    rw [this, show j + 1 + m = j + (m + 1) by omega]
theorem pass2_facts (v0 : List Node) : ∀ (r : List Node) (Q : List (List Nat)) (D D' : List Int), pass2 v0 r Q D = some D' → ∀ (m : Nat) (x : Node), r[m]? = some x →
    fieldsB x = true ∧ ∀ ps, Q[m]? = some ps → ∀ (j q : Nat), ps[j]? = some q → sortI (opAt v0 q) = wantI x.op (j : Int)
  | [], _, _, _, _, _, _, h => by simp at h
  | y :: r, Q, D, D', h, m, x, hx => by
    simp only [pass2] at h
    split at h
    · rename_i hs
      cases m with
      | zero =>
        simp only [List.getElem?_cons_zero, Option.some.injEq] at hx
        subst hx
        unfold stepOk at hs
        simp only [Bool.and_eq_true] at hs
        refine ⟨hs.1, fun ps hps j q hq => ?_⟩
        have e : Q.headD [] = ps := by cases Q <;> simp_all
        rw [e] at hs
        have := sortsOk_at y.op _ 0 j (ent v0 D q) hs.2.1 (by rw [List.getElem?_map, hq]; rfl)
        rw [Nat.zero_add] at this
        exact this
      | succ m =>
        obtain ⟨g1, g2⟩ := pass2_facts v0 r Q.tail _ D' h m x (by simpa using hx)
        refine ⟨g1, fun ps hps => g2 ps ?_⟩
        cases Q with
        | nil => simp at hps
        | cons a Q => simpa using hps
    · cases h
theorem chk_of {v0 : List Node} (h : checkV v0 true = 0) : ∃ P, Chk v0 P := by
  unfold checkV at h
  split at h
  · cases h
  · rename_i h3
    rw [pass_eq] at h
    cases hs : stk v0 0 [] [] with
    | none => rw [hs] at h; cases h
    | some x =>
      obtain ⟨st, P⟩ := x
      rw [hs] at h
      simp only [List.length_nil, List.drop_zero] at h
      cases hp : pass2 v0 v0 P [] with
      | none => rw [hp] at h; cases h
      | some D =>
        rw [hp] at h
        simp only [Option.map_some] at h
        split at h
        · rename_i h1
          split at h
          · rename_i hr
            obtain ⟨f1, f2, ⟨Q, f3, f4⟩, f5⟩ := stk_facts v0 0 [] [] st P hs (fun q h => by cases h) rfl
            obtain ⟨Q', f6, f7⟩ := stk_parts v0 0 [] [] st P hs (Nat.le_refl _)
            have hPQ : P = Q := by simpa using f3
            have hPQ' : P = Q' := by simpa using f6
            subst hPQ
            subst hPQ'
            have hq : st = [v0.length - 1] ∧ 0 < v0.length := by
              rcases stk_last _ _ _ _ _ _ hs with ⟨_, rfl⟩ | ⟨s, rfl⟩
              · simp at h1
              · simp at h1
                refine ⟨by rw [h1, Nat.zero_add]; rfl, ?_⟩
                have := f1 (0 + v0.length - 1) (by simp)
                omega
            have hq1 := hq.1
            subst hq1
            refine ⟨P, hs, hq.2, by omega, hr, by simpa using f2, fun i x hx => (pass2_facts v0 v0 P [] D hp i x hx).1, f5, fun i x ps hx hps j q hq => (pass2_facts v0 v0 P [] D hp i x hx).2 ps hps j q hq, fun i ps hps => ⟨?_, fun q hq => ?_⟩⟩
            · have := f7 i ps hps
              omega
            · have := f4 i ps hps q hq
              omega
          · cases h
        · cases h
def numV (d : Dec) : Val := ⟨2, false, d, ByteArray.empty, 0, [], []⟩
def textV (s : ByteArray) : Val := ⟨3, false, ⟨false, ⟨0, 0⟩, 0⟩, s, 0, [], []⟩
def dayV (d : Int) : Val := ⟨4, false, ⟨false, ⟨0, 0⟩, 0⟩, ByteArray.empty, d, [], []⟩
def truthV (b : Bool) : Val := ⟨1, b, ⟨false, ⟨0, 0⟩, 0⟩, ByteArray.empty, 0, [], []⟩
def nilV : Val := ⟨0, false, ⟨false, ⟨0, 0⟩, 0⟩, ByteArray.empty, 0, [], []⟩
def flipD (d : Dec) : Dec := ⟨!d.neg && !((d.coef.hi == 0) && ((d.coef.lo == 0) && true)), d.coef, d.scale⟩
def lit5 (x : Node) : Bool := x.op == 2 || (x.op == 3 || (x.op == 4 || (x.op == 5 || x.op == 6)))
def litX (x : Node) : Val := if x.op = 2 then truthV true else if x.op = 3 then truthV false else if x.op = 4 then numV x.num else if x.op = 5 then textV x.text else if x.op = 6 then dayV x.day else nilV
theorem literal_eq (x : Node) : unary_literal x = some (litX x, lit5 x) := by
  obtain ⟨op, kids, text, num, day⟩ := x
  by_cases h2 : op = 2
  · subst h2; rfl
  · by_cases h3 : op = 3
    · subst h3; rfl
    · by_cases h4 : op = 4
      · subst h4; rfl
      · by_cases h5 : op = 5
        · subst h5; rfl
        · by_cases h6 : op = 6
          · subst h6; rfl
          · unfold unary_literal litX lit5
            have e2 : (op == 2) = false := by simpa using h2
            have e3 : (op == 3) = false := by simpa using h3
            have e4 : (op == 4) = false := by simpa using h4
            have e5 : (op == 5) = false := by simpa using h5
            have e6 : (op == 6) = false := by simpa using h6
            simp only [e2, e3, e4, e5, e6, if_neg h2, if_neg h3, if_neg h4, if_neg h5, if_neg h6, Bool.false_eq_true, if_false, Option.bind_some]
            rfl
def litB (v0 : List Node) (q : Nat) : Bool := match v0[q]? with
  | some x => lit5 x || ((x.op == 8) && (opAt v0 (q - 1) == 4))
  | none => false
def litV (v0 : List Node) (q : Nat) : Val := match v0[q]? with
  | some x => if x.op = 8 then (match v0[q - 1]? with | some y => if y.op = 4 then numV (flipD y.num) else nilV | none => nilV) else litX x
  | none => nilV
theorem flip_eq (d : Dec) : tariffref02_Flip d = some (flipD d) := by
  unfold tariffref02_Flip flipD
  cases d.neg <;> rfl
theorem rliteral_eq (v0 : List Node) (P : List (List Nat)) (q : Nat) (x : Node) (hx : v0[q]? = some x) (h8 : x.op = 8 → 1 ≤ q ∧ P[q]? = some [q - 1]) : tariffref12_literal v0 (P.map ints) (q : Int) = some (litV v0 q, litB v0 q) := by
  unfold tariffref12_literal litV litB
  rw [idx_nat, hx]
  simp only [Option.bind_some]
  by_cases e8 : x.op = 8
  · obtain ⟨h1, hP⟩ := h8 e8
    obtain ⟨y, hy⟩ : ∃ y, v0[q - 1]? = some y := ⟨_, List.getElem?_eq_getElem (by have := getElem?_lt hx; omega)⟩
    have hPi : (P.map ints)[q]? = some [((q - 1 : Nat) : Int)] := by rw [List.getElem?_map, hP]; rfl
    have hl5 : lit5 x = false := by unfold lit5; rw [e8]; rfl
    rw [e8, hl5, if_pos rfl, opAt_eq hy, hy]
    simp only [show ((8 : Int) == 2) = false from rfl, show ((8 : Int) == 3) = false from rfl, show ((8 : Int) == 4) = false from rfl, show ((8 : Int) == 5) = false from rfl, show ((8 : Int) == 6) = false from rfl, show ((8 : Int) == 8) = true from rfl, Bool.false_eq_true, if_false, if_true, Option.bind_some]
    rw [idx_nat, hPi]
    simp only [Option.bind_some]
    rw [show idx [((q - 1 : Nat) : Int)] (0 : Int) = some ((q - 1 : Nat) : Int) from rfl]
    simp only [Option.bind_some]
    rw [idx_nat, hy]
    simp only [Option.bind_some]
    by_cases e4 : y.op = 4
    · have : (y.op == 4) = true := by simpa using e4
      rw [this, if_pos rfl, if_pos e4, flip_eq]
      rfl
    · have : (y.op == 4) = false := by simpa using e4
      rw [this, if_neg e4]
      rfl
  · rw [if_neg e8]
    have e8' : (x.op == 8) = false := by simpa using e8
    have hl : unary_literal x = some (litX x, lit5 x) := literal_eq x
    obtain ⟨op, kids, text, num, day⟩ := x
    by_cases h2 : op = 2
    · subst h2; rfl
    · by_cases h3 : op = 3
      · subst h3; rfl
      · by_cases h4 : op = 4
        · subst h4; rfl
        · by_cases h5 : op = 5
          · subst h5; rfl
          · by_cases h6 : op = 6
            · subst h6; rfl
            · unfold litX lit5
              have e2 : (op == 2) = false := by simpa using h2
              have e3 : (op == 3) = false := by simpa using h3
              have e4 : (op == 4) = false := by simpa using h4
              have e5 : (op == 5) = false := by simpa using h5
              have e6 : (op == 6) = false := by simpa using h6
              simp only [e2, e3, e4, e5, e6, e8', if_neg h2, if_neg h3, if_neg h4, if_neg h5, if_neg h6, Bool.false_eq_true, if_false, Option.bind_some]
              rfl
end Go.EvT
end
section
set_option maxRecDepth 100000
namespace Go.EvT
open Go.Ev Go Go.Lib
def testB (op : Int) : Bool := decide (op ≥ 30) && decide (op ≤ 35)
theorem isTest_eq (op : Int) : tariffref12_isTest op = some (testB op) := by
  unfold tariffref12_isTest testB
  cases decide (op ≥ 30) <;> simp
def endsQ (v0 : List Node) : List Node → List (List Nat) → List Val
  | [], _ => []
  | x :: r, Q => (if testB x.op = true then (Q.headD []).map (litV v0) else []) ++ endsQ v0 r Q.tail
def okQ (v0 : List Node) : List Node → List (List Nat) → Bool
  | [], _ => true
  | x :: r, Q => (!testB x.op || (Q.headD []).all (litB v0)) && okQ v0 r Q.tail
theorem okQ_cons (v0 : List Node) (x : Node) (r : List Node) (ps : List Nat) (Q : List (List Nat)) : okQ v0 (x :: r) (ps :: Q) = ((!testB x.op || ps.all (litB v0)) && okQ v0 r Q) := rfl
theorem endsQ_cons (v0 : List Node) (x : Node) (r : List Node) (ps : List Nat) (Q : List (List Nat)) : endsQ v0 (x :: r) (ps :: Q) = (if testB x.op = true then ps.map (litV v0) else []) ++ endsQ v0 r Q := rfl
theorem ends_parts (K : Nat) (v0 : List Node) (P : List (List Nat)) (i : Nat) (x : Node) (ps : List Nat) (hx : v0[i]? = some x) (hps : P[i]? = some ps) (hl : ps.length ≤ 300) (hlit : ∀ q ∈ ps, tariffref12_literal v0 (P.map ints) (q : Int) = some (litV v0 q, litB v0 q)) (ht : testB x.op = true) :
    ∀ (m n j : Nat) (w : List Val), m = ps.length - j → m < n → j ≤ ps.length → w.length ≤ 300 * 300 + j →
    tariffref12_ends.l7 K v0 (P.map ints) (i : Int) n w (j : Int) = if (ps.drop j).all (litB v0) = true then some (.go (v0, P.map ints, w ++ (ps.drop j).map (litV v0), (i : Int))) else some (.ret ([], false))
  | _, 0, _, _, _, h, _, _ => by omega
  | 0, n + 1, j, w, hm, _, hj, _ => by
    have : j = ps.length := by omega
    subst this
    unfold tariffref12_ends.l7
    have hPi : (P.map ints)[i]? = some (ints ps) := by rw [List.getElem?_map, hps]; rfl
    rw [idx_nat, hx]
    simp only [Option.bind_some]
    rw [isTest_eq, ht, idx_nat, hPi]
    simp [ints]
  | m + 1, n + 1, j, w, hm, hmn, hj, hw => by
    have hlt : j < ps.length := by omega
    obtain ⟨q, hq⟩ : ∃ q, ps[j]? = some q := ⟨_, List.getElem?_eq_getElem hlt⟩
    have hPi : (P.map ints)[i]? = some (ints ps) := by rw [List.getElem?_map, hps]; rfl
    have hqj : (ints ps)[j]? = some (q : Int) := by unfold ints; rw [List.getElem?_map, hq]; rfl
    unfold tariffref12_ends.l7
    rw [idx_nat, hx]
    simp only [Option.bind_some]
    rw [isTest_eq, ht, idx_nat, hPi]
    have e1 : decide ((j : Int) < ((ints ps).length : Int)) = true := by simp [ints]; omega
    simp only [Option.bind_some, if_true, e1]
    rw [idx_nat, hqj]
    simp only [Option.bind_some]
    rw [hlit q (List.mem_of_getElem? hq)]
    simp only [Option.bind_some]
    rw [drop_cons hq, List.all_cons, List.map_cons]
    cases hb : litB v0 q with
    | false => simp
    | true =>
      simp only [Bool.not_true, Bool.false_eq_true, if_false, Bool.true_and]
      rw [if_pos ((room_iff _).2 (by simp only [List.length_cons, List.length_nil]; omega)), i64_small (by omega) (by omega), show (j : Int) + 1 = ((j + 1 : Nat) : Int) by omega, ends_parts K v0 P i x ps hx hps hl hlit ht m n (j + 1) _ (by omega) (by omega) (by omega) (by simp; omega), List.append_assoc]
      rfl
theorem ends_loop (K : Nat) (v0 : List Node) (P : List (List Nat)) (hc : Chk v0 P) (hK : 1000 ≤ K) (hlit : ∀ (q : Nat), q < v0.length → tariffref12_literal v0 (P.map ints) (q : Int) = some (litV v0 q, litB v0 q)) :
    ∀ (r : List Node) (n i : Nat) (w : List Val), v0.drop i = r → r.length < n → i ≤ v0.length → w.length ≤ 300 * i →
    tariffref12_ends.l4 K n v0 (P.map ints) w (i : Int) = if okQ v0 r (P.drop i) = true then some (.go (w ++ endsQ v0 r (P.drop i))) else some (.ret ([], false))
  | _, 0, _, _, _, h, _, _ => by omega
  | [], n + 1, i, w, hd, _, hi, _ => by
    have hlen := congrArg List.length hd
    simp at hlen
    unfold tariffref12_ends.l4
    have e1 : decide ((i : Int) < (v0.length : Int)) = false := by simp; omega
    rw [e1]
    simp [okQ, endsQ]
  | x :: r, n + 1, i, w, hd, hn, hi, hw => by
    have hlen := congrArg List.length hd
    simp at hlen
    have hx : v0[i]? = some x := by
      have := congrArg (fun l => l[0]?) hd
      simpa using this
    have hd' : v0.drop (i + 1) = r := by
      have := congrArg List.tail hd
      simpa using this
    have hsm := hc.small
    obtain ⟨ps, hps⟩ : ∃ ps, P[i]? = some ps := ⟨_, List.getElem?_eq_getElem (by rw [hc.len]; omega)⟩
    obtain ⟨hpl, hpq⟩ := hc.ahead i ps hps
    unfold tariffref12_ends.l4
    have e1 : decide ((i : Int) < (v0.length : Int)) = true := by simp; omega
    rw [e1, if_pos rfl, drop_cons hps]
    rw [okQ_cons, endsQ_cons]
    cases ht : testB x.op with
    | true =>
      have h := ends_parts K v0 P i x ps hx hps (by omega) (fun q hq => hlit q (by have := hpq q hq; omega)) ht ps.length K 0 w (by omega) (by omega) (Nat.zero_le _) (by omega)
      rw [show ((0 : Nat) : Int) = (0 : Int) from rfl, List.drop_zero] at h
      rw [h]
      simp only [Bool.not_true, Bool.false_or, if_true]
      cases ha : ps.all (litB v0) with
      | false => simp
      | true =>
        simp only [if_true, Option.bind_some, Bool.true_and]
        rw [i64_small (by omega) (by omega), show (i : Int) + 1 = ((i + 1 : Nat) : Int) by omega, ends_loop K v0 P hc hK hlit r n (i + 1) _ hd' (by simp at hn; omega) (by omega) (by simp; omega), List.append_assoc]
    | false =>
      have h : tariffref12_ends.l7 K v0 (P.map ints) (i : Int) K w (0 : Int) = some (.go (v0, P.map ints, w, (i : Int))) := by
        obtain ⟨k, rfl⟩ : ∃ k, K = k + 1 := ⟨K - 1, by omega⟩
        unfold tariffref12_ends.l7
        rw [idx_nat, hx]
        simp only [Option.bind_some]
        rw [isTest_eq, ht]
        rfl
      rw [h]
      simp only [Bool.not_false, Bool.true_or, Bool.true_and, Option.bind_some, Bool.false_eq_true, if_false, List.nil_append]
      rw [i64_small (by omega) (by omega), show (i : Int) + 1 = ((i + 1 : Nat) : Int) by omega, ends_loop K v0 P hc hK hlit r n (i + 1) _ hd' (by simp at hn; omega) (by omega) (by omega)]
theorem stk_pre : ∀ (r : List Node) (i : Nat) (st : List Nat) (P : List (List Nat)) (st' : List Nat) (P' : List (List Nat)), stk r i st P = some (st', P') → ∃ Q, P' = P ++ Q
  | [], i, st, P, st', P', h => by
    simp only [stk, Option.some.injEq, Prod.mk.injEq] at h
    exact ⟨[], by simp [h.2]⟩
  | n :: r, i, st, P, st', P', h => by
    simp only [stk] at h
    split at h
    · obtain ⟨Q, hQ⟩ := stk_pre r _ _ _ _ _ h
      exact ⟨_, by rw [hQ, List.append_assoc]⟩
    · cases h
theorem stk_step {n : Node} {r : List Node} {i : Nat} {st : List Nat} {P : List (List Nat)} {st' : List Nat} {P' : List (List Nat)} (h : stk (n :: r) i st P = some (st', P')) (hP : P.length = i) :
    ∃ kn : Nat, n.kids = (kn : Int) ∧ kn ≤ st.length ∧ P'[i]? = some (st.drop (st.length - kn)) ∧ fitsB n.op n.kids = true ∧ stk r (i + 1) (st.take (st.length - kn) ++ [i]) (P ++ [st.drop (st.length - kn)]) = some (st', P') := by
  simp only [stk] at h
  split at h
  · rename_i hc
    simp only [Bool.and_eq_true, decide_eq_true_eq] at hc
    have k0 := (fits_nn hc.1).1
    refine ⟨n.kids.toNat, by omega, by omega, ?_, hc.1, h⟩
    obtain ⟨Q, hQ⟩ := stk_pre _ _ _ _ _ _ h
    rw [hQ, List.append_assoc, ← hP, List.getElem?_append_right (Nat.le_refl _), Nat.sub_self]
    rfl
  · cases h
theorem stk_top : ∀ (r : List Node) (i : Nat) (st : List Nat) (P : List (List Nat)) (st' : List Nat) (P' : List (List Nat)), stk r i st P = some (st', P') → P.length = i → st.length ≤ i → (0 < i → ∃ s, st = s ++ [i - 1]) →
    ∀ (m : Nat) (x : Node), r[m]? = some x → ∃ ps, P'[i + m]? = some ps ∧ (ps.length : Int) = x.kids ∧ (0 < ps.length → 0 < i + m ∧ ∃ s, ps = s ++ [i + m - 1])
  | [], _, _, _, _, _, _, _, _, _, m, x, hx => by simp at hx
  | n :: r, i, st, P, st', P', h, hP, hs, ht, m, x, hx => by
    obtain ⟨kn, hk, hkl, hPi, _, h'⟩ := stk_step h hP
    cases m with
    | zero =>
      simp only [List.getElem?_cons_zero, Option.some.injEq] at hx
      subst hx
      refine ⟨_, hPi, ?_, fun hp => ?_⟩
      · rw [hk, List.length_drop]; omega
      · rw [List.length_drop] at hp
        have h0 : 0 < i := by omega
        obtain ⟨s, rfl⟩ := ht h0
        refine ⟨h0, s.drop ((s ++ [i - 1]).length - kn), ?_⟩
        rw [List.drop_append_of_le_length (by simp at hp ⊢; omega)]
        rfl
    | succ m =>
      obtain ⟨ps, h1, h2, h3⟩ := stk_top r (i + 1) _ _ _ _ h' (by simp [hP]) (by simp; omega) (fun _ => ⟨_, rfl⟩) m x (by simpa using hx)
      rw [show i + 1 + m = i + (m + 1) by omega] at h1 h3
      exact ⟨ps, h1, h2, h3⟩
theorem arity_of {op kids : Int} (h : fitsB op kids = true) : fitB (arity op).1 (arity op).2 kids = true := by
  unfold fitsB at h
  simp only [Bool.and_eq_true] at h
  exact h.2
theorem neg_part {v0 : List Node} {P : List (List Nat)} (hc : Chk v0 P) {q : Nat} {x : Node} (hx : v0[q]? = some x) (h8 : x.op = 8) : 1 ≤ q ∧ P[q]? = some [q - 1] := by
  obtain ⟨ps, h1, h2, h3⟩ := stk_top v0 0 [] [] _ P hc.run rfl (Nat.le_refl _) (fun h => absurd h (by omega)) q x hx
  have hf := arity_of (hc.fit q x hx)
  rw [h8, show arity 8 = (1, 1) from by decide] at hf
  unfold fitB at hf
  have hk : x.kids = 1 := by
    simp only [Bool.and_eq_true, decide_eq_true_eq, Bool.or_eq_true, beq_iff_eq] at hf
    omega
  have hl : ps.length = 1 := by omega
  obtain ⟨h4, s, rfl⟩ := h3 (by omega)
  simp at hl
  subst hl
  rw [Nat.zero_add] at h1 h4
  refine ⟨by omega, ?_⟩
  rw [h1]
  rfl
theorem rlit {v0 : List Node} {P : List (List Nat)} (hc : Chk v0 P) : ∀ (q : Nat), q < v0.length → tariffref12_literal v0 (P.map ints) (q : Int) = some (litV v0 q, litB v0 q) := fun q hq => by
  obtain ⟨x, hx⟩ : ∃ x, v0[q]? = some x := ⟨_, List.getElem?_eq_getElem hq⟩
  exact rliteral_eq v0 P q x hx (neg_part hc hx)
theorem rends_eq (K : Nat) (v0 : List Node) (P : List (List Nat)) (hc : Chk v0 P) (hK : 1000 ≤ K) : tariffref12_ends K v0 = some (if okQ v0 v0 P = true then (endsQ v0 v0 P, true) else ([], false)) := by
  have hs := hc.small
  have hp := hc.pos
  unfold tariffref12_ends tariffref10_Places
  rw [i64_small (by omega) (by omega), stack_eq K v0 (by omega) (by omega), hc.run]
  simp only [Option.bind_some]
  have h := ends_loop K v0 P hc hK (rlit hc) v0 K 0 [] rfl (by omega) (Nat.zero_le _) (Nat.zero_le _)
  rw [List.drop_zero, List.nil_append] at h
  rw [show ((0 : Nat) : Int) = (0 : Int) from rfl] at h
  rw [h]
  cases okQ v0 v0 P <;> rfl
end Go.EvT
end
section
set_option maxRecDepth 100000
namespace Go.EvT
open Go.Ev Go Go.Lib
theorem push_set (s : List Val) (z v : Val) : (s ++ [z]).set ((s.length : Int)).toNat v = s ++ [v] := by
  rw [show ((s.length : Int)).toNat = s.length from rfl, List.set_append_right _ _ (Nat.le_refl _), Nat.sub_self]
  rfl
theorem push_idx (s : List Val) (z : Val) : idx (s ++ [z]) (s.length : Int) = some z := by
  rw [idx_nat, List.getElem?_append_right (Nat.le_refl _), Nat.sub_self]
  rfl
theorem push_eq {α : Type} (s : List Val) (hs : s.length ≤ 1000) (v : Val) (e : List Val → Option α) : (if room ((s.length + ([nilV] : List Val).length) * 120) then
    if 0 ≤ (s.length : Int) ∧ (s.length : Int) < ((s ++ ([nilV] : List Val)).length : Int) then
    (idx (s ++ ([nilV] : List Val)) (s.length : Int)).bind fun e6 => e ((s ++ ([nilV] : List Val)).set ((s.length : Int)).toNat v)
    else none
    else none) = e (s ++ [v]) := by
  rw [if_pos ((room_iff _).2 (by simp only [List.length_cons, List.length_nil]; omega)), if_pos ⟨by omega, by simp; omega⟩, push_idx]
  simp only [Option.bind_some]
  rw [push_set]
theorem pop_eq (v : Val) (s l es : List Val) (is a : Bool) (kids : Int) (hk : kids = (l.length : Int)) (hs : (s ++ l).length ≤ 1000) : unary_machine_pop ⟨v, s ++ l, es, is, a⟩ kids = some (l, ⟨v, s, es, is, a⟩) := by
  unfold unary_machine_pop
  have e1 : IntKind.i64.wrap (((s ++ l).length : Int) - kids) = (s.length : Int) := by
    rw [i64_small (by simp at hs ⊢; omega) (by simp at hs ⊢; omega)]
    simp; omega
  have e2 : sub (s ++ l) (s.length : Int) ((s.length : Int) + (((s ++ l).length : Int) - (s.length : Int))) = l := by
    unfold sub
    rw [show ((s.length : Int)).toNat = s.length from rfl, List.drop_left, List.take_of_length_le]
    simp
    omega
  simp only [e1, e2]
  rw [if_pos ⟨by omega, by simp; omega, by omega⟩, if_pos ((room_iff _).2 (by simp at hs ⊢; omega)), if_pos ⟨by omega, by omega, by simp; omega⟩, show ((s.length : Int)).toNat = s.length from rfl, List.take_left]
  rfl
theorem step_lit (K : Nat) (v : Val) (vs es : List Val) (is a : Bool) (x : Node) (h1 : x.op ≤ 28) (h8 : x.op ≠ 8) (hs : vs.length ≤ 1000) : unary_machine_step K ⟨v, vs, es, is, a⟩ x = some (lit5 x, ⟨v, vs ++ [litX x], es, is, a⟩) := by
  unfold unary_machine_step
  have e8 : (x.op == 8) = false := by simpa using h8
  have e29 : (x.op == 29) = false := by simp; omega
  have e37 : (x.op == 37) = false := by simp; omega
  have e36 : (x.op == 36) = false := by simp; omega
  have e30 : decide (x.op ≥ 30) = false := by simp; omega
  rw [e8, e29, e37, e36, e30, literal_eq]
  simp only [Bool.false_eq_true, if_false, Option.bind_some]
  exact push_eq vs hs (litX x) (fun l => some (lit5 x, (⟨v, l, es, is, a⟩ : unary_machine)))
theorem neg_form (K : Nat) (hK : 1000 ≤ K) (d : Dec) (hd : d.coef.Ok) (hf : d.form = true) : dec_Neg K d = some (flipD d, 0) := by
  unfold dec_Neg dec_formed
  have h : dec_formed.l2 K [d] (([d] : List Dec).length : Int) K (0 : Int) = some (.go ()) := by
    obtain ⟨k, rfl⟩ : ∃ k, K = k + 2 := ⟨K - 2, by omega⟩
    unfold dec_formed.l2
    rw [show idx [d] (0 : Int) = some d from rfl]
    simp only [Option.bind_some]
    rw [form_eq (k + 2) (by omega) d hd, hf]
    rfl
  rw [h]
  simp only [Option.bind_some]
  unfold dec_turned dec_zero flipD
  cases d.neg <;> rfl
theorem step_neg (K : Nat) (hK : 1000 ≤ K) (v : Val) (s es : List Val) (is a : Bool) (x : Node) (h8 : x.op = 8) (d : Dec) (hd : d.coef.Ok) (hf : d.form = true) (hs : s.length ≤ 1000) : unary_machine_step K ⟨v, s ++ [numV d], es, is, a⟩ x = some (true, ⟨v, s ++ [numV (flipD d)], es, is, a⟩) := by
  unfold unary_machine_step
  rw [h8]
  have e1 : (((s ++ [numV d]).length : Int) == (0 : Int)) = false := by
    rw [beq_eq_false_iff_ne, List.length_append]
    simp only [List.length_cons, List.length_nil]
    omega
  have e2 : IntKind.i64.wrap (((s ++ [numV d]).length : Int) - 1) = (s.length : Int) := by
    rw [List.length_append, i64_small (by simp only [List.length_cons, List.length_nil]; omega) (by simp only [List.length_cons, List.length_nil]; omega)]
    simp
  have e3 : 0 ≤ (s.length : Int) ∧ (s.length : Int) < ((s ++ [numV d]).length : Int) := by
    rw [List.length_append]
    simp only [List.length_cons, List.length_nil]
    omega
  simp only [e1, e2, push_idx, show ((8 : Int) == 8) = true from rfl, if_true, Option.bind_some]
  rw [if_pos e3]
  simp only [show ((numV d).kind != 2) = false from rfl, show (numV d).num = d from rfl, Bool.false_eq_true, if_false]
  rw [if_pos e3]
  rw [neg_form K hK d hd hf]
  simp only [Option.bind_some]
  rw [push_set]
  rfl
theorem step_any (K : Nat) (v : Val) (vs es : List Val) (is a : Bool) (x : Node) (h29 : x.op = 29) (hs : vs.length ≤ 1000) : unary_machine_step K ⟨v, vs, es, is, a⟩ x = some (true, ⟨v, vs ++ [truthV true], es, is, a⟩) := by
  unfold unary_machine_step
  rw [h29]
  exact push_eq vs hs (truthV true) (fun l => some (true, (⟨v, l, es, is, a⟩ : unary_machine)))
theorem step_not (K : Nat) (v : Val) (s es : List Val) (is a : Bool) (x : Node) (h37 : x.op = 37) (y z : Val) (hn : unary_not K y = some z) (hs : s.length ≤ 900) : unary_machine_step K ⟨v, s ++ [y], es, is, a⟩ x = some (true, ⟨v, s ++ [z], es, is, a⟩) := by
  unfold unary_machine_step
  rw [h37]
  simp only [show ((37 : Int) == 8) = false from rfl, show ((37 : Int) == 29) = false from rfl, show ((37 : Int) == 37) = true from rfl, Bool.false_eq_true, if_false, if_true]
  rw [pop_eq v s [y] es is a 1 rfl (by simp; omega)]
  simp only [Option.bind_some, show idx [y] (0 : Int) = some y from rfl, hn]
  exact push_eq s (by omega) z (fun l => some (true, (⟨v, l, es, is, a⟩ : unary_machine)))
theorem step_test (K : Nat) (v : Val) (s l es : List Val) (is a : Bool) (x : Node) (h1 : 30 ≤ x.op) (h2 : x.op ≤ 35) (hk : x.kids = (l.length : Int)) (t : Val) (ht : (if a = true then unary_test K x v l else some (truthV false)) = some t) (hs : (s ++ l).length ≤ 1000) (he : es.length ≤ 300 * 300) :
    unary_machine_step K ⟨v, s ++ l, es, is, a⟩ x = some (true, ⟨v, s ++ [t], es ++ l, is && (x.op == 30), a⟩) := by
  unfold unary_machine_step
  have e8 : (x.op == 8) = false := by simp; omega
  have e29 : (x.op == 29) = false := by simp; omega
  have e37 : (x.op == 37) = false := by simp; omega
  have e36 : (x.op == 36) = false := by simp; omega
  have e30 : decide (x.op ≥ 30) = true := by simp; omega
  have e35 : decide (x.op ≤ 35) = true := by simp; omega
  rw [e8, e29, e37, e36, e30, e35]
  simp only [Bool.false_eq_true, if_false, if_true, Option.bind_some]
  rw [pop_eq v s l es is a _ hk hs]
  simp only [Option.bind_some]
  simp at hs
  rw [if_pos ((room_iff _).2 (by omega))]
  have eis : ((if is = true then some (x.op == (30 : Int)) else some false) : Option Bool) = some (is && (x.op == 30)) := by cases is <;> rfl
  rw [eis]
  simp only [Option.bind_some, show unary_truth false = some (truthV false) from rfl]
  cases a with
  | true =>
    simp only [if_true] at ht ⊢
    rw [ht]
    simp only [Option.bind_some]
    exact push_eq s (by omega) t (fun l' => some (true, (⟨v, l', es ++ l, is && (x.op == 30), true⟩ : unary_machine)))
  | false =>
    simp only [Bool.false_eq_true, if_false, Option.some.injEq] at ht ⊢
    subst ht
    simp only [Option.bind_some]
    exact push_eq s (by omega) (truthV false) (fun l' => some (true, (⟨v, l', es ++ l, is && (x.op == 30), false⟩ : unary_machine)))
def orAll (K : Nat) : Val → List Val → Option Val
  | t, [] => some t
  | t, y :: l => (value_Or K t y).bind fun r => orAll K r.1 l
theorem some_loop (K : Nat) (l : List Val) (m0 : unary_machine) (hl : l.length ≤ 1000) : ∀ (m n j : Nat) (t : Val), m = l.length - j → m < n → j ≤ l.length →
    unary_machine_step.l17 K l (l.length : Int) m0 n (j : Int) t = (orAll K t (l.drop j)).map fun t => (m0, t)
  | _, 0, _, _, _, h, _ => by omega
  | 0, n + 1, j, t, hm, _, hj => by
    have : j = l.length := by omega
    subst this
    unfold unary_machine_step.l17
    simp [orAll]
  | m + 1, n + 1, j, t, hm, hmn, hj => by
    have hlt : j < l.length := by omega
    obtain ⟨x, hx⟩ : ∃ x, l[j]? = some x := ⟨_, List.getElem?_eq_getElem hlt⟩
    unfold unary_machine_step.l17
    have e1 : decide ((j : Int) < (l.length : Int)) = true := by simpa using hlt
    rw [e1, if_pos rfl, idx_nat, hx, drop_cons hx]
    simp only [Option.bind_some, orAll]
    cases hv : value_Or K t x with
    | none => rfl
    | some r =>
      simp only [Option.bind_some]
      rw [i64_small (by omega) (by omega), show (j : Int) + 1 = ((j + 1 : Nat) : Int) by omega, some_loop K l m0 hl m n (j + 1) _ (by omega) (by omega) (by omega)]
theorem step_some (K : Nat) (v : Val) (s l es : List Val) (is a : Bool) (x : Node) (h36 : x.op = 36) (hk : x.kids = (l.length : Int)) (t : Val) (ht : orAll K (truthV false) l = some t) (hs : (s ++ l).length ≤ 900) (hK : 1000 ≤ K) :
    unary_machine_step K ⟨v, s ++ l, es, is, a⟩ x = some (true, ⟨v, s ++ [t], es, is, a⟩) := by
  unfold unary_machine_step
  rw [h36]
  simp only [show ((36 : Int) == 8) = false from rfl, show ((36 : Int) == 29) = false from rfl, show ((36 : Int) == 37) = false from rfl, show ((36 : Int) == 36) = true from rfl, Bool.false_eq_true, if_false, if_true, show unary_truth false = some (truthV false) from rfl, Option.bind_some]
  rw [pop_eq v s l es is a _ hk (by omega)]
  simp only [Option.bind_some]
  simp at hs
  have h := some_loop K l ⟨v, s, es, is, a⟩ (by omega) l.length K 0 (truthV false) (by omega) (by omega) (Nat.zero_le _)
  rw [show ((0 : Nat) : Int) = (0 : Int) from rfl, List.drop_zero, ht] at h
  rw [h]
  simp only [Option.map_some, Option.bind_some]
  exact push_eq s (by omega) t (fun l => some (true, (⟨v, l, es, is, a⟩ : unary_machine)))
end Go.EvT
end
section
set_option maxRecDepth 100000
namespace Go.EvT
open Go.Ev Go Go.Lib
theorem sort_1 {op : Int} (h1 : 1 ≤ op) (h2 : op ≤ 37) (h : sortI op = 1) : op ≤ 27 := by
  rcases in37 h1 h2 with rfl | rfl | rfl | rfl | rfl | rfl | rfl | rfl | rfl | rfl | rfl | rfl | rfl | rfl | rfl | rfl | rfl | rfl | rfl | rfl | rfl | rfl | rfl | rfl | rfl | rfl | rfl | rfl | rfl | rfl | rfl | rfl | rfl | rfl | rfl | rfl | rfl <;> revert h <;> decide
theorem sort_le {op : Int} (h1 : 1 ≤ op) (h2 : op ≤ 37) (h : op ≤ 28) : sortI op = 1 ∨ sortI op = 2 := by
  rcases in37 h1 h2 with rfl | rfl | rfl | rfl | rfl | rfl | rfl | rfl | rfl | rfl | rfl | rfl | rfl | rfl | rfl | rfl | rfl | rfl | rfl | rfl | rfl | rfl | rfl | rfl | rfl | rfl | rfl | rfl | rfl | rfl | rfl | rfl | rfl | rfl | rfl | rfl | rfl <;> revert h <;> decide
theorem sort_3 {op : Int} (h1 : 1 ≤ op) (h2 : op ≤ 37) (h : sortI op = 3 ∨ sortI op = 4) : 29 ≤ op := by
  rcases in37 h1 h2 with rfl | rfl | rfl | rfl | rfl | rfl | rfl | rfl | rfl | rfl | rfl | rfl | rfl | rfl | rfl | rfl | rfl | rfl | rfl | rfl | rfl | rfl | rfl | rfl | rfl | rfl | rfl | rfl | rfl | rfl | rfl | rfl | rfl | rfl | rfl | rfl | rfl <;> revert h <;> decide
theorem want_test {op : Int} (h : testB op = true) (j : Int) : wantI op j = 1 := by
  unfold testB at h
  simp only [Bool.and_eq_true, decide_eq_true_eq] at h
  unfold wantI expr_wanted
  have e27 : (op == 27) = false := by simp; omega
  have e36 : (op == 36) = false := by simp; omega
  have e37 : (op == 37) = false := by simp; omega
  have e23 : (op == 23) = false := by simp; omega
  rw [e27, e36, e37, e23]
  rfl
structure VR (v0 : List Node) (q : Nat) (y : Val) : Prop where
  lit : opAt v0 q ≤ 27 → y = litV v0 q
  tru : 29 ≤ opAt v0 q → ∃ b, y = truthV b
structure Rel (v0 : List Node) (st : List Nat) (vs : List Val) : Prop where
  len : vs.length = st.length
  at_ : ∀ (j q : Nat) (y : Val), st[j]? = some q → vs[j]? = some y → VR v0 q y
theorem Rel.push {v0 : List Node} {st : List Nat} {vs : List Val} (h : Rel v0 st vs) (m : Nat) {i : Nat} {y : Val} (hy : VR v0 i y) : Rel v0 (st.take m ++ [i]) (vs.take m ++ [y]) := by
  have hl := h.len
  refine ⟨by simp [hl], fun j q z hq hz => ?_⟩
  have hml : (vs.take m).length = (st.take m).length := by simp [hl]
  rcases Nat.lt_or_ge j (st.take m).length with hj | hj
  · rw [List.getElem?_append_left hj] at hq
    rw [List.getElem?_append_left (by omega)] at hz
    have hjm : j < m := by simp at hj; omega
    rw [List.getElem?_take_of_lt hjm] at hq hz
    exact h.at_ j q z hq hz
  · rw [List.getElem?_append_right hj] at hq
    rw [List.getElem?_append_right (by omega), hml] at hz
    obtain ⟨d, hd⟩ : ∃ d, d = j - (st.take m).length := ⟨_, rfl⟩
    rw [← hd] at hq hz
    cases d with
    | zero =>
      simp at hq hz
      subst hq
      subst hz
      exact hy
    | succ d => simp at hq
theorem Rel.drop {v0 : List Node} {st : List Nat} {vs : List Val} (h : Rel v0 st vs) (m : Nat) : Rel v0 (st.drop m) (vs.drop m) := by
  refine ⟨by simp [h.len], fun j q y hq hy => ?_⟩
  rw [List.getElem?_drop] at hq hy
  exact h.at_ _ q y hq hy
theorem Rel.lits {v0 : List Node} {st : List Nat} {vs : List Val} (h : Rel v0 st vs) (ho : ∀ q ∈ st, opAt v0 q ≤ 27) : vs = st.map (litV v0) := by
  refine List.ext_getElem? fun j => ?_
  rw [List.getElem?_map]
  cases hq : st[j]? with
  | none =>
    have : st.length ≤ j := by simpa using hq
    simpa [h.len] using this
  | some q =>
    have hlt := getElem?_lt hq
    obtain ⟨y, hy⟩ : ∃ y, vs[j]? = some y := ⟨_, List.getElem?_eq_getElem (by rw [h.len]; exact hlt)⟩
    rw [hy, (h.at_ j q y hq hy).lit (ho q (List.mem_of_getElem? hq))]
    rfl
def badQ (v0 : List Node) : List Node → Nat → Bool
  | [], _ => false
  | x :: r, i => (decide (x.op ≤ 28) && !litB v0 i) || badQ v0 r (i + 1)
theorem kids_0 {op kids : Int} (h : fitsB op kids = true) (ho : arity op = (0, 0)) : kids = 0 := by
  have := arity_of h
  rw [ho] at this
  unfold fitB at this
  simp only [Bool.and_eq_true, decide_eq_true_eq, Bool.or_eq_true, beq_iff_eq] at this
  omega
theorem kids_1 {op kids : Int} (h : fitsB op kids = true) (ho : arity op = (1, 1)) : kids = 1 := by
  have := arity_of h
  rw [ho] at this
  unfold fitB at this
  simp only [Bool.and_eq_true, decide_eq_true_eq, Bool.or_eq_true, beq_iff_eq] at this
  omega
end Go.EvT
end
section
set_option maxRecDepth 100000
namespace Go.EvT
open Go.Ev Go Go.Lib
theorem bad_step (k : Nat) (hk : 1000 ≤ k) (v0 : List Node) (P : List (List Nat)) (hc : Chk v0 P) (i : Nat) (x : Node) (hx : v0[i]? = some x) (v : Val) (vs es : List Val) (is a : Bool) (hs : vs.length ≤ 300) (hb : (decide (x.op ≤ 28) && !litB v0 i) = true) (n : Nat) :
    ∃ m, unary_machine_all.l3 k v0 v0 (v0.length : Int) (n + 1) (i : Int) ⟨v, vs, es, is, a⟩ = some (.ret (false, m)) := by
  simp only [Bool.and_eq_true, decide_eq_true_eq, Bool.not_eq_true'] at hb
  obtain ⟨h28, hlb⟩ := hb
  have hlt := getElem?_lt hx
  unfold unary_machine_all.l3
  have e1 : decide ((i : Int) < (v0.length : Int)) = true := by simpa using hlt
  rw [e1, if_pos rfl, idx_nat, hx]
  simp only [Option.bind_some]
  by_cases h8 : x.op = 8
  · obtain ⟨h1, hP8⟩ := neg_part hc hx h8
    obtain ⟨p, hp⟩ : ∃ p, v0[i - 1]? = some p := ⟨_, List.getElem?_eq_getElem (by omega)⟩
    have e8 : (x.op == 8) = true := by simpa using h8
    have hp4 : (p.op != 4) = true := by
      unfold litB at hlb
      rw [hx] at hlb
      simp only [e8, Bool.true_and, Bool.or_eq_false_iff] at hlb
      rw [opAt_eq hp] at hlb
      have := hlb.2
      simpa using this
    have hsm := hc.small
    rw [e8, if_pos rfl, i64_small (by omega) (by omega), show (i : Int) - 1 = ((i - 1 : Nat) : Int) by omega, idx_nat, hp]
    simp only [Option.bind_some, hp4]
    exact ⟨_, rfl⟩
  · have e8 : (x.op == 8) = false := by simpa using h8
    have hl5 : lit5 x = false := by
      unfold litB at hlb
      rw [hx] at hlb
      simpa [e8] using hlb
    rw [e8]
    simp only [Bool.false_eq_true, if_false, Option.bind_some]
    rw [step_lit k v vs es is a x h28 h8 (by omega), hl5]
    exact ⟨_, rfl⟩
theorem bad_ok {v0 : List Node} {P : List (List Nat)} (hc : Chk v0 P) : ∀ (r : List Node) (i : Nat) (st : List Nat) (Pi : List (List Nat)), v0.drop i = r → i ≤ v0.length → stk r i st Pi = some ([v0.length - 1], P) → Pi.length = i →
    (okQ v0 r (P.drop i) = true → badQ v0 r i = false ∧ ∀ q ∈ st, (decide (opAt v0 q ≤ 28) && !litB v0 q) = true → False) ∧
    (badQ v0 r i = false → (∀ q, q < i → (decide (opAt v0 q ≤ 28) && !litB v0 q) = false) → okQ v0 r (P.drop i) = true)
  | [], i, st, Pi, hd, hi, h, hPi => by
    have hlen := congrArg List.length hd
    simp at hlen
    simp only [stk, Option.some.injEq, Prod.mk.injEq] at h
    refine ⟨fun _ => ⟨rfl, fun q hq hb => ?_⟩, fun _ _ => rfl⟩
    rw [h.1] at hq
    have hq' := List.mem_singleton.1 hq
    subst hq'
    simp only [Bool.and_eq_true, decide_eq_true_eq] at hb
    have hp := hc.pos
    obtain ⟨w, hw⟩ : ∃ w, v0[v0.length - 1]? = some w := ⟨_, List.getElem?_eq_getElem (by omega)⟩
    have hwf := fits_nn (hc.fit _ w hw)
    have hro := hc.root
    rw [opAt_eq hw] at hb hro
    unfold rootOk at hro
    rcases sort_le hwf.2.1 hwf.2.2 hb.1 with e | e <;> rw [e] at hro <;> cases hro
  | x :: r, i, st, Pi, hd, hi, h, hPi => by
    have hlen := congrArg List.length hd
    simp at hlen
    have hx : v0[i]? = some x := by
      have := congrArg (fun l => l[0]?) hd
      simpa using this
    have hd' : v0.drop (i + 1) = r := by
      have := congrArg List.tail hd
      simpa using this
    obtain ⟨kn, h1, h2, h3, h4, h5⟩ := stk_step h hPi
    obtain ⟨ih1, ih2⟩ := bad_ok hc r (i + 1) _ _ hd' (by omega) h5 (by simp [hPi])
    have hfit := hc.fit i x hx
    obtain ⟨_, o1, o2⟩ := fits_nn hfit
    have hop := opAt_eq hx
    rw [drop_cons h3]
    rw [okQ_cons]
    simp only [badQ]
    have hsort : ∀ q ∈ st.drop (st.length - kn), 1 ≤ opAt v0 q ∧ opAt v0 q ≤ 37 ∧ ∃ j : Nat, sortI (opAt v0 q) = wantI x.op (j : Int) := fun q hq => by
      obtain ⟨j, hj⟩ := List.getElem?_of_mem hq
      have hlt := (hc.ahead i _ h3).2 q hq
      obtain ⟨w, hw⟩ : ∃ w, v0[q]? = some w := ⟨_, List.getElem?_eq_getElem (by omega)⟩
      have hwf := fits_nn (hc.fit q w hw)
      rw [opAt_eq hw]
      exact ⟨hwf.2.1, hwf.2.2, j, by rw [← opAt_eq hw]; exact hc.srt i x _ hx h3 j q hj⟩
    refine ⟨fun ho => ?_, fun hnb hpre => ?_⟩
    · simp only [Bool.and_eq_true] at ho
      obtain ⟨hot, hor⟩ := ho
      obtain ⟨g1, g2⟩ := ih1 hor
      have hxb : (decide (x.op ≤ 28) && !litB v0 i) = false := by
        cases hxb : (decide (x.op ≤ 28) && !litB v0 i) with
        | false => rfl
        | true => exact (g2 i (by simp) (by rw [hop]; exact hxb)).elim
      refine ⟨by rw [hxb, g1]; rfl, fun q hq hqb => ?_⟩
      by_cases hqt : q ∈ st.take (st.length - kn)
      · exact g2 q (List.mem_append_left _ hqt) hqb
      · have hqd : q ∈ st.drop (st.length - kn) := by
          have := List.take_append_drop (st.length - kn) st
          rw [← this] at hq
          rcases List.mem_append.1 hq with h | h
          · exact absurd h hqt
          · exact h
        obtain ⟨a1, a2, j, hj⟩ := hsort q hqd
        simp only [Bool.and_eq_true, decide_eq_true_eq, Bool.not_eq_true'] at hqb
        obtain ⟨hq28, hqb⟩ := hqb
        by_cases h28 : x.op ≤ 28
        · have hlb : litB v0 i = true := by simpa [h28] using hxb
          by_cases h8 : x.op = 8
          · obtain ⟨p1, p2⟩ := neg_part hc hx h8
            rw [h3] at p2
            rw [Option.some.inj p2] at hqd
            have hq' := List.mem_singleton.1 hqd
            subst hq'
            obtain ⟨w, hw⟩ : ∃ w, v0[i - 1]? = some w := ⟨_, List.getElem?_eq_getElem (by omega)⟩
            unfold litB at hlb
            rw [hx] at hlb
            have : lit5 x = false := by unfold lit5; rw [h8]; rfl
            simp only [this, Bool.false_or, Bool.and_eq_true, beq_iff_eq] at hlb
            unfold litB at hqb
            rw [hw] at hqb
            have : lit5 w = true := by unfold lit5; rw [← opAt_eq hw, hlb.2]; rfl
            simp only [this, Bool.true_or] at hqb
            cases hqb
          · have e8 : (x.op == 8) = false := by simpa using h8
            have hl5 : lit5 x = true := by
              unfold litB at hlb
              rw [hx] at hlb
              simpa [e8] using hlb
            have hk0 : x.kids = 0 := by
              refine kids_0 hfit ?_
              unfold lit5 at hl5
              simp only [Bool.or_eq_true, beq_iff_eq] at hl5
              rcases hl5 with h | h | h | h | h <;> rw [h] <;> decide
            have hkn0 : kn = 0 := by omega
            subst hkn0
            rw [Nat.sub_zero, List.drop_length] at hqd
            cases hqd
        · cases htb : testB x.op with
          | true =>
            rw [htb] at hot
            simp only [Bool.not_true, Bool.false_or] at hot
            have := List.all_eq_true.1 hot q hqd
            rw [this] at hqb
            cases hqb
          | false =>
            have hnt : x.op = 29 ∨ x.op = 36 ∨ x.op = 37 := by
              unfold testB at htb
              simp only [Bool.and_eq_false_iff, decide_eq_false_iff_not] at htb
              omega
            rcases hnt with h29 | h36 | h37
            · have hk0 : x.kids = 0 := kids_0 hfit (by rw [h29]; decide)
              have hkn0 : kn = 0 := by omega
              subst hkn0
              rw [Nat.sub_zero, List.drop_length] at hqd
              cases hqd
            · rw [h36] at hj
              have := sort_3 a1 a2 (.inl hj)
              omega
            · rw [h37] at hj
              have := sort_3 a1 a2 (.inr hj)
              omega
    · simp only [Bool.or_eq_false_iff] at hnb
      have hrest := ih2 hnb.2 (fun q hq => by
        rcases Nat.lt_or_ge q i with h | h
        · exact hpre q h
        · have : q = i := by omega
          subst this
          rw [hop]
          exact hnb.1)
      rw [hrest, Bool.and_true]
      cases htb : testB x.op with
      | false => rfl
      | true =>
        simp only [Bool.not_true, Bool.false_or]
        refine List.all_eq_true.2 fun q hq => ?_
        obtain ⟨a1, a2, j, hj⟩ := hsort q hq
        rw [want_test htb] at hj
        have h27 := sort_1 a1 a2 hj
        have := hpre q ((hc.ahead i _ h3).2 q hq)
        have e28 : decide (opAt v0 q ≤ 28) = true := by simp; omega
        rw [e28] at this
        simpa using this
theorem bad_eq_ok {v0 : List Node} {P : List (List Nat)} (hc : Chk v0 P) : badQ v0 v0 0 = !okQ v0 v0 P := by
  obtain ⟨h1, h2⟩ := bad_ok hc v0 0 [] [] rfl (Nat.zero_le _) hc.run rfl
  rw [List.drop_zero] at h1 h2
  cases ho : okQ v0 v0 P with
  | true => rw [(h1 ho).1]; rfl
  | false =>
    cases hb : badQ v0 v0 0 with
    | true => rfl
    | false => rw [h2 hb (fun q h => absurd h (by omega))] at ho; cases ho
end Go.EvT
end
section
set_option maxRecDepth 100000
namespace Go.EvT
open Go.Ev Go Go.Lib
def NodesOk (K : Nat) (v0 : List Node) : Prop := ∀ n ∈ v0, NodeOk n ∧ n.text.size + 1000 ≤ K
def Flat (v : Val) : Prop := v.list = [] ∧ v.names = []
theorem count_flat0 (k : Nat) (a : Int) (b : Bool) (c : Dec) (d : ByteArray) (e : Int) : tariffref07_Count (k + 10) ⟨a, b, c, d, e, [], []⟩ 1000 = some 1 := by kernel_rfl
theorem count_flat (k : Nat) (v : Val) (hv : Flat v) : tariffref07_Count (k + 10) v 1000 = some 1 := by
  obtain ⟨a, b, c, d, e, l, n⟩ := v
  obtain ⟨h1, h2⟩ := hv
  have h1 : l = [] := h1
  have h2 : n = [] := h2
  subst h1
  subst h2
  exact count_flat0 k a b c d e
theorem same_l4 (f : Val → Val → Option Bool) (k : Nat) (a : Int) (b : Bool) (c : Dec) (d : ByteArray) (e : Int) : tariffref07_Same.l4 f (k + 9) ⟨a, b, c, d, e, [], []⟩ ⟨a, b, c, d, e, [], []⟩ (k + 9) 0 = some (.go (⟨a, b, c, d, e, [], []⟩, ⟨a, b, c, d, e, [], []⟩)) := by kernel_rfl
theorem same_l9 (f : Val → Val → Option Bool) (k : Nat) (a : Int) (b : Bool) (c : Dec) (d : ByteArray) (e : Int) : tariffref07_Same.l9 f (k + 9) ⟨a, b, c, d, e, [], []⟩ ⟨a, b, c, d, e, [], []⟩ (k + 9) 0 = some (.go ()) := by kernel_rfl
theorem same_flat (k : Nat) (v : Val) (hv : Flat v) : tariffref07_Same (k + 10) v v = some true := by
  obtain ⟨a, b, c, d, e, l, n⟩ := v
  obtain ⟨h1, h2⟩ := hv
  have h1 : l = [] := h1
  have h2 : n = [] := h2
  subst h1
  subst h2
  rw [show k + 10 = (k + 9) + 1 from rfl]
  unfold tariffref07_Same
  simp only [bne_self_eq_false, beq_self_eq_true, Bool.not_true, Bool.and_self, Bool.and_true, if_true, Option.bind_some, Bool.false_eq_true, if_false]
  rw [same_l4]
  simp only [Option.bind_some]
  rw [same_l9]
  rfl
theorem sameAll_loop (k : Nat) (l : List Val) (hl : ∀ y ∈ l, Flat y) (hs : l.length ≤ 1000000) : ∀ (m n j : Nat), m = l.length - j → m < n → j ≤ l.length → tariffref12_SameAll.l4 (k + 10) l l n (j : Int) = some (.go ())
  | _, 0, _, _, h, _ => by omega
  | 0, n + 1, j, hm, _, hj => by
    have : j = l.length := by omega
    subst this
    unfold tariffref12_SameAll.l4
    simp
  | m + 1, n + 1, j, hm, hmn, hj => by
    have hlt : j < l.length := by omega
    obtain ⟨x, hx⟩ : ∃ x, l[j]? = some x := ⟨_, List.getElem?_eq_getElem hlt⟩
    have hf := hl x (List.mem_of_getElem? hx)
    unfold tariffref12_SameAll.l4
    have e1 : decide ((j : Int) < (l.length : Int)) = true := by simpa using hlt
    rw [e1, if_pos rfl, idx_nat, hx]
    simp only [Option.bind_some]
    rw [count_flat k x hf, same_flat k x hf]
    simp only [Option.bind_some, show decide ((1 : Int) > 1000) = false from rfl, if_true, Bool.not_true, Bool.false_eq_true, if_false]
    rw [i64_small (by omega) (by omega), show (j : Int) + 1 = ((j + 1 : Nat) : Int) by omega, sameAll_loop k l hl hs m n (j + 1) (by omega) (by omega) (by omega)]
theorem sameAll_self (k : Nat) (l : List Val) (hl : ∀ y ∈ l, Flat y) (hs : l.length ≤ 1000000) (hk : l.length < k + 10) : tariffref12_SameAll (k + 10) l l = some true := by
  unfold tariffref12_SameAll
  simp only [bne_self_eq_false, Bool.false_eq_true, if_false]
  have h := sameAll_loop k l hl hs l.length (k + 10) 0 rfl hk (Nat.zero_le _)
  rw [show ((0 : Nat) : Int) = (0 : Int) from rfl] at h
  rw [h]
  rfl
end Go.EvT
end
section
set_option maxRecDepth 100000
namespace Go.EvT
open Go.Ev Go Go.Lib
theorem known_ok (k : Nat) : tarifflaw12_known (k + 60) = some true := by kernel_rfl
end Go.EvT
end
section
set_option maxRecDepth 100000
namespace Go.EvT
open Go.Ev Go Go.Lib
def cmpI (x y : Int) : Int := if x < y then -1 else if y < x then 1 else 0
theorem mul64_10 (e : Int) (he : u64 e) : bits_Mul64 e 10 = some (10 * e / 18446744073709551616, 10 * e % 18446744073709551616) := by
  obtain ⟨h0, h1⟩ := he
  unfold bits_Mul64
  have f1 : ∀ n : Int, Int.fdiv n (2 ^ min ((32 : Int)).toNat (IntKind.bits .u64)) = n / 4294967296 := fun n => by rw [p32, Int.fdiv_eq_ediv_of_nonneg _ (by decide)]
  have a10 : ((BitVec.ofInt (IntKind.bits .u64) (10 : Int) &&& BitVec.ofInt (IntKind.bits .u64) (4294967295 : Int)).toNat : Int) = 10 := by rw [and32 (by decide) (by decide)]; decide
  simp only [f1, a10, if_pos (show (0 : Int) ≤ 32 by decide), and32 h0 h1]
  have d10 : (10 : Int) / 4294967296 = 0 := by decide
  have w10 : IntKind.u64.wrap 10 = 10 := by decide
  simp only [d10, w10, Int.mul_zero]
  have w0 : IntKind.u64.wrap 0 = 0 := by decide
  have wm : IntKind.u64.wrap (e % 4294967296) = e % 4294967296 := wrapId (by omega) (by omega)
  simp only [w0, wm]
  have w1 : IntKind.u64.wrap (e / 4294967296 * 10) = e / 4294967296 * 10 := wrapId (by omega) (by omega)
  have w2 : IntKind.u64.wrap (e % 4294967296 * 10) = e % 4294967296 * 10 := wrapId (by omega) (by omega)
  simp only [w1, w2]
  obtain ⟨t, ht⟩ : ∃ t, t = e / 4294967296 * 10 + e % 4294967296 * 10 / 4294967296 := ⟨_, rfl⟩
  have w3 : IntKind.u64.wrap (e / 4294967296 * 10 + e % 4294967296 * 10 / 4294967296) = t := by rw [← ht]; exact wrapId (by omega) (by omega)
  simp only [w3, and32 (show 0 ≤ t by omega) (show t < 18446744073709551616 by omega), Int.add_zero, Int.zero_add]
  have w4 : IntKind.u64.wrap (t % 4294967296) = t % 4294967296 := wrapId (by omega) (by omega)
  simp only [w4]
  have w5 : t % 4294967296 / 4294967296 = 0 := by omega
  have w6 : IntKind.u64.wrap (t / 4294967296) = t / 4294967296 := wrapId (by omega) (by omega)
  simp only [w4, w5, w6, Int.add_zero]
  have w7 : IntKind.u64.wrap (e * 10) = 10 * e % 18446744073709551616 := by rw [IntKind.wrap_u64]; omega
  rw [w7]
  have w8 : t / 4294967296 = 10 * e / 18446744073709551616 := by omega
  rw [w8]
theorem times_step (K : Nat) (v13 v14 : Int) (b4 : List Int) (n i : Nat) (v6 e : Int) (l : List Int) (hi : i < 4) (h0 : 0 ≤ v6) (h1 : v6 ≤ 9) (he : u64 e) (hx : l[i]? = some e) :
    dec_times.l6 K v13 v14 b4 (n + 1) v6 (i : Int) l = dec_times.l6 K v13 v14 b4 n ((10 * e + v6) / 18446744073709551616) ((i + 1 : Nat) : Int) (l.set i ((10 * e + v6) % 18446744073709551616)) := by
  obtain ⟨e0, e1⟩ := he
  rw [show dec_times.l6 K v13 v14 b4 (n + 1) v6 (i : Int) l = _ from by unfold dec_times.l6; rfl]
  have c1 : decide ((i : Int) < (4 : Int)) = true := by simp; omega
  rw [c1, if_pos rfl, if_pos ⟨by omega, by omega⟩, idx_nat, hx]
  simp only [Option.bind_some]
  rw [mul64_10 e ⟨e0, e1⟩]
  simp only [Option.bind_some]
  unfold bits_Add64
  rw [if_pos (by decide)]
  simp only [Option.bind_some]
  rw [if_pos ⟨by omega, by omega⟩]
  have a1 : (10 * e % 18446744073709551616 + v6 + 0) % 18446744073709551616 = (10 * e + v6) % 18446744073709551616 := by omega
  have a2 : IntKind.u64.wrap (10 * e / 18446744073709551616 + (10 * e % 18446744073709551616 + v6 + 0) / 18446744073709551616) = (10 * e + v6) / 18446744073709551616 := by
    rw [show 10 * e / 18446744073709551616 + (10 * e % 18446744073709551616 + v6 + 0) / 18446744073709551616 = (10 * e + v6) / 18446744073709551616 by omega]
    exact wrapId (by omega) (by omega)
  rw [a1, a2, i64_small (by omega) (by omega), show (i : Int) + 1 = ((i + 1 : Nat) : Int) by omega]
  rfl
def val4 (a b c d : Int) : Int := a + 18446744073709551616 * (b + 18446744073709551616 * (c + 18446744073709551616 * d))
def M256 : Int := 115792089237316195423570985008687907853269984665640564039457584007913129639936
theorem times_round (K : Nat) (v13 v14 : Int) (b4 : List Int) (n : Nat) (a b c d : Int) (ha : u64 a) (hb : u64 b) (hc : u64 c) (hd : u64 d) (hv : 10 * val4 a b c d < M256) :
    ∃ a' b' c' d', dec_times.l6 K v13 v14 b4 (n + 5) 0 0 [a, b, c, d] = some (v13, v14, b4, [a', b', c', d']) ∧ u64 a' ∧ u64 b' ∧ u64 c' ∧ u64 d' ∧ val4 a' b' c' d' = 10 * val4 a b c d := by
  obtain ⟨c1, h1⟩ : ∃ c1, c1 = (10 * a + 0) / 18446744073709551616 := ⟨_, rfl⟩
  obtain ⟨r0, g0⟩ : ∃ r0, r0 = (10 * a + 0) % 18446744073709551616 := ⟨_, rfl⟩
  obtain ⟨c2, h2⟩ : ∃ c2, c2 = (10 * b + c1) / 18446744073709551616 := ⟨_, rfl⟩
  obtain ⟨r1, g1⟩ : ∃ r1, r1 = (10 * b + c1) % 18446744073709551616 := ⟨_, rfl⟩
  obtain ⟨c3, h3⟩ : ∃ c3, c3 = (10 * c + c2) / 18446744073709551616 := ⟨_, rfl⟩
  obtain ⟨r2, g2⟩ : ∃ r2, r2 = (10 * c + c2) % 18446744073709551616 := ⟨_, rfl⟩
  obtain ⟨c4, h4⟩ : ∃ c4, c4 = (10 * d + c3) / 18446744073709551616 := ⟨_, rfl⟩
  obtain ⟨r3, g3⟩ : ∃ r3, r3 = (10 * d + c3) % 18446744073709551616 := ⟨_, rfl⟩
  unfold u64 at *
  have k1 : 0 ≤ c1 ∧ c1 ≤ 9 := by omega
  have k2 : 0 ≤ c2 ∧ c2 ≤ 9 := by omega
  have k3 : 0 ≤ c3 ∧ c3 ≤ 9 := by omega
  have k4 : 0 ≤ c4 ∧ c4 ≤ 9 := by omega
  have e0 : 0 ≤ r0 ∧ r0 < 18446744073709551616 := by omega
  have e1 : 0 ≤ r1 ∧ r1 < 18446744073709551616 := by omega
  have e2 : 0 ≤ r2 ∧ r2 < 18446744073709551616 := by omega
  have e3 : 0 ≤ r3 ∧ r3 < 18446744073709551616 := by omega
  have q0 : r0 + 18446744073709551616 * c1 = 10 * a := by omega
  have q1 : r1 + 18446744073709551616 * c2 = 10 * b + c1 := by omega
  have q2 : r2 + 18446744073709551616 * c3 = 10 * c + c2 := by omega
  have q3 : r3 + 18446744073709551616 * c4 = 10 * d + c3 := by omega
  refine ⟨r0, r1, r2, r3, ?_, e0, e1, e2, e3, ?_⟩
  · have s1 := times_step K v13 v14 b4 (n + 4) 0 0 a [a, b, c, d] (by decide) (by decide) (by decide) ha rfl
    have s2 := times_step K v13 v14 b4 (n + 3) 1 c1 b [r0, b, c, d] (by decide) k1.1 k1.2 hb rfl
    have s3 := times_step K v13 v14 b4 (n + 2) 2 c2 c [r0, r1, c, d] (by decide) k2.1 k2.2 hc rfl
    have s4 := times_step K v13 v14 b4 (n + 1) 3 c3 d [r0, r1, r2, d] (by decide) k3.1 k3.2 hd rfl
    rw [← h1, ← g0] at s1
    rw [← h2, ← g1] at s2
    rw [← h3, ← g2] at s3
    rw [← h4, ← g3] at s4
    have s1' : dec_times.l6 K v13 v14 b4 (n + 5) 0 0 [a, b, c, d] = dec_times.l6 K v13 v14 b4 (n + 4) c1 ((0 + 1 : Nat) : Int) [r0, b, c, d] := s1
    have s2' : dec_times.l6 K v13 v14 b4 (n + 4) c1 ((0 + 1 : Nat) : Int) [r0, b, c, d] = dec_times.l6 K v13 v14 b4 (n + 3) c2 ((1 + 1 : Nat) : Int) [r0, r1, c, d] := s2
    have s3' : dec_times.l6 K v13 v14 b4 (n + 3) c2 ((1 + 1 : Nat) : Int) [r0, r1, c, d] = dec_times.l6 K v13 v14 b4 (n + 2) c3 ((2 + 1 : Nat) : Int) [r0, r1, r2, d] := s3
    have s4' : dec_times.l6 K v13 v14 b4 (n + 2) c3 ((2 + 1 : Nat) : Int) [r0, r1, r2, d] = dec_times.l6 K v13 v14 b4 (n + 1) c4 ((3 + 1 : Nat) : Int) [r0, r1, r2, r3] := s4
    rw [s1', s2', s3', s4']
    unfold dec_times.l6
    rfl
  · unfold val4 M256 at *
    have : c4 = 0 := by omega
    omega
theorem times_loop (K : Nat) (hK : 10 ≤ K) (N : Nat) (hN : N ≤ 100) : ∀ (m n j : Nat) (b4 : List Int) (a b c d : Int), m = N - j → m < n → j ≤ N → u64 a → u64 b → u64 c → u64 d → val4 a b c d * 10 ^ m < M256 →
    ∃ a' b' c' d', dec_times.l3 K n (N : Int) (j : Int) b4 [a, b, c, d] = some (b4, [a', b', c', d']) ∧ u64 a' ∧ u64 b' ∧ u64 c' ∧ u64 d' ∧ val4 a' b' c' d' = val4 a b c d * 10 ^ m
  | _, 0, _, _, _, _, _, _, _, h, _, _, _, _, _, _ => by omega
  | 0, n + 1, j, b4, a, b, c, d, hm, _, hj, ha, hb, hc, hd, hv => by
    have : j = N := by omega
    subst this
    refine ⟨a, b, c, d, ?_, ha, hb, hc, hd, by rw [Int.pow_zero, Int.mul_one]⟩
    unfold dec_times.l3
    simp
  | m + 1, n + 1, j, b4, a, b, c, d, hm, hmn, hj, ha, hb, hc, hd, hv => by
    obtain ⟨k, rfl⟩ : ∃ k, K = k + 5 := ⟨K - 5, by omega⟩
    have hp : (1 : Int) ≤ 10 ^ m := Int.pow_pos (by decide)
    have hv0 : 0 ≤ val4 a b c d := by unfold val4 u64 at *; omega
    have hv1 : 10 * val4 a b c d * 10 ^ m < M256 := by
      rw [Int.pow_succ, Int.mul_comm (10 ^ m) 10, ← Int.mul_assoc, Int.mul_comm _ 10] at hv
      exact hv
    have hv2 : 10 * val4 a b c d < M256 := by
      have : 10 * val4 a b c d * 1 ≤ 10 * val4 a b c d * 10 ^ m := Int.mul_le_mul_of_nonneg_left hp (by omega)
      omega
    obtain ⟨a', b', c', d', r1, ha', hb', hc', hd', r2⟩ := times_round (k + 5) (N : Int) (j : Int) b4 k a b c d ha hb hc hd hv2
    unfold dec_times.l3
    have e1 : decide ((j : Int) < (N : Int)) = true := by simp; omega
    rw [e1, if_pos rfl, r1]
    simp only [Option.bind_some]
    rw [i64_small (by omega) (by omega), show (j : Int) + 1 = ((j + 1 : Nat) : Int) by omega]
    obtain ⟨a2, b2, c2, d2, q1, ha2, hb2, hc2, hd2, q2⟩ := times_loop (k + 5) hK N hN m n (j + 1) b4 a' b' c' d' (by omega) (by omega) (by omega) ha' hb' hc' hd' (by rw [r2]; exact hv1)
    refine ⟨a2, b2, c2, d2, q1, ha2, hb2, hc2, hd2, ?_⟩
    rw [q2, r2, Int.pow_succ, Int.mul_comm (10 ^ m) 10, ← Int.mul_assoc, Int.mul_comm (val4 a b c d) 10]
theorem times_eq (K : Nat) (hK : 110 ≤ K) (w : Wide) (hw : w.Ok) (hv : w.val < 10000000000000000000000000000000000) (N : Nat) (hN : N ≤ 18) :
    ∃ a b c d, dec_times K w (N : Int) = some [a, b, c, d] ∧ u64 a ∧ u64 b ∧ u64 c ∧ u64 d ∧ val4 a b c d = w.val * 10 ^ N := by
  have e0 : val4 w.lo w.hi 0 0 = w.val := by unfold val4 Wide.val; omega
  have hv0 : 0 ≤ w.val := by obtain ⟨⟨_, _⟩, _, _⟩ := hw; unfold Wide.val; omega
  have hb : w.val * 10 ^ N < M256 := by
    have h1 : (10 : Int) ^ N ≤ 10 ^ 18 := pow10_mono N 18 hN
    have h2 : w.val * 10 ^ N ≤ w.val * 10 ^ 18 := Int.mul_le_mul_of_nonneg_left h1 hv0
    have h3 : (10 : Int) ^ 18 = 1000000000000000000 := by decide
    rw [h3] at h2
    unfold M256
    omega
  obtain ⟨a, b, c, d, h1, ha, hb', hc, hd, h2⟩ := times_loop K (by omega) N (by omega) N K 0 (List.replicate 4 (0 : Int)) w.lo w.hi 0 0 rfl (by omega) (Nat.zero_le _) hw.2 hw.1 ⟨by decide, by decide⟩ ⟨by decide, by decide⟩ (by rw [e0]; exact hb)
  refine ⟨a, b, c, d, ?_, ha, hb', hc, hd, by rw [h2, e0]⟩
  unfold dec_times dec_long
  simp only [Option.bind_some]
  have h1' : dec_times.l3 K K (N : Int) (0 : Int) (List.replicate 4 (0 : Int)) [w.lo, w.hi, 0, 0] = _ := h1
  rw [h1']
  rfl
theorem order_step (K : Nat) (x y : List Int) (n i : Nat) (a b : Int) (hi : i < 4) (hx : x[i]? = some a) (hy : y[i]? = some b) :
    dec_order.l2 K x y (n + 1) (i : Int) = if a < b then some (.ret (-1)) else if b < a then some (.ret 1) else dec_order.l2 K x y n ((i : Int) - 1) := by
  rw [show dec_order.l2 K x y (n + 1) (i : Int) = _ from by unfold dec_order.l2; rfl]
  have e1 : decide ((i : Int) ≥ (0 : Int)) = true := by simp
  have hc : 0 ≤ (i : Int) ∧ (i : Int) < 4 := ⟨by omega, by omega⟩
  rw [e1, if_pos rfl]
  simp only [if_pos hc, idx_nat, hx, hy, Option.bind_some]
  by_cases h1 : a < b
  · have : decide (a < b) = true := by simpa using h1
    rw [this, if_pos rfl, if_pos h1]
  · have : decide (a < b) = false := by simpa using h1
    rw [this, if_neg h1]
    simp only [Bool.false_eq_true, if_false]
    by_cases h2 : b < a
    · have : decide (a > b) = true := by simpa using h2
      rw [this, if_pos rfl, if_pos h2]
    · have : decide (a > b) = false := by simp; omega
      rw [this, if_neg h2]
      simp only [Bool.false_eq_true, if_false]
      rw [i64_small (by omega) (by omega)]
theorem order_eq (K : Nat) (hK : 10 ≤ K) (a b c d p q r s : Int) (ha : u64 a) (hb : u64 b) (hc : u64 c) (hd : u64 d) (hp : u64 p) (hq : u64 q) (hr : u64 r) (hs : u64 s) :
    dec_order K [a, b, c, d] [p, q, r, s] = some (cmpI (val4 a b c d) (val4 p q r s)) := by
  obtain ⟨k, rfl⟩ : ∃ k, K = k + 5 := ⟨K - 5, by omega⟩
  unfold dec_order
  have s3 := order_step (k + 5) [a, b, c, d] [p, q, r, s] (k + 4) 3 d s (by decide) rfl rfl
  have s2 := order_step (k + 5) [a, b, c, d] [p, q, r, s] (k + 3) 2 c r (by decide) rfl rfl
  have s1 := order_step (k + 5) [a, b, c, d] [p, q, r, s] (k + 2) 1 b q (by decide) rfl rfl
  have s0 := order_step (k + 5) [a, b, c, d] [p, q, r, s] (k + 1) 0 a p (by decide) rfl rfl
  have s9 : dec_order.l2 (k + 5) [a, b, c, d] [p, q, r, s] (k + 1) (((0 : Nat) : Int) - 1) = some (.go ()) := by unfold dec_order.l2; rfl
  rw [s9] at s0
  have s1' : dec_order.l2 (k + 5) [a, b, c, d] [p, q, r, s] (k + 3) ((2 : Nat) - 1 : Int) = _ := s1
  have s2' : dec_order.l2 (k + 5) [a, b, c, d] [p, q, r, s] (k + 4) ((3 : Nat) - 1 : Int) = _ := s2
  have s0' : dec_order.l2 (k + 5) [a, b, c, d] [p, q, r, s] (k + 2) ((1 : Nat) - 1 : Int) = _ := s0
  rw [s0'] at s1'
  rw [s1'] at s2'
  rw [s2'] at s3
  have s3' : dec_order.l2 (k + 5) [a, b, c, d] [p, q, r, s] (k + 5) (3 : Int) = _ := s3
  rw [s3']
  unfold cmpI val4 u64 at *
  by_cases h3 : d < s
  · rw [if_pos h3, if_pos (by omega)]; rfl
  · by_cases h3' : s < d
    · rw [if_neg h3, if_pos h3', if_neg (by omega), if_pos (by omega)]; rfl
    · have e3 : d = s := by omega
      subst e3
      by_cases h2 : c < r
      · rw [if_neg h3, if_neg h3', if_pos h2, if_pos (by omega)]; rfl
      · by_cases h2' : r < c
        · rw [if_neg h3, if_neg h3', if_neg h2, if_pos h2', if_neg (by omega), if_pos (by omega)]; rfl
        · have e2 : c = r := by omega
          subst e2
          by_cases h1 : b < q
          · rw [if_neg h3, if_neg h3', if_neg h2, if_neg h2', if_pos h1, if_pos (by omega)]; rfl
          · by_cases h1' : q < b
            · rw [if_neg h3, if_neg h3', if_neg h2, if_neg h2', if_neg h1, if_pos h1', if_neg (by omega), if_pos (by omega)]; rfl
            · have e1 : b = q := by omega
              subst e1
              by_cases h0 : a < p
              · rw [if_neg h3, if_neg h3', if_neg h2, if_neg h2', if_neg h1, if_neg h1', if_pos h0, if_pos (by omega)]; rfl
              · by_cases h0' : p < a
                · rw [if_neg h3, if_neg h3', if_neg h2, if_neg h2', if_neg h1, if_neg h1', if_neg h0, if_pos h0', if_neg (by omega), if_pos (by omega)]; rfl
                · rw [if_neg h3, if_neg h3', if_neg h2, if_neg h2', if_neg h1, if_neg h1', if_neg h0, if_neg h0', if_neg (by omega), if_neg (by omega)]; rfl
end Go.EvT
end
section
set_option maxRecDepth 100000
namespace Go.EvT
open Go.Ev Go Go.Lib
theorem dval_app : ∀ (a b : List Int), dval (a ++ b) = dval a + 10 ^ a.length * dval b
  | [], b => by simp [dval]
  | x :: a, b => by
    simp only [List.cons_append, dval, List.length_cons, dval_app a b, Int.pow_succ]
    rw [Int.mul_add, ← Int.mul_assoc, Int.mul_comm (10 ^ a.length) 10]
    omega
theorem AllD.app {a b : List Int} (ha : AllD a) (hb : AllD b) : AllD (a ++ b) := fun x hx => by
  rcases List.mem_append.1 hx with h | h
  · exact ha x h
  · exact hb x h
theorem AllD.takeD {a : List Int} (ha : AllD a) (n : Nat) : AllD (a.take n) := fun x hx => ha x (List.mem_of_mem_take hx)
theorem AllD.dropD {a : List Int} (ha : AllD a) (n : Nat) : AllD (a.drop n) := fun x hx => ha x (List.mem_of_mem_drop hx)
theorem p10 (n : Nat) : (1 : Int) ≤ 10 ^ n := Int.pow_pos (by decide)
theorem take_succ_of {l : List Int} {i : Nat} {x : Int} (h : l[i]? = some x) : l.take (i + 1) = l.take i ++ [x] := by
  rw [List.take_add_one, h]
  rfl
theorem zeros_val : ∀ n : Nat, dval (List.replicate n 0) = 0
  | 0 => rfl
  | n + 1 => by simp only [List.replicate_succ, dval, zeros_val n]; omega
theorem zeros_nz {l : List Int} (h : 0 < dval l) (hz : Nz l) : ∀ n : Nat, Nz (List.replicate n 0 ++ l)
  | 0 => hz
  | n + 1 => by
    have ih := zeros_nz h hz n
    have hv : 0 < dval (List.replicate n 0 ++ l) := by
      rw [dval_app, zeros_val, Int.zero_add]
      exact Int.mul_pos (by have := p10 (List.replicate n (0 : Int)).length; omega) h
    refine ⟨?_, ih⟩
    show 0 < dval (0 :: (List.replicate n 0 ++ l))
    simp only [dval]
    omega
def dz (d : Dec) : Int := d.coef.val * 10 ^ (18 - d.scale).toNat
theorem units_eq (k : Nat) (hk : 1000 ≤ k) (d : Dec) (hd : d.coef.Ok) (hf : d.form = true) : ∃ l, tariffref02_Units k d = some (d.neg, l) ∧ AllD l ∧ Nz l ∧ dval l = dz d ∧ l.length ≤ 100 := by
  obtain ⟨l, h1, h2, h3, h4⟩ := of_eq k hk d.coef hd
  unfold Dec.form at hf
  simp only [Bool.and_eq_true, decide_eq_true_eq] at hf
  obtain ⟨⟨⟨f1, f2⟩, f3⟩, f4⟩ := hf
  have hlen : l.length ≤ 34 := by
    rcases Nat.lt_or_ge 34 l.length with h | h
    · have := dval_ge h2 h3 34 h
      rw [show ((10 : Int) ^ 34) = 10000000000000000000000000000000000 by decide] at this
      omega
    · exact h
  obtain ⟨n, hn⟩ : ∃ n : Nat, 18 - d.scale = (n : Int) := ⟨(18 - d.scale).toNat, by omega⟩
  have hn18 : n ≤ 18 := by omega
  have ew : IntKind.i64.wrap (18 - d.scale) = (n : Int) := by rw [i64_small (by omega) (by omega), hn]
  have etn : (18 - d.scale).toNat = n := by omega
  unfold tariffref02_Units
  rw [h1]
  simp only [Option.bind_some]
  unfold tariffref01_Shift dz
  rw [ew, etn, ← h4]
  cases l with
  | nil =>
    exact ⟨[], rfl, fun x h => (by cases h), trivial, (by simp [dval]), (by simp)⟩
  | cons x r =>
    have e0 : (((x :: r).length : Int) == (0 : Int)) = false := by
      rw [beq_eq_false_iff_ne]
      simp only [List.length_cons]
      omega
    rw [e0]
    simp only [Bool.false_eq_true, if_false, show ((n : Int)).toNat = n from rfl]
    rw [if_pos ⟨by omega, by omega, (room_iff _).2 (by omega)⟩, if_pos ((room_iff _).2 (by rw [List.length_replicate]; omega))]
    refine ⟨_, rfl, AllD.app (fun y hy => by rw [List.eq_of_mem_replicate hy]; decide) h2, zeros_nz h3.1 h3 n, ?_, by rw [List.length_append, List.length_replicate]; omega⟩
    rw [dval_app, zeros_val, List.length_replicate, Int.zero_add, Int.mul_comm]
theorem cut_loop (k : Nat) (l : List Int) (hl : l.length ≤ 1000) (ha : AllD l) : ∀ (i n : Nat), i < n → i ≤ l.length → dval (l.take i) = dval l →
    ∃ j : Nat, tariffref01_Cut.l2 k l n (i : Int) = some (l, (j : Int)) ∧ j ≤ l.length ∧ dval (l.take j) = dval l ∧ (j = 0 → dval l = 0) ∧ (0 < j → 0 < dval l)
  | i, 0, h, _, _ => by omega
  | 0, n + 1, _, hi, hv => by
    refine ⟨0, ?_, Nat.zero_le _, hv, fun _ => by rw [← hv]; rfl, fun h => absurd h (by omega)⟩
    unfold tariffref01_Cut.l2
    rfl
  | i + 1, n + 1, hn, hi, hv => by
    obtain ⟨x, hx⟩ : ∃ x, l[i]? = some x := ⟨_, List.getElem?_eq_getElem (by omega)⟩
    have hxa := ha x (List.mem_of_getElem? hx)
    have ht := take_succ_of hx
    have hvt : dval (l.take (i + 1)) = dval (l.take i) + 10 ^ i * x := by
      rw [ht, dval_app, List.length_take, Nat.min_eq_left (by omega)]
      simp only [dval, Int.mul_zero, Int.add_zero]
    unfold tariffref01_Cut.l2
    have e1 : decide ((((i + 1 : Nat) : Int)) > (0 : Int)) = true := decide_eq_true (by omega)
    have ew : IntKind.i64.wrap (((i + 1 : Nat) : Int) - 1) = (i : Int) := by rw [i64_small (by omega) (by omega)]; omega
    rw [e1, if_pos rfl, ew, idx_nat, hx]
    simp only [Option.bind_some]
    by_cases h0 : x = 0
    · have e2 : (x == 0) = true := by simpa using h0
      rw [e2, if_pos rfl]
      exact cut_loop k l hl ha i n (by omega) (by omega) (by rw [← hv, hvt, h0, Int.mul_zero, Int.add_zero])
    · have e2 : (x == 0) = false := by simpa using h0
      rw [e2]
      refine ⟨i + 1, rfl, hi, hv, fun h => by omega, fun _ => ?_⟩
      rw [← hv, hvt]
      have h1 := dval_nn (ha.takeD i)
      have h2 : 10 ^ i * 1 ≤ 10 ^ i * x := Int.mul_le_mul_of_nonneg_left (by omega) (by have := p10 i; omega)
      have := p10 i
      omega
theorem cut_eq (k : Nat) (hk : 1100 ≤ k) (l : List Int) (hl : l.length ≤ 1000) (ha : AllD l) : ∃ u, tariffref01_Cut k l = some u ∧ ((u.length : Int) == 0) = (dval l == 0) ∧ 0 ≤ dval l := by
  obtain ⟨j, h1, h2, h3, h4, h5⟩ := cut_loop k l hl ha l.length k (by omega) (Nat.le_refl _) (by rw [List.take_length])
  unfold tariffref01_Cut
  rw [h1]
  simp only [Option.bind_some]
  rw [if_pos ⟨by omega, by omega, by omega⟩]
  refine ⟨_, rfl, ?_, dval_nn ha⟩
  rw [show ((j : Int)).toNat = j from rfl, List.length_take, Nat.min_eq_left h2, Bool.eq_iff_iff]
  simp only [beq_iff_eq]
  constructor
  · intro h
    exact h4 (by omega)
  · intro h
    rcases Nat.eq_zero_or_pos j with hj | hj
    · omega
    · have := h5 hj
      omega
theorem plus_loop (k : Nat) (a b : List Int) (ha : AllD a) (hb : AllD b) (M : Nat) (hM1 : a.length ≤ M) (hM2 : b.length ≤ M) (hM : M ≤ 900) : ∀ (n i : Nat) (c : Int) (w : List Int), M + 2 ≤ n + i → i ≤ M + 1 → (i = M + 1 → c = 0) → 0 ≤ c → c ≤ 1 → w.length = i → AllD w →
    ∃ u, tariffref01_Plus.l4 k n a b w c (i : Int) = some u ∧ AllD u ∧ u.length ≤ 1000 ∧ dval u = dval w + 10 ^ i * (c + dval (a.drop i) + dval (b.drop i))
  | 0, i, c, w, h, hi, _, _, _, _, _ => by omega
  | n + 1, i, c, w, hn, hi, hic, c0, c1, hw, hwa => by
    have da : ∀ (l : List Int), l.length ≤ i → dval (l.drop i) = 0 := fun l h => by rw [List.drop_eq_nil_of_le h]; rfl
    unfold tariffref01_Plus.l4
    by_cases hgo : (i < a.length ∨ i < b.length) ∨ 0 < c
    · have hb2 : ((if (decide ((i : Int) < (a.length : Int))) = false then some (decide ((i : Int) < (b.length : Int))) else some true) : Option Bool) = some (decide (i < a.length ∨ i < b.length)) := by
        by_cases h1 : i < a.length
        · have e1 : decide ((i : Int) < (a.length : Int)) = true := by simpa using h1
          rw [e1]; simp [h1]
        · have e1 : decide ((i : Int) < (a.length : Int)) = false := by simpa using h1
          rw [e1]; simp [h1]
      rw [hb2]
      simp only [Option.bind_some]
      have hb3 : ((if decide (i < a.length ∨ i < b.length) = false then some (decide (c > (0 : Int))) else some true) : Option Bool) = some true := by
        by_cases h1 : i < a.length ∨ i < b.length
        · simp [h1]
        · have : 0 < c := by
            rcases hgo with h | h
            · exact absurd h h1
            · exact h
          simp [h1, this]
      rw [hb3]
      simp only [Option.bind_some, if_true]
      obtain ⟨x, hx, hx0, hx9, hxd⟩ : ∃ x, ((if (decide ((i : Int) < (a.length : Int))) = true then (idx a (i : Int)).bind fun e3 => some (a, b, w, (i : Int), (IntKind.wrap .i64 (c + e3))) else some (a, b, w, (i : Int), c)) : Option ((List Int) × (List Int) × (List Int) × Int × Int)) = some (a, b, w, (i : Int), c + x) ∧ 0 ≤ x ∧ x ≤ 9 ∧ dval (a.drop i) = x + 10 * dval (a.drop (i + 1)) := by
        by_cases h1 : i < a.length
        · obtain ⟨x, hx⟩ : ∃ x, a[i]? = some x := ⟨_, List.getElem?_eq_getElem h1⟩
          have hxa := ha x (List.mem_of_getElem? hx)
          have e1 : decide ((i : Int) < (a.length : Int)) = true := by simpa using h1
          refine ⟨x, ?_, hxa.1, hxa.2, by rw [drop_cons hx]; rfl⟩
          rw [e1, if_pos rfl, idx_nat, hx]
          simp only [Option.bind_some]
          rw [i64_small (by omega) (by omega)]
        · have e1 : decide ((i : Int) < (a.length : Int)) = false := by simpa using h1
          refine ⟨0, ?_, by decide, by decide, ?_⟩
          · rw [e1, Int.add_zero]; rfl
          · rw [da a (by omega), List.drop_eq_nil_of_le (by omega)]; rfl
      rw [hx]
      simp only [Option.bind_some]
      obtain ⟨y, hy, hy0, hy9, hyd⟩ : ∃ y, ((if (decide ((i : Int) < (b.length : Int))) = true then (idx b (i : Int)).bind fun e5 => some (a, b, w, (i : Int), (IntKind.wrap .i64 (c + x + e5))) else some (a, b, w, (i : Int), c + x)) : Option ((List Int) × (List Int) × (List Int) × Int × Int)) = some (a, b, w, (i : Int), c + x + y) ∧ 0 ≤ y ∧ y ≤ 9 ∧ dval (b.drop i) = y + 10 * dval (b.drop (i + 1)) := by
        by_cases h1 : i < b.length
        · obtain ⟨y, hy⟩ : ∃ y, b[i]? = some y := ⟨_, List.getElem?_eq_getElem h1⟩
          have hya := hb y (List.mem_of_getElem? hy)
          have e1 : decide ((i : Int) < (b.length : Int)) = true := by simpa using h1
          refine ⟨y, ?_, hya.1, hya.2, by rw [drop_cons hy]; rfl⟩
          rw [e1, if_pos rfl, idx_nat, hy]
          simp only [Option.bind_some]
          rw [i64_small (by omega) (by omega)]
        · have e1 : decide ((i : Int) < (b.length : Int)) = false := by simpa using h1
          refine ⟨0, ?_, by decide, by decide, ?_⟩
          · rw [e1, Int.add_zero]; rfl
          · rw [da b (by omega), List.drop_eq_nil_of_le (by omega)]; rfl
      rw [hy]
      simp only [Option.bind_some]
      have t1 : Int.tmod (c + x + y) 10 = (c + x + y) % 10 := Int.tmod_eq_emod_of_nonneg (by omega)
      have t2 : Int.tdiv (c + x + y) 10 = (c + x + y) / 10 := Int.tdiv_eq_ediv_of_nonneg (by omega)
      have t3 : IntKind.i64.wrap ((c + x + y) / 10) = (c + x + y) / 10 := i64_small (by omega) (by omega)
      rw [if_pos (by decide), t1, t2, t3, if_pos ((room_iff _).2 (by simp only [List.length_cons, List.length_nil]; omega)), if_pos (by decide), i64_small (by omega) (by omega), show (i : Int) + 1 = ((i + 1 : Nat) : Int) by omega]
      have hiM : i ≤ M := by
        rcases Nat.lt_or_ge M i with h | h
        · have := hic (by omega)
          omega
        · exact h
      obtain ⟨u, g1, g2, g3, g4⟩ := plus_loop k a b ha hb M hM1 hM2 hM n (i + 1) ((c + x + y) / 10) (w ++ [(c + x + y) % 10]) (by omega) (by omega) (fun h => by
        have hA : a.length ≤ i := by omega
        have hB : b.length ≤ i := by omega
        have hx0' : x + 10 * dval (a.drop (i + 1)) = 0 := by rw [← hxd]; exact da a hA
        have hy0' : y + 10 * dval (b.drop (i + 1)) = 0 := by rw [← hyd]; exact da b hB
        have := dval_nn (ha.dropD (i + 1))
        have := dval_nn (hb.dropD (i + 1))
        omega) (by omega) (by omega) (by simp [hw]) (hwa.app fun z hz => by
        have := List.mem_singleton.1 hz
        subst this
        omega)
      refine ⟨u, g1, g2, g3, ?_⟩
      rw [g4, dval_app, hw, hxd, hyd, Int.pow_succ]
      simp only [dval, Int.mul_zero, Int.add_zero]
      rw [Int.mul_assoc, Int.add_assoc, ← Int.mul_add]
      refine congrArg (fun z => dval w + 10 ^ i * z) ?_
      omega
    · have h1 : ¬ i < a.length := fun h => hgo (.inl (.inl h))
      have h2 : ¬ i < b.length := fun h => hgo (.inl (.inr h))
      have h3 : c = 0 := by
        have : ¬ 0 < c := fun h => hgo (.inr h)
        omega
      have e1 : decide ((i : Int) < (a.length : Int)) = false := by simpa using h1
      have e2 : decide ((i : Int) < (b.length : Int)) = false := by simpa using h2
      rw [e1, e2, h3]
      refine ⟨w, rfl, hwa, by omega, ?_⟩
      rw [da a (by omega), da b (by omega)]
      simp
theorem plus_eq (k : Nat) (hk : 1100 ≤ k) (a b : List Int) (ha : AllD a) (hb : AllD b) (hla : a.length ≤ 100) (hlb : b.length ≤ 100) : ∃ u, tariffref01_Plus k a b = some u ∧ ((u.length : Int) == 0) = (dval a + dval b == 0) := by
  obtain ⟨u, g1, g2, g3, g4⟩ := plus_loop k a b ha hb 100 hla hlb (by omega) k 0 0 [] (by omega) (by omega) (fun h => rfl) (by omega) (by omega) rfl (fun x h => by cases h)
  obtain ⟨v, h1, h2, _⟩ := cut_eq k hk u g3 g2
  refine ⟨v, ?_, ?_⟩
  · unfold tariffref01_Plus
    have g1' : tariffref01_Plus.l4 k k a b [] (0 : Int) (0 : Int) = some u := g1
    rw [g1']
    simp only [Option.bind_some]
    rw [h1]
    rfl
  · rw [h2, g4]
    simp [dval]
end Go.EvT
end
section
set_option maxRecDepth 100000
namespace Go.EvT
open Go.Ev Go Go.Lib
theorem split_val {l : List Int} {i : Nat} {x : Int} (h : l[i]? = some x) : dval l = dval (l.take i) + 10 ^ i * (x + 10 * dval (l.drop (i + 1))) := by
  have hlt := getElem?_lt h
  have h1 : dval (l.take i ++ l.drop i) = dval l := by rw [List.take_append_drop]
  rw [← h1, dval_app, drop_cons h, List.length_take, Nat.min_eq_left (by omega)]
  rfl
theorem lcmp_loop (k : Nat) (a b : List Int) (ha : AllD a) (hb : AllD b) (hl : a.length = b.length) (hs : a.length ≤ 1000) : ∀ (i n : Nat), i < n → i ≤ a.length → a.drop i = b.drop i →
    tariffref01_Cmp.l6 k a b n ((i : Int) - 1) = some (if dval a = dval b then .go () else .ret (cmpI (dval a) (dval b)))
  | i, 0, h, _, _ => by omega
  | 0, n + 1, _, _, hd => by
    rw [List.drop_zero, List.drop_zero] at hd
    subst hd
    unfold tariffref01_Cmp.l6
    rw [if_pos rfl]
    rfl
  | i + 1, n + 1, hn, hi, hd => by
    obtain ⟨x, hx⟩ : ∃ x, a[i]? = some x := ⟨_, List.getElem?_eq_getElem (by omega)⟩
    obtain ⟨y, hy⟩ : ∃ y, b[i]? = some y := ⟨_, List.getElem?_eq_getElem (by omega)⟩
    have hxa := ha x (List.mem_of_getElem? hx)
    have hya := hb y (List.mem_of_getElem? hy)
    have va := split_val hx
    have vb := split_val hy
    rw [hd] at va
    have ta := dval_nn (ha.takeD i)
    have tb := dval_nn (hb.takeD i)
    have la := dval_lt (ha.takeD i)
    have lb := dval_lt (hb.takeD i)
    rw [List.length_take, Nat.min_eq_left (by omega)] at la lb
    have hp := p10 i
    rw [show (((i + 1 : Nat) : Int)) - 1 = (i : Int) by omega]
    unfold tariffref01_Cmp.l6
    have e1 : decide ((i : Int) ≥ (0 : Int)) = true := decide_eq_true (by omega)
    rw [e1, if_pos rfl]
    simp only [idx_nat, hx, hy, Option.bind_some]
    by_cases h1 : x < y
    · have e2 : decide (x < y) = true := by simpa using h1
      have hm : 10 ^ i * (x + 10 * dval (b.drop (i + 1)) + 1) ≤ 10 ^ i * (y + 10 * dval (b.drop (i + 1))) := Int.mul_le_mul_of_nonneg_left (by omega) (by omega)
      rw [Int.mul_add _ (x + 10 * dval (b.drop (i + 1))) 1, Int.mul_one] at hm
      have hlt : dval a < dval b := by omega
      rw [e2, if_pos rfl, if_neg (by omega)]
      unfold cmpI
      rw [if_pos hlt]
    · have e2 : decide (x < y) = false := by simpa using h1
      rw [e2]
      simp only [Bool.false_eq_true, if_false]
      by_cases h2 : y < x
      · have e3 : decide (x > y) = true := by simpa using h2
        have hm : 10 ^ i * (y + 10 * dval (b.drop (i + 1)) + 1) ≤ 10 ^ i * (x + 10 * dval (b.drop (i + 1))) := Int.mul_le_mul_of_nonneg_left (by omega) (by omega)
        rw [Int.mul_add _ (y + 10 * dval (b.drop (i + 1))) 1, Int.mul_one] at hm
        have hlt : dval b < dval a := by omega
        rw [e3, if_pos rfl, if_neg (by omega)]
        unfold cmpI
        rw [if_neg (by omega), if_pos hlt]
      · have e3 : decide (x > y) = false := by simp; omega
        rw [e3]
        simp only [Bool.false_eq_true, if_false]
        rw [i64_small (by omega) (by omega)]
        have hxy : x = y := by omega
        exact lcmp_loop k a b ha hb hl hs i n (by omega) (by omega) (by rw [drop_cons hx, drop_cons hy, hd, hxy])
theorem lcmp_eq (k : Nat) (hk : 1100 ≤ k) (a b : List Int) (ha : AllD a) (hb : AllD b) (za : Nz a) (zb : Nz b) (hla : a.length ≤ 100) (hlb : b.length ≤ 100) : tariffref01_Cmp k a b = some (cmpI (dval a) (dval b)) := by
  have key : ∀ {a b : List Int}, AllD a → AllD b → Nz b → a.length < b.length → dval a < dval b := fun {a b} ha hb zb h => by
    have h1 := dval_lt ha
    have h2 := dval_ge hb zb a.length h
    omega
  unfold tariffref01_Cmp
  by_cases hl : a.length = b.length
  · have e1 : ((a.length : Int) != (b.length : Int)) = false := by simp [hl]
    rw [e1]
    simp only [Bool.false_eq_true, if_false]
    rw [i64_small (by omega) (by omega), lcmp_loop k a b ha hb hl (by omega) a.length k (by omega) (Nat.le_refl _) (by rw [List.drop_eq_nil_of_le (Nat.le_refl _), List.drop_eq_nil_of_le (by omega)])]
    by_cases hv : dval a = dval b
    · rw [if_pos hv, hv]
      unfold cmpI
      rw [if_neg (by omega), if_neg (by omega)]
      rfl
    · rw [if_neg hv]
      rfl
  · have e1 : ((a.length : Int) != (b.length : Int)) = true := by simp; omega
    rw [e1, if_pos rfl]
    unfold cmpI
    rcases Nat.lt_or_ge a.length b.length with h | h
    · have e2 : decide ((a.length : Int) < (b.length : Int)) = true := decide_eq_true (by omega)
      rw [e2, if_pos rfl, if_pos (key ha hb zb h)]
    · have e2 : decide ((a.length : Int) < (b.length : Int)) = false := decide_eq_false (by omega)
      have := key hb ha za (by omega)
      rw [e2]
      simp only [Bool.false_eq_true, if_false]
      rw [if_neg (by omega), if_pos this]
theorem set_val {l : List Int} {i : Nat} {x y : Int} (h : l[i]? = some x) : dval (l.set i y) = dval l + 10 ^ i * (y - x) := by
  have hlt := getElem?_lt h
  have h2 : (l.set i y)[i]? = some y := by rw [List.getElem?_set]; simp [hlt]
  rw [split_val h2, split_val h, List.take_set_of_le (Nat.le_refl _), List.drop_set_of_lt (by omega)]
  rw [Int.mul_sub, Int.mul_add, Int.mul_add]
  omega
theorem minus_loop (k : Nat) (b : List Int) (hb : AllD b) (hs : b.length ≤ 100) : ∀ (m n i : Nat) (w : List Int), m = b.length - i → m < n → i ≤ b.length → b.length ≤ w.length → w.length ≤ 100 → (∀ (j : Nat) x, w[j]? = some x → (if j < i then -9 ≤ x ∧ x ≤ 9 else 0 ≤ x ∧ x ≤ 9)) →
    ∃ u, tariffref01_Less.l3 k b n w (i : Int) = some u ∧ u.length = w.length ∧ (∀ x ∈ u, -9 ≤ x ∧ x ≤ 9) ∧ dval u = dval w - 10 ^ i * dval (b.drop i)
  | _, 0, _, _, _, h, _, _, _, _ => by omega
  | 0, n + 1, i, w, hm, _, hi, hbw, hw, hx => by
    have : i = b.length := by omega
    subst this
    unfold tariffref01_Less.l3
    have e1 : decide ((b.length : Int) < (b.length : Int)) = false := by simp
    rw [e1]
    refine ⟨w, rfl, rfl, fun x hxm => ?_, by rw [List.drop_length]; simp [dval]⟩
    obtain ⟨j, hj⟩ := List.getElem?_of_mem hxm
    have := hx j x hj
    split at this <;> omega
  | m + 1, n + 1, i, w, hm, hmn, hi, hbw, hw, hx => by
    obtain ⟨y, hy⟩ : ∃ y, b[i]? = some y := ⟨_, List.getElem?_eq_getElem (by omega)⟩
    obtain ⟨x, hxi⟩ : ∃ x, w[i]? = some x := ⟨_, List.getElem?_eq_getElem (by omega)⟩
    have hya := hb y (List.mem_of_getElem? hy)
    have hxa := hx i x hxi
    rw [if_neg (Nat.lt_irrefl i)] at hxa
    unfold tariffref01_Less.l3
    have e1 : decide ((i : Int) < (b.length : Int)) = true := decide_eq_true (by omega)
    have hc : 0 ≤ (i : Int) ∧ (i : Int) < (w.length : Int) := ⟨by omega, by omega⟩
    rw [e1, if_pos rfl]
    simp only [if_pos hc, idx_nat, hxi, hy, Option.bind_some]
    rw [i64_small (by omega) (by omega), i64_small (by omega) (by omega), show (i : Int) + 1 = ((i + 1 : Nat) : Int) by omega, show ((i : Int)).toNat = i from rfl]
    obtain ⟨u, g1, g2, g3, g4⟩ := minus_loop k b hb hs m n (i + 1) (w.set i (x - y)) (by omega) (by omega) (by omega) (by simp; omega) (by simp; omega) (fun j z hz => by
      rw [List.getElem?_set] at hz
      split at hz
      · rename_i hij
        subst hij
        split at hz
        · have := Option.some.inj hz
          rw [if_pos (by omega)]
          omega
        · cases hz
      · rename_i hij
        have := hx j z hz
        split at this
        · rw [if_pos (by omega)]; omega
        · split <;> omega)
    refine ⟨u, g1, by rw [g2, List.length_set], g3, ?_⟩
    have hbd : dval (b.drop i) = y + 10 * dval (b.drop (i + 1)) := by rw [drop_cons hy]; rfl
    rw [g4, set_val hxi, hbd, Int.pow_succ, Int.mul_sub, Int.mul_add, Int.mul_sub, Int.mul_assoc]
    omega
theorem borrow_loop (k : Nat) (hk : 0 < k) : ∀ (m n i : Nat) (w : List Int), m = w.length - i → m < n → w.length ≤ 100 → i ≤ w.length → (∀ (j : Nat) x, w[j]? = some x → (j < i → 0 ≤ x) ∧ (i < j → -9 ≤ x) ∧ -10 ≤ x ∧ x ≤ 9) →
    ∃ u, tariffref01_Less.l7 k n w (i : Int) = some u ∧ u.length = w.length ∧ dval u = dval w ∧ (∀ (j : Nat) x, u[j]? = some x → (if j + 1 < u.length then 0 ≤ x ∧ x ≤ 9 else -10 ≤ x ∧ x ≤ 9))
  | _, 0, _, _, _, h, _, _, _ => by omega
  | m, n + 1, i, w, hm, hmn, hw, hil, hx => by
    unfold tariffref01_Less.l7
    have ew : IntKind.i64.wrap ((i : Int) + 1) = ((i + 1 : Nat) : Int) := by
      rw [i64_small (by omega) (by omega)]
      omega
    rw [ew]
    by_cases hlt : i + 1 < w.length
    · obtain ⟨m, rfl⟩ : ∃ m', m = m' + 1 := ⟨m - 1, by omega⟩
      have e1 : decide ((((i + 1 : Nat) : Int)) < (w.length : Int)) = true := decide_eq_true (by omega)
      obtain ⟨x, hxi⟩ : ∃ x, w[i]? = some x := ⟨_, List.getElem?_eq_getElem (by omega)⟩
      obtain ⟨y, hyi⟩ : ∃ y, w[i + 1]? = some y := ⟨_, List.getElem?_eq_getElem (by omega)⟩
      have hxa := hx i x hxi
      have hya := hx (i + 1) y hyi
      have hyb := hya.2.1 (by omega)
      have hc : 0 ≤ (i : Int) ∧ (i : Int) < (w.length : Int) := ⟨by omega, by omega⟩
      rw [e1, if_pos rfl]
      simp only [if_pos hc, idx_nat, hxi, Option.bind_some]
      by_cases hn : x < 0
      · have e2 : decide (x < 0) = true := by simpa using hn
        have w10 : IntKind.i64.wrap (x + 10) = x + 10 := i64_small (by omega) (by omega)
        have hc2 : 0 ≤ ((i + 1 : Nat) : Int) ∧ ((i + 1 : Nat) : Int) < (((w.set i (x + 10))).length : Int) := ⟨by omega, by rw [List.length_set]; omega⟩
        have hy2 : (w.set i (x + 10))[i + 1]? = some y := by rw [List.getElem?_set]; simp [hyi]
        rw [e2, if_pos rfl, w10, show ((i : Int)).toNat = i from rfl]
        have wy : IntKind.i64.wrap (y - 1) = y - 1 := i64_small (by omega) (by omega)
        simp only [w10, if_pos hc2, idx_nat, hy2, Option.bind_some, wy, show (((i + 1 : Nat) : Int)).toNat = i + 1 from rfl]
        obtain ⟨u, g1, g2, g3, g4⟩ := borrow_loop k hk m n (i + 1) ((w.set i (x + 10)).set (i + 1) (y - 1)) (by simp; omega) (by omega) (by simp; omega) (by simp; omega) (fun j z hz => by
          rw [List.getElem?_set] at hz
          split at hz
          · rename_i hij
            subst hij
            split at hz
            · have := Option.some.inj hz
              exact ⟨fun _ => by omega, fun _ => by omega, by omega, by omega⟩
            · cases hz
          · rename_i hij
            rw [List.getElem?_set] at hz
            split at hz
            · rename_i hij'
              subst hij'
              split at hz
              · have := Option.some.inj hz
                exact ⟨fun _ => by omega, fun _ => by omega, by omega, by omega⟩
              · cases hz
            · rename_i hij'
              have hh := hx j z hz
              exact ⟨fun _ => hh.1 (by omega), fun _ => hh.2.1 (by omega), hh.2.2⟩)
        refine ⟨u, g1, by rw [g2]; simp, ?_, g4⟩
        rw [g3, set_val hy2, set_val hxi, Int.pow_succ]
        rw [show x + 10 - x = 10 by omega, show y - 1 - y = -1 by omega]
        omega
      · have e2 : decide (x < 0) = false := by simpa using hn
        rw [e2]
        simp only [Bool.false_eq_true, if_false]
        exact borrow_loop k hk m n (i + 1) w (by omega) (by omega) hw (by omega) (fun j z hz => by
          have hh := hx j z hz
          by_cases hji : j = i
          · subst hji
            rw [hxi] at hz
            have := Option.some.inj hz
            exact ⟨fun _ => by omega, fun _ => by omega, by omega, by omega⟩
          · exact ⟨fun _ => hh.1 (by omega), fun _ => hh.2.1 (by omega), hh.2.2⟩)
    · have e1 : decide ((((i + 1 : Nat) : Int)) < (w.length : Int)) = false := decide_eq_false (by omega)
      rw [e1]
      refine ⟨w, rfl, rfl, rfl, fun j z hz => ?_⟩
      have hz1 := getElem?_lt hz
      have hz2 := hx j z hz
      split
      · exact ⟨hz2.1 (by omega), hz2.2.2.2⟩
      · exact hz2.2.2
end Go.EvT
end
section
set_option maxRecDepth 100000
namespace Go.EvT
open Go.Ev Go Go.Lib
theorem less_eq (k : Nat) (hk : 1100 ≤ k) (a b : List Int) (ha : AllD a) (hb : AllD b) (za : Nz a) (zb : Nz b) (hla : a.length ≤ 100) (hlb : b.length ≤ 100) (hv : dval b ≤ dval a) : ∃ u, tariffref01_Less k a b = some u ∧ ((u.length : Int) == 0) = (dval a - dval b == 0) := by
  have hl : b.length ≤ a.length := by
    rcases Nat.lt_or_ge a.length b.length with h | h
    · have h1 := dval_lt ha
      have h2 := dval_ge hb zb a.length h
      omega
    · exact h
  obtain ⟨u, g1, g2, g3, g4⟩ := minus_loop k b hb hlb b.length k 0 a rfl (by omega) (Nat.zero_le _) hl hla (fun j x hx => by
    rw [if_neg (by omega)]
    exact ha x (List.mem_of_getElem? hx))
  rw [List.drop_zero, Int.pow_zero, Int.one_mul] at g4
  obtain ⟨v, q1, q2, q3, q4⟩ := borrow_loop k (by omega) u.length k 0 u rfl (by omega) (by omega) (Nat.zero_le _) (fun j x hx => by
    have := g3 x (List.mem_of_getElem? hx)
    exact ⟨fun h => absurd h (by omega), fun _ => this.1, by omega, this.2⟩)
  have hva : AllD v := by
    rcases Nat.eq_zero_or_pos v.length with h0 | h0
    · have : v = [] := List.length_eq_zero_iff.1 h0
      subst this
      exact fun x hx => by cases hx
    · have hsm : AllD (v.take (v.length - 1)) := fun x hx => by
        obtain ⟨j, hj⟩ := List.getElem?_of_mem hx
        have hjl := getElem?_lt hj
        rw [List.length_take] at hjl
        rw [List.getElem?_take_of_lt (by omega)] at hj
        have := q4 j x hj
        rw [if_pos (by omega)] at this
        exact this
      obtain ⟨x, hx⟩ : ∃ x, v[v.length - 1]? = some x := ⟨_, List.getElem?_eq_getElem (by omega)⟩
      have hsv := split_val hx
      rw [List.drop_eq_nil_of_le (show v.length ≤ v.length - 1 + 1 by omega)] at hsv
      simp only [dval, Int.mul_zero, Int.add_zero] at hsv
      have hlt := dval_lt hsm
      rw [List.length_take, Nat.min_eq_left (by omega)] at hlt
      have hx0 : 0 ≤ x := by
        rcases Decidable.em (x < 0) with h | h
        · exfalso
          have hm : 10 ^ (v.length - 1) * x ≤ 10 ^ (v.length - 1) * (-1) := Int.mul_le_mul_of_nonneg_left (by omega) (by have := p10 (v.length - 1); omega)
          rw [Int.mul_neg, Int.mul_one] at hm
          omega
        · omega
      intro y hy
      obtain ⟨j, hj⟩ := List.getElem?_of_mem hy
      have hjl := getElem?_lt hj
      have := q4 j y hj
      by_cases hjj : j + 1 < v.length
      · rw [if_pos hjj] at this
        exact this
      · have : j = v.length - 1 := by omega
        subst this
        rw [hx] at hj
        have hxy := Option.some.inj hj
        subst hxy
        have := q4 _ _ hx
        split at this <;> omega
  obtain ⟨r, c1, c2, _⟩ := cut_eq k hk v (by omega) hva
  refine ⟨r, ?_, by rw [c2, q3, g4]⟩
  unfold tariffref01_Less
  rw [if_pos ((room_iff _).2 (by simp only [List.length_nil]; omega)), List.nil_append]
  have g1' : tariffref01_Less.l3 k b k a (0 : Int) = some u := g1
  have q1' : tariffref01_Less.l7 k k u (0 : Int) = some v := q1
  rw [g1']
  simp only [Option.bind_some]
  rw [q1']
  simp only [Option.bind_some]
  rw [c1]
  rfl
def dsg (d : Dec) : Int := if d.neg = true then - dz d else dz d
theorem dz_nn {d : Dec} (hd : d.coef.Ok) : 0 ≤ dz d := by
  obtain ⟨⟨h1, _⟩, h2, _⟩ := hd
  unfold dz Wide.val
  exact Int.mul_nonneg (by omega) (by have := p10 (18 - d.scale).toNat; omega)
theorem rorder_eq (k : Nat) (hk : 1100 ≤ k) (a b : Dec) (ha : a.coef.Ok) (hb : b.coef.Ok) (fa : a.form = true) (fb : b.form = true) : tariffref02_Order k a b = some (cmpI (dsg a) (dsg b)) := by
  obtain ⟨A, h1, h2, h3, h4, h5⟩ := units_eq k (by omega) a ha fa
  obtain ⟨B, g1, g2, g3, g4, g5⟩ := units_eq k (by omega) b hb fb
  have na := dz_nn ha
  have nb := dz_nn hb
  unfold tariffref02_Order
  rw [h1, g1]
  simp only [Option.bind_some]
  unfold tariffref02_sum dsg cmpI
  cases hna : a.neg <;> cases hnb : b.neg
  ·
    simp only [Bool.not_false, show (false == true) = false from rfl, Bool.false_eq_true, if_false]
    rw [lcmp_eq k hk A B h2 g2 h3 g3 h5 g5]
    simp only [Option.bind_some]
    rw [h4, g4]
    unfold cmpI
    by_cases hv : dz b ≤ dz a
    · obtain ⟨u, q1, q2⟩ := less_eq k hk A B h2 g2 h3 g3 h5 g5 (by omega)
      rw [h4, g4] at q2
      rw [if_neg (show ¬ dz a < dz b by omega)]
      by_cases he : dz b < dz a
      · rw [if_pos he]
        have e0 : (dz a - dz b == 0) = false := by rw [beq_eq_false_iff_ne]; omega
        rw [show decide ((1 : Int) ≥ 0) = true from rfl, if_pos rfl, q1]
        simp only [Option.bind_some]
        rw [q2, e0]
        rfl
      · rw [if_neg he]
        have e0 : (dz a - dz b == 0) = true := by rw [beq_iff_eq]; omega
        rw [show decide ((0 : Int) ≥ 0) = true from rfl, if_pos rfl, q1]
        simp only [Option.bind_some]
        rw [q2, e0]
        rfl
    · obtain ⟨u, q1, q2⟩ := less_eq k hk B A g2 h2 g3 h3 g5 h5 (by omega)
      rw [h4, g4] at q2
      have e0 : (dz b - dz a == 0) = false := by rw [beq_eq_false_iff_ne]; omega
      rw [if_pos (show dz a < dz b by omega), show decide ((-1 : Int) ≥ 0) = false from rfl]
      simp only [Bool.false_eq_true, if_false]
      rw [q1]
      simp only [Option.bind_some]
      rw [q2, e0]
      rfl
  ·
    simp only [Bool.not_true, show (false == false) = true from rfl, if_true]
    obtain ⟨u, q1, q2⟩ := plus_eq k hk A B h2 g2 h5 g5
    rw [h4, g4] at q2
    rw [q1]
    simp only [Option.bind_some]
    rw [q2]
    by_cases he : dz a + dz b = 0
    · have e0 : (dz a + dz b == 0) = true := by simpa using he
      rw [e0, if_pos rfl]
      simp only [Bool.false_eq_true, if_false]
      rw [if_neg (by omega), if_neg (by omega)]
    · have e0 : (dz a + dz b == 0) = false := by simpa using he
      rw [e0]
      simp only [Bool.false_eq_true, if_false]
      rw [if_neg (by omega), if_pos (by omega)]
  ·
    simp only [Bool.not_false, show (true == true) = true from rfl, if_true]
    obtain ⟨u, q1, q2⟩ := plus_eq k hk A B h2 g2 h5 g5
    rw [h4, g4] at q2
    rw [q1]
    simp only [Option.bind_some]
    rw [q2]
    by_cases he : dz a + dz b = 0
    · have e0 : (dz a + dz b == 0) = true := by simpa using he
      rw [e0, if_pos rfl]
      simp only [Bool.false_eq_true, if_false]
      rw [if_neg (by omega), if_neg (by omega)]
    · have e0 : (dz a + dz b == 0) = false := by simpa using he
      rw [e0]
      simp only [Bool.false_eq_true, if_false, if_true]
      rw [if_pos (show - dz a < dz b by omega)]
  ·
    simp only [Bool.not_true, show (true == false) = false from rfl, Bool.false_eq_true, if_false, if_true]
    rw [lcmp_eq k hk A B h2 g2 h3 g3 h5 g5]
    simp only [Option.bind_some]
    rw [h4, g4]
    unfold cmpI
    by_cases hv : dz b ≤ dz a
    · obtain ⟨u, q1, q2⟩ := less_eq k hk A B h2 g2 h3 g3 h5 g5 (by omega)
      rw [h4, g4] at q2
      rw [if_neg (show ¬ dz a < dz b by omega)]
      by_cases he : dz b < dz a
      · rw [if_pos he]
        have e0 : (dz a - dz b == 0) = false := by rw [beq_eq_false_iff_ne]; omega
        rw [show decide ((1 : Int) ≥ 0) = true from rfl, if_pos rfl, q1]
        simp only [Option.bind_some]
        rw [q2, e0, if_pos (show - dz a < - dz b by omega)]
        rfl
      · rw [if_neg he]
        have e0 : (dz a - dz b == 0) = true := by rw [beq_iff_eq]; omega
        rw [show decide ((0 : Int) ≥ 0) = true from rfl, if_pos rfl, q1]
        simp only [Option.bind_some]
        rw [q2, e0, if_neg (show ¬ - dz a < - dz b by omega), if_neg (show ¬ - dz b < - dz a by omega)]
        rfl
    · obtain ⟨u, q1, q2⟩ := less_eq k hk B A g2 h2 g3 h3 g5 h5 (by omega)
      rw [h4, g4] at q2
      have e0 : (dz b - dz a == 0) = false := by rw [beq_eq_false_iff_ne]; omega
      rw [if_pos (show dz a < dz b by omega), show decide ((-1 : Int) ≥ 0) = false from rfl]
      simp only [Bool.false_eq_true, if_false]
      rw [q1]
      simp only [Option.bind_some]
      rw [q2, e0, if_neg (show ¬ - dz a < - dz b by omega), if_pos (show - dz b < - dz a by omega)]
      rfl
theorem cmpI_mul (x y p : Int) (hp : 0 < p) : cmpI (x * p) (y * p) = cmpI x y := by
  unfold cmpI
  by_cases h1 : x < y
  · rw [if_pos h1, if_pos (Int.mul_lt_mul_of_pos_right h1 hp)]
  · by_cases h2 : y < x
    · have := Int.mul_lt_mul_of_pos_right h2 hp
      rw [if_neg h1, if_pos h2, if_neg (by omega), if_pos this]
    · have : x = y := by omega
      subst this
      rw [if_neg h1, if_neg h1, if_neg (by omega), if_neg (by omega)]
theorem cmpI_neg (x y : Int) : cmpI (-x) (-y) = cmpI y x := by
  unfold cmpI
  by_cases h1 : y < x
  · rw [if_pos h1, if_pos (by omega)]
  · by_cases h2 : x < y
    · rw [if_neg h1, if_pos h2, if_neg (by omega), if_pos (by omega)]
    · rw [if_neg h1, if_neg h2, if_neg (by omega), if_neg (by omega)]
theorem formed2 (K : Nat) (hK : 1000 ≤ K) (a b : Dec) (ha : a.coef.Ok) (hb : b.coef.Ok) (fa : a.form = true) (fb : b.form = true) : dec_formed K [a, b] = some 0 := by
  unfold dec_formed
  have h : dec_formed.l2 K [a, b] (([a, b] : List Dec).length : Int) K (0 : Int) = some (.go ()) := by
    obtain ⟨k, rfl⟩ : ∃ k, K = k + 3 := ⟨K - 3, by omega⟩
    unfold dec_formed.l2
    rw [show idx [a, b] (0 : Int) = some a from rfl]
    simp only [Option.bind_some]
    rw [form_eq (k + 3) (by omega) a ha, fa]
    unfold dec_formed.l2
    rw [show idx [a, b] (IntKind.i64.wrap ((0 : Int) + 1)) = some b from rfl]
    simp only [Option.bind_some]
    rw [form_eq (k + 3) (by omega) b hb, fb]
    rfl
  rw [h]
  rfl
theorem scale_val (d : Dec) (m : Nat) (h0 : 0 ≤ d.scale) (h1 : d.scale ≤ (m : Int)) (h2 : m ≤ 18) : dz d = d.coef.val * 10 ^ ((m : Int) - d.scale).toNat * 10 ^ (18 - m) := by
  unfold dz
  rw [Int.mul_assoc, ← Int.pow_add, show ((m : Int) - d.scale).toNat + (18 - m) = (18 - d.scale).toNat by omega]
theorem cmp_eq (k : Nat) (hk : 1100 ≤ k) (a b : Dec) (ha : a.coef.Ok) (hb : b.coef.Ok) (fa : a.form = true) (fb : b.form = true) : dec_Cmp k a b = some (cmpI (dsg a) (dsg b), 0) := by
  have na := dz_nn ha
  have nb := dz_nn hb
  have fa' := fa
  have fb' := fb
  unfold Dec.form at fa' fb'
  simp only [Bool.and_eq_true, decide_eq_true_eq] at fa' fb'
  obtain ⟨⟨⟨a1, a2⟩, a3⟩, a4⟩ := fa'
  obtain ⟨⟨⟨b1, b2⟩, b3⟩, b4⟩ := fb'
  have pos : ∀ {d : Dec}, d.coef.Ok → (if d.coef.val = 0 then !d.neg && d.scale == 0 else d.scale == 0 || d.coef.val % 10 != 0) = true → d.neg = true → 0 < dz d := fun {d} hd h hn => by
    obtain ⟨⟨h1, _⟩, h2, _⟩ := hd
    have hv : 0 ≤ d.coef.val := by unfold Wide.val; omega
    by_cases hz : d.coef.val = 0
    · rw [if_pos hz, hn] at h
      cases h
    · unfold dz
      exact Int.mul_pos (by omega) (by have := p10 (18 - d.scale).toNat; omega)
  unfold dec_Cmp
  rw [formed2 k (by omega) a b ha hb fa fb]
  simp only [Option.bind_some, show ((0 : Int) != 0) = false from rfl, Bool.false_eq_true, if_false]
  obtain ⟨m, hm⟩ : ∃ m : Nat, (if b.scale > a.scale then b.scale else a.scale) = (m : Int) := ⟨(if b.scale > a.scale then b.scale else a.scale).toNat, by split <;> omega⟩
  have ma : a.scale ≤ (m : Int) ∧ b.scale ≤ (m : Int) ∧ m ≤ 18 := by split at hm <;> omega
  obtain ⟨i, hi⟩ : ∃ i : Nat, (m : Int) - a.scale = (i : Int) := ⟨((m : Int) - a.scale).toNat, by omega⟩
  obtain ⟨j, hj⟩ : ∃ j : Nat, (m : Int) - b.scale = (j : Int) := ⟨((m : Int) - b.scale).toNat, by omega⟩
  obtain ⟨p, q, r, s, t1, u1, u2, u3, u4, t2⟩ := times_eq k (by omega) a.coef ha a1 i (by omega)
  obtain ⟨p', q', r', s', t1', u1', u2', u3', u4', t2'⟩ := times_eq k (by omega) b.coef hb b1 j (by omega)
  have hboth : dec_both k a b = some ([p, q, r, s], [p', q', r', s'], (m : Int)) := by
    unfold dec_both
    rw [hm, i64_small (by omega) (by omega), hi, t1]
    simp only [Option.bind_some]
    rw [i64_small (by omega) (by omega), hj, t1']
    rfl
  have sa := scale_val a m a2 ma.1 ma.2.2
  have sb := scale_val b m b2 ma.2.1 ma.2.2
  have ei : ((m : Int) - a.scale).toNat = i := by omega
  have ej : ((m : Int) - b.scale).toNat = j := by omega
  rw [ei, ← t2] at sa
  rw [ej, ← t2'] at sb
  have hp : (0 : Int) < 10 ^ (18 - m) := by have := p10 (18 - m); omega
  unfold dsg
  cases hna : a.neg <;> cases hnb : b.neg
  · simp only [show (!(false == false)) = false from rfl, Bool.false_eq_true, if_false]
    rw [hboth]
    simp only [Option.bind_some]
    rw [order_eq k (by omega) p q r s p' q' r' s' u1 u2 u3 u4 u1' u2' u3' u4', sa, sb, cmpI_mul _ _ _ hp]
    rfl
  · have := pos hb b4 hnb
    simp only [show (!(false == true)) = true from rfl, Bool.false_eq_true, if_true, if_false]
    unfold cmpI
    rw [if_neg (by omega), if_pos (by omega)]
  · have := pos ha a4 hna
    simp only [show (!(true == false)) = true from rfl, Bool.false_eq_true, if_true, if_false]
    unfold cmpI
    rw [if_pos (by omega)]
  · simp only [show (!(true == true)) = false from rfl, Bool.false_eq_true, if_false, if_true]
    rw [hboth]
    simp only [Option.bind_some]
    rw [order_eq k (by omega) p' q' r' s' p q r s u1' u2' u3' u4' u1 u2 u3 u4, cmpI_neg, sa, sb, cmpI_mul _ _ _ hp]
    rfl
end Go.EvT
end
section
set_option maxRecDepth 100000
namespace Go.EvT
open Go.Ev Go Go.Lib
mutual
def vsz : Val → Nat
  | ⟨_, _, _, _, _, l, _⟩ => vszL l + 1
def vszL : List Val → Nat
  | [] => 0
  | v :: r => vsz v + vszL r
end
mutual
def vdep : Val → Nat
  | ⟨_, _, _, _, _, l, _⟩ => vdepL l + 1
def vdepL : List Val → Nat
  | [] => 0
  | v :: r => max (vdep v) (vdepL r)
end
theorem vsz_eq (v : Val) : vsz v = vszL v.list + 1 := by
  obtain ⟨a, b, c, d, e, l, n⟩ := v
  rw [vsz]
theorem vdep_eq (v : Val) : vdep v = vdepL v.list + 1 := by
  obtain ⟨a, b, c, d, e, l, n⟩ := v
  rw [vdep]
theorem vszL_nil : vszL [] = 0 := by rw [vszL]
theorem vszL_cons (v : Val) (r : List Val) : vszL (v :: r) = vsz v + vszL r := by rw [vszL]
theorem vdepL_nil : vdepL [] = 0 := by rw [vdepL]
theorem vdepL_cons (v : Val) (r : List Val) : vdepL (v :: r) = max (vdep v) (vdepL r) := by rw [vdepL]
theorem vsz_pos (v : Val) : 1 ≤ vsz v := by rw [vsz_eq]; omega
theorem vszL_len : ∀ l : List Val, l.length ≤ vszL l
  | [] => Nat.zero_le _
  | v :: r => by
    have := vszL_len r
    have := vsz_pos v
    rw [vszL_cons, List.length_cons]
    omega
theorem vsz_mem : ∀ {l : List Val} {v : Val}, v ∈ l → vsz v ≤ vszL l
  | x :: r, v, h => by
    rw [vszL_cons]
    cases h with
    | head => omega
    | tail _ h => have := vsz_mem h; omega
theorem vdep_le : ∀ (n : Nat) (v : Val), vsz v ≤ n → vdep v ≤ vsz v
  | 0, v, h => by have := vsz_pos v; omega
  | n + 1, v, h => by
    rw [vdep_eq, vsz_eq]
    rw [vsz_eq] at h
    have : ∀ l : List Val, vszL l ≤ n → vdepL l ≤ vszL l := by
      intro l
      induction l with
      | nil => intro _; rw [vdepL_nil]; omega
      | cons v r ih =>
        intro hl
        rw [vszL_cons] at hl ⊢
        rw [vdepL_cons]
        have := ih (by omega)
        have := vdep_le n v (by omega)
        have := vsz_pos v
        omega
    have := this v.list (by omega)
    omega
theorem vcount_ok : ∀ (K : Nat) (v : Val) (lim : Int), vsz v + 1 ≤ K → K ≤ 100000000 → 0 ≤ lim → lim ≤ 1000000 → ∃ r, value_count K v lim = some r ∧ 1 ≤ r ∧ r ≤ (vsz v : Int) ∧ (r ≤ lim → r = (vsz v : Int))
  | 0, v, lim, h, _, _, _ => by omega
  | K + 1, v, lim, h, hK, h0, h1 => by
    have hv := vsz_eq v
    have loop : ∀ (r : List Val) (n i : Nat) (x : Int), v.list.drop i = r → r.length < n → i ≤ v.list.length → 1 ≤ x → x + (vszL r : Int) ≤ 200000000 → ∃ y, value_count.l3 (value_count K) K lim v.list (v.list.length : Int) n x (i : Int) = some y ∧ 1 ≤ y ∧ x ≤ y ∧ y ≤ x + (vszL r : Int) ∧ (y ≤ lim → y = x + (vszL r : Int)) := by
      intro r
      induction r with
      | nil =>
        intro n i x hd hn hi hx hb
        have hlen := congrArg List.length hd
        simp at hlen
        obtain ⟨n, rfl⟩ : ∃ m, n = m + 1 := ⟨n - 1, by simp at hn; omega⟩
        unfold value_count.l3
        have e1 : decide ((i : Int) < (v.list.length : Int)) = false := decide_eq_false (by omega)
        rw [e1]
        rw [vszL_nil]
        exact ⟨x, rfl, hx, Int.le_refl _, by omega, fun _ => by omega⟩
      | cons e r ih =>
        intro n i x hd hn hi hx hb
        have hlen := congrArg List.length hd
        simp at hlen
        have he : v.list[i]? = some e := by
          have := congrArg (fun l => l[0]?) hd
          simpa using this
        have hd' : v.list.drop (i + 1) = r := by
          have := congrArg List.tail hd
          simpa using this
        obtain ⟨n, rfl⟩ : ∃ m, n = m + 1 := ⟨n - 1, by simp at hn; omega⟩
        have hlv := vszL_len v.list
        have hme := vsz_mem (List.mem_of_getElem? he)
        rw [vszL_cons] at hb ⊢
        unfold value_count.l3
        have e1 : decide ((i : Int) < (v.list.length : Int)) = true := decide_eq_true (by omega)
        rw [e1, if_pos rfl, idx_nat, he]
        simp only [Option.bind_some]
        by_cases hg : x > lim
        · have e2 : decide (x > lim) = true := by simpa using hg
          rw [e2, if_pos rfl]
          exact ⟨x, rfl, hx, Int.le_refl _, by omega, fun h => by omega⟩
        · have e2 : decide (x > lim) = false := by simpa using hg
          rw [e2]
          simp only [Bool.false_eq_true, if_false]
          rw [i64_small (by omega) (by omega)]
          obtain ⟨c, c1, c2, c3, c4⟩ := vcount_ok K e (lim - x) (by omega) (by omega) (by omega) (by omega)
          rw [c1]
          simp only [Option.bind_some]
          rw [i64_small (by omega) (by omega), i64_small (by omega) (by omega), show (i : Int) + 1 = ((i + 1 : Nat) : Int) by omega]
          obtain ⟨y, y1, y2, y3, y4, y5⟩ := ih n (i + 1) (x + c) hd' (by simp at hn; omega) (by omega) (by omega) (by omega)
          refine ⟨y, y1, y2, by omega, by omega, fun hy => ?_⟩
          have := y5 hy
          have := c4 (by omega)
          omega
    have hlen := vszL_len v.list
    obtain ⟨y, y1, y2, y3, y4, y5⟩ := loop v.list K 0 1 rfl (by omega) (Nat.zero_le _) (Int.le_refl _) (by omega)
    unfold value_count
    have y1' : value_count.l3 (value_count K) K lim v.list (v.list.length : Int) K (1 : Int) (0 : Int) = some y := y1
    rw [y1']
    exact ⟨y, rfl, y2, by omega, fun h => by have := y5 h; omega⟩
def wsum : List (List Val) → Nat
  | [] => 0
  | l :: r => vszL l + wsum r
def wmu : List (List Val) → Nat
  | [] => 0
  | l :: r => vszL l + 1 + wmu r
theorem wsum_app : ∀ a b : List (List Val), wsum (a ++ b) = wsum a + wsum b
  | [], b => by simp [wsum]
  | l :: a, b => by simp only [List.cons_append, wsum, wsum_app a b]; omega
theorem wmu_app : ∀ a b : List (List Val), wmu (a ++ b) = wmu a + wmu b
  | [], b => by simp [wmu]
  | l :: a, b => by simp only [List.cons_append, wmu, wmu_app a b]; omega
theorem wmu_len : ∀ a : List (List Val), a.length ≤ wmu a
  | [] => Nat.le_refl _
  | l :: a => by have := wmu_len a; simp only [List.length_cons, wmu]; omega
theorem rcount_in (k : Nat) (lim : Int) (h1 : lim ≤ 1000000) (l : List Val) (hl : vszL l ≤ 10000000) : ∀ (r : List Val) (n i : Nat) (x : Int) (w : List (List Val)), l.drop i = r → r.length < n → i ≤ l.length → 0 ≤ x → x ≤ 100000000 → wmu w + vszL r ≤ 20000000 →
    ∃ y u, tariffref07_Count.l7 k lim l n x w (i : Int) = some (lim, y, u) ∧ 0 ≤ y ∧ y + (wsum u : Int) ≤ x + (wsum w : Int) + (vszL r : Int) ∧ (y ≤ lim → y + (wsum u : Int) = x + (wsum w : Int) + (vszL r : Int)) ∧ wmu u ≤ wmu w + vszL r
  | _, 0, _, _, _, _, h, _, _, _, _ => by omega
  | [], n + 1, i, x, w, hd, _, hi, hx, hx2, hw => by
    have hlen := congrArg List.length hd
    simp at hlen
    unfold tariffref07_Count.l7
    have e1 : decide ((i : Int) < (l.length : Int)) = false := decide_eq_false (by omega)
    rw [e1, vszL_nil]
    exact ⟨x, w, rfl, hx, by omega, fun _ => by omega, by omega⟩
  | e :: r, n + 1, i, x, w, hd, hn, hi, hx, hx2, hw => by
    have hlen := congrArg List.length hd
    simp at hlen
    have he : l[i]? = some e := by
      have := congrArg (fun l => l[0]?) hd
      simpa using this
    have hd' : l.drop (i + 1) = r := by
      have := congrArg List.tail hd
      simpa using this
    have hlv := vszL_len l
    have hme := vsz_mem (List.mem_of_getElem? he)
    have hve := vsz_eq e
    rw [vszL_cons] at hw ⊢
    unfold tariffref07_Count.l7
    have e1 : decide ((i : Int) < (l.length : Int)) = true := decide_eq_true (by omega)
    rw [e1]
    simp only [if_true, Option.bind_some]
    by_cases hg : x ≤ lim
    · have e2 : decide (x ≤ lim) = true := by simpa using hg
      rw [e2, if_pos rfl, idx_nat, he]
      simp only [Option.bind_some]
      rw [i64_small (by omega) (by omega), i64_small (by omega) (by omega), show (i : Int) + 1 = ((i + 1 : Nat) : Int) by omega]
      by_cases hz : (e.list.length : Int) > 0
      · have e3 : decide ((e.list.length : Int) > (0 : Int)) = true := by simpa using hz
        have hwl := wmu_len w
        rw [e3, if_pos rfl, if_pos ((room_iff _).2 (by simp only [List.length_cons, List.length_nil]; omega))]
        have s1 : wsum (w ++ [e.list]) = wsum w + vszL e.list := by rw [wsum_app]; simp [wsum]
        have s2 : wmu (w ++ [e.list]) = wmu w + (vszL e.list + 1) := by rw [wmu_app]; simp [wmu]
        obtain ⟨y, u, y1, y2, y3, y4, y5⟩ := rcount_in k lim h1 l hl r n (i + 1) (x + 1) (w ++ [e.list]) hd' (by simp at hn; omega) (by omega) (by omega) (by omega) (by omega)
        exact ⟨y, u, y1, y2, by omega, fun h => by have := y4 h; omega, by omega⟩
      · have e3 : decide ((e.list.length : Int) > (0 : Int)) = false := by simpa using hz
        have hnil : e.list = [] := List.length_eq_zero_iff.1 (by omega)
        rw [hnil, vszL_nil] at hve
        rw [e3]
        simp only [Bool.false_eq_true, if_false]
        obtain ⟨y, u, y1, y2, y3, y4, y5⟩ := rcount_in k lim h1 l hl r n (i + 1) (x + 1) w hd' (by simp at hn; omega) (by omega) (by omega) (by omega) (by omega)
        exact ⟨y, u, y1, y2, by omega, fun h => by have := y4 h; omega, by omega⟩
    · have e2 : decide (x ≤ lim) = false := by simpa using hg
      rw [e2]
      exact ⟨x, w, rfl, hx, by omega, fun h => absurd h hg, by omega⟩
theorem rcount_out (k : Nat) (hk : 11000000 ≤ k) (lim : Int) (h1 : lim ≤ 1000000) : ∀ (n : Nat) (x : Int) (w : List (List Val)), wmu w < n → 0 ≤ x → x + (wsum w : Int) ≤ 10000000 → wmu w ≤ 10000000 →
    ∃ y, tariffref07_Count.l3 k n lim x w = some y ∧ y ≤ x + (wsum w : Int) ∧ (y ≤ lim → y = x + (wsum w : Int))
  | 0, _, _, h, _, _, _ => by omega
  | n + 1, x, w, hn, hx, hs, hw => by
    unfold tariffref07_Count.l3
    rcases List.eq_nil_or_concat w with rfl | ⟨w', l, rfl⟩
    · exact ⟨x, rfl, by simp [wsum], fun _ => by simp [wsum]⟩
    · have s1 : wsum (w' ++ [l]) = wsum w' + vszL l := by rw [wsum_app]; simp [wsum]
      have s2 : wmu (w' ++ [l]) = wmu w' + (vszL l + 1) := by rw [wmu_app]; simp [wmu]
      rw [List.concat_eq_append] at *
      have hwl := wmu_len w'
      have hl0 : ((w' ++ [l]).length : Int) = (w'.length : Int) + 1 := by simp
      have e1 : decide (((w' ++ [l]).length : Int) > (0 : Int)) = true := decide_eq_true (by omega)
      rw [e1]
      simp only [if_true, Option.bind_some]
      by_cases hg : x ≤ lim
      · have e2 : decide (x ≤ lim) = true := by simpa using hg
        have ew : IntKind.i64.wrap (((w' ++ [l]).length : Int) - 1) = (w'.length : Int) := by rw [hl0, i64_small (by omega) (by omega)]; omega
        have hix : (w' ++ [l])[w'.length]? = some l := by rw [List.getElem?_append_right (Nat.le_refl _), Nat.sub_self]; rfl
        rw [e2, if_pos rfl, ew, if_pos ⟨by omega, by omega⟩, idx_nat, hix]
        simp only [Option.bind_some]
        rw [if_pos ⟨by omega, by omega, by omega⟩, show ((w'.length : Int)).toNat = w'.length from rfl, List.take_left]
        have hll := vszL_len l
        obtain ⟨y, u, y1, y2, y3, y4, y5⟩ := rcount_in k lim h1 l (by omega) l k 0 x w' rfl (by omega) (Nat.zero_le _) hx (by omega) (by omega)
        have y1' : tariffref07_Count.l7 k lim l k x w' (0 : Int) = some (lim, y, u) := y1
        rw [y1']
        simp only [Option.bind_some]
        obtain ⟨z, z1, z2, z3⟩ := rcount_out k hk lim h1 n y u (by omega) y2 (by omega) (by omega)
        refine ⟨z, z1, by omega, fun h => ?_⟩
        have := z3 h
        have := y4 (by omega)
        omega
      · have e2 : decide (x ≤ lim) = false := by simpa using hg
        rw [e2]
        exact ⟨x, rfl, by omega, fun h => absurd h hg⟩
theorem rcount_ok (k : Nat) (hk : 11000000 ≤ k) (v : Val) (hv : vsz v ≤ 5000000) (lim : Int) (h1 : lim ≤ 1000000) : ∃ r, tariffref07_Count k v lim = some r ∧ r ≤ (vsz v : Int) ∧ (r ≤ lim → r = (vsz v : Int)) := by
  have s1 : wsum [[v]] = vsz v := by simp [wsum, vszL_cons, vszL_nil]
  have s2 : wmu [[v]] = vsz v + 1 := by simp [wmu, vszL_cons, vszL_nil]
  obtain ⟨y, y1, y2, y3⟩ := rcount_out k hk lim h1 k 0 [[v]] (by omega) (Int.le_refl _) (by omega) (by omega)
  unfold tariffref07_Count
  rw [y1]
  exact ⟨y, rfl, by omega, fun h => by have := y3 h; omega⟩
end Go.EvT
end
section
set_option maxRecDepth 100000
namespace Go.EvT
open Go.Ev Go Go.Lib
def hasName (l : List ByteArray) (s : ByteArray) : Bool := l.any fun u => s.data.toList == u.data.toList
def nmFrom (ns : List ByteArray) : Nat → Nat → Bool
  | 0, _ => true
  | b + 1, i => match ns[i]? with
    | some t => nameB t && (!hasName (ns.take i) t && nmFrom ns b (i + 1))
    | none => true
def namesB (ns : List ByteArray) : Bool := nmFrom ns ns.length 0
theorem sindex_loop (K : Nat) (l : List ByteArray) (s : ByteArray) (hl : l.length ≤ 100000000) : ∀ (m n i : Nat), m = l.length - i → m < n → i ≤ l.length →
    ∃ o, slices_Index.l2 K l s (l.length : Int) n (i : Int) = some o ∧ (match o with | .go _ => hasName (l.drop i) s = false | .ret j => hasName (l.drop i) s = true ∧ 0 ≤ j)
  | _, 0, _, _, h, _ => by omega
  | 0, n + 1, i, hm, _, hi => by
    unfold slices_Index.l2
    have e1 : decide ((i : Int) < (l.length : Int)) = false := decide_eq_false (by omega)
    rw [e1]
    refine ⟨_, rfl, ?_⟩
    rw [List.drop_eq_nil_of_le (by omega)]
    rfl
  | m + 1, n + 1, i, hm, hmn, hi => by
    obtain ⟨x, hx⟩ : ∃ x, l[i]? = some x := ⟨_, List.getElem?_eq_getElem (by omega)⟩
    unfold slices_Index.l2
    have e1 : decide ((i : Int) < (l.length : Int)) = true := decide_eq_true (by omega)
    rw [e1, if_pos rfl, idx_nat, hx]
    simp only [Option.bind_some]
    rw [drop_cons hx]
    cases hq : (s.data.toList == x.data.toList) with
    | true => exact ⟨_, rfl, by unfold hasName; rw [List.any_cons, hq]; rfl, by omega⟩
    | false =>
      obtain ⟨o, h1, h2⟩ := sindex_loop K l s hl m n (i + 1) (by omega) (by omega) (by omega)
      simp only [Bool.false_eq_true, if_false]
      rw [i64_small (by omega) (by omega), show (i : Int) + 1 = ((i + 1 : Nat) : Int) by omega]
      refine ⟨o, h1, ?_⟩
      have : hasName (x :: l.drop (i + 1)) s = hasName (l.drop (i + 1)) s := by unfold hasName; rw [List.any_cons, hq]; rfl
      rw [this]
      exact h2
theorem scontains_eq (K : Nat) (l : List ByteArray) (s : ByteArray) (hl : l.length ≤ 100000000) (hK : l.length < K) : slices_Contains K l s = some (hasName l s) := by
  obtain ⟨o, h1, h2⟩ := sindex_loop K l s hl l.length K 0 rfl hK (Nat.zero_le _)
  unfold slices_Contains slices_Index
  have h1' : slices_Index.l2 K l s (l.length : Int) K (0 : Int) = some o := h1
  rw [h1']
  rw [List.drop_zero] at h2
  cases o with
  | go x =>
    simp only [Option.bind_some]
    have h2 : hasName l s = false := h2
    rw [h2]
    rfl
  | ret j =>
    simp only [Option.bind_some]
    obtain ⟨h2, h3⟩ : hasName l s = true ∧ 0 ≤ j := h2
    rw [h2]
    exact congrArg some (decide_eq_true h3)
theorem vnames_loop (K : Nat) (hK : 1000 ≤ K) (ns : List ByteArray) (hl : ns.length ≤ 100000000) (hlK : ns.length < K) : ∀ (m n i : Nat), m = ns.length - i → m < n → i ≤ ns.length →
    value_names.l2 K ns ns (ns.length : Int) n (i : Int) = some (if nmFrom ns m i = true then .go () else .ret false)
  | _, 0, _, _, h, _ => by omega
  | 0, n + 1, i, hm, _, hi => by
    unfold value_names.l2
    have e1 : decide ((i : Int) < (ns.length : Int)) = false := decide_eq_false (by omega)
    rw [e1]
    rfl
  | m + 1, n + 1, i, hm, hmn, hi => by
    obtain ⟨x, hx⟩ : ∃ x, ns[i]? = some x := ⟨_, List.getElem?_eq_getElem (by omega)⟩
    unfold value_names.l2
    have e1 : decide ((i : Int) < (ns.length : Int)) = true := decide_eq_true (by omega)
    rw [e1, if_pos rfl, idx_nat, hx]
    simp only [Option.bind_some]
    rw [name_eq K (by omega)]
    simp only [Option.bind_some, nmFrom, hx]
    cases hn : nameB x with
    | false => rfl
    | true =>
      simp only [Bool.not_true, if_true, Bool.true_and]
      rw [if_pos ⟨by omega, by omega, by omega⟩, show ((i : Int)).toNat = i from rfl, scontains_eq K (ns.take i) x (by rw [List.length_take]; omega) (by rw [List.length_take]; omega)]
      simp only [Option.bind_some]
      cases hasName (ns.take i) x with
      | true => rfl
      | false =>
        simp only [Bool.false_eq_true, if_false, Bool.not_false, Bool.true_and]
        rw [i64_small (by omega) (by omega), show (i : Int) + 1 = ((i + 1 : Nat) : Int) by omega]
        exact vnames_loop K hK ns hl hlK m n (i + 1) (by omega) (by omega) (by omega)
theorem vnames_eq (K : Nat) (hK : 1000 ≤ K) (ns : List ByteArray) (hl : ns.length ≤ 100000000) (hlK : ns.length < K) : value_names K ns = some (namesB ns) := by
  have h := vnames_loop K hK ns hl hlK ns.length K 0 rfl hlK (Nat.zero_le _)
  unfold value_names
  have h' : value_names.l2 K ns ns (ns.length : Int) K (0 : Int) = _ := h
  rw [h']
  unfold namesB
  cases nmFrom ns ns.length 0 <;> rfl
theorem rnames_in (K : Nat) (f : Val → Option Bool) (b1 : Val) (t : ByteArray) (i : Nat) (ht : b1.names[i]? = some t) (hl : b1.names.length ≤ 100000000) : ∀ (m n j : Nat), m = i - j → m < n → j ≤ i →
    tariffref07_form.l13 f K (i : Int) b1 n (j : Int) = some (if (((b1.names.take i).drop j).any fun u => u.data.toList == t.data.toList) = true then .ret false else .go ((i : Int), b1))
  | _, 0, _, _, h, _ => by omega
  | 0, n + 1, j, hm, _, hj => by
    unfold tariffref07_form.l13
    have e1 : decide ((j : Int) < (i : Int)) = false := decide_eq_false (by omega)
    rw [e1, List.drop_eq_nil_of_le (by rw [List.length_take]; omega)]
    rfl
  | m + 1, n + 1, j, hm, hmn, hj => by
    have hil := getElem?_lt ht
    obtain ⟨x, hx⟩ : ∃ x, b1.names[j]? = some x := ⟨_, List.getElem?_eq_getElem (by omega)⟩
    have hxt : (b1.names.take i)[j]? = some x := by rw [List.getElem?_take_of_lt (by omega)]; exact hx
    unfold tariffref07_form.l13
    have e1 : decide ((j : Int) < (i : Int)) = true := decide_eq_true (by omega)
    rw [e1, if_pos rfl, idx_nat, hx]
    simp only [Option.bind_some]
    rw [idx_nat, ht]
    simp only [Option.bind_some]
    rw [drop_cons hxt, List.any_cons]
    cases hq : (x.data.toList == t.data.toList) with
    | true => rfl
    | false =>
      simp only [Bool.false_eq_true, if_false, Bool.false_or]
      rw [i64_small (by omega) (by omega), show (j : Int) + 1 = ((j + 1 : Nat) : Int) by omega]
      exact rnames_in K f b1 t i ht hl m n (j + 1) (by omega) (by omega) (by omega)
theorem any_flip (l : List ByteArray) (t : ByteArray) : (l.any fun u => u.data.toList == t.data.toList) = hasName l t := by
  unfold hasName
  refine congrArg (fun f => l.any f) (funext fun u => ?_)
  rw [Bool.eq_iff_iff]
  simp only [beq_iff_eq]
  exact ⟨fun h => h.symm, fun h => h.symm⟩
theorem rnames_out (K : Nat) (hK : 1000 ≤ K) (f : Val → Option Bool) (b1 : Val) (hl : b1.names.length ≤ 100000000) (hlK : b1.names.length < K) : ∀ (m n i : Nat), m = b1.names.length - i → m < n → i ≤ b1.names.length →
    tariffref07_form.l8 f K n (i : Int) b1 = some (if nmFrom b1.names m i = true then .go b1 else .ret false)
  | _, 0, _, _, h, _ => by omega
  | 0, n + 1, i, hm, _, hi => by
    unfold tariffref07_form.l8
    have e1 : decide ((i : Int) < (b1.names.length : Int)) = false := decide_eq_false (by omega)
    rw [e1]
    rfl
  | m + 1, n + 1, i, hm, hmn, hi => by
    obtain ⟨x, hx⟩ : ∃ x, b1.names[i]? = some x := ⟨_, List.getElem?_eq_getElem (by omega)⟩
    unfold tariffref07_form.l8
    have e1 : decide ((i : Int) < (b1.names.length : Int)) = true := decide_eq_true (by omega)
    rw [e1, if_pos rfl, idx_nat, hx]
    simp only [Option.bind_some]
    rw [rname_eq K (by omega)]
    simp only [Option.bind_some, nmFrom, hx]
    cases hn : nameB x with
    | false => rfl
    | true =>
      simp only [Bool.not_true, Bool.false_eq_true, if_false, Bool.true_and]
      have hin := rnames_in K f b1 x i hx hl i K 0 rfl (by omega) (Nat.zero_le _)
      rw [List.drop_zero, any_flip] at hin
      have hin' : tariffref07_form.l13 f K (i : Int) b1 K (0 : Int) = _ := hin
      rw [hin']
      cases hasName (b1.names.take i) x with
      | true => rfl
      | false =>
        simp only [Bool.false_eq_true, if_false, Option.bind_some, Bool.not_false, Bool.true_and]
        rw [i64_small (by omega) (by omega), show (i : Int) + 1 = ((i + 1 : Nat) : Int) by omega]
        exact rnames_out K hK f b1 hl hlK m n (i + 1) (by omega) (by omega) (by omega)
def bareB (v : Val) : Bool := (v.kind == 1 || !v.yes) && ((v.kind == 2 || decZ v.num) && ((v.kind == 3 || txtZ v.text) && ((v.kind == 4 || v.day == 0) && ((decide (v.kind ≥ 5) || (v.list.length : Int) == 0) && (v.kind == 6 || (v.names.length : Int) == 0)))))
def selfB (v : Val) : Bool := (decide (0 ≤ v.kind) && decide (v.kind ≤ 6)) && (bareB v && ((!(v.kind == 2) || v.num.form) && ((!(v.kind == 3) || (validText v.text && decide ((v.text.size : Int) ≤ 1000))) && ((!(v.kind == 4) || (decide (v.day ≥ 1) && decide (v.day ≤ 3652059))) && (!(v.kind == 6) || (v.names.length : Int) == (v.list.length : Int))))))
mutual
def vok : Val → Bool
  | ⟨a, b, c, d, e, l, n⟩ => selfB ⟨a, b, c, d, e, l, n⟩ && (namesB n && vokL l)
def vokL : List Val → Bool
  | [] => true
  | v :: r => vok v && vokL r
end
theorem vok_eq (v : Val) : vok v = (selfB v && (namesB v.names && vokL v.list)) := by
  obtain ⟨a, b, c, d, e, l, n⟩ := v
  rw [vok]
theorem vokL_nil : vokL [] = true := by rw [vokL]
theorem vokL_cons (v : Val) (r : List Val) : vokL (v :: r) = (vok v && vokL r) := by rw [vokL]
mutual
def VGood (B : Nat) : Val → Prop
  | ⟨_, _, c, d, _, l, n⟩ => c.coef.Ok ∧ d.size ≤ B ∧ n.length ≤ B ∧ VGoodL B l
def VGoodL (B : Nat) : List Val → Prop
  | [] => True
  | v :: r => VGood B v ∧ VGoodL B r
end
theorem VGood_eq (B : Nat) (v : Val) : VGood B v = (v.num.coef.Ok ∧ v.text.size ≤ B ∧ v.names.length ≤ B ∧ VGoodL B v.list) := by
  obtain ⟨a, b, c, d, e, l, n⟩ := v
  rw [VGood]
theorem VGoodL_cons (B : Nat) (v : Val) (r : List Val) : VGoodL B (v :: r) = (VGood B v ∧ VGoodL B r) := by rw [VGoodL]
theorem VGoodL_mem {B : Nat} : ∀ {l : List Val} {v : Val}, VGoodL B l → v ∈ l → VGood B v
  | x :: r, v, h, hm => by
    rw [VGoodL_cons] at h
    cases hm with
    | head => exact h.1
    | tail _ hm => exact VGoodL_mem h.2 hm
theorem andO (a b : Bool) : ((if a = true then some b else some false) : Option Bool) = some (a && b) := by cases a <;> rfl
theorem orO (a b : Bool) : ((if a = false then some b else some true) : Option Bool) = some (a || b) := by cases a <;> rfl
theorem orN (a b : Bool) : (a || !b) = !(b && !a) := by cases a <;> cases b <;> rfl
theorem orN2 (a b : Bool) : (a || b) = !(!b && !a) := by cases a <;> cases b <;> rfl
theorem vbare_eq (v : Val) (h0 : 0 ≤ v.kind) (h6 : v.kind ≤ 6) : value_bare v = some (bareB v) := by
  have hz : (v.num.neg == false && (v.num.coef.hi == 0 && (v.num.coef.lo == 0 && true) && (v.num.scale == 0 && true))) = decZ v.num := rfl
  have ht : (v.text.data.toList == (ByteArray.mk #[]).data.toList) = txtZ v.text := rfl
  have c1 : (v.kind != 1) = !(v.kind == 1) := rfl
  have c2 : (v.kind != 2) = !(v.kind == 2) := rfl
  have c3 : (v.kind != 3) = !(v.kind == 3) := rfl
  have c4 : (v.kind != 4) = !(v.kind == 4) := rfl
  have c6 : (v.kind != 6) = !(v.kind == 6) := rfl
  have cd : (v.day != 0) = !(v.day == 0) := rfl
  have c5 : decide (v.kind ≥ 5) = ((v.kind == 5) || (v.kind == 6)) := by
    rw [Bool.eq_iff_iff]
    simp only [decide_eq_true_eq, Bool.or_eq_true, beq_iff_eq]
    omega
  have cn : decide ((v.names.length : Int) > 0) = !((v.names.length : Int) == 0) := by
    rw [Bool.eq_iff_iff]
    simp only [decide_eq_true_eq, Bool.not_eq_true', beq_eq_false_iff_ne]
    omega
  unfold value_bare bareB
  rw [hz, ht, c1, c2, c3, c4, c6, cd, c5, cn, orN (v.kind == 1), orN2 (v.kind == 2), orN2 (v.kind == 3), orN2 (v.kind == 4), orN2 (v.kind == 6) ((v.names.length : Int) == 0)]
  simp only [andO, orO, Option.bind_some]
  cases (v.yes && !(v.kind == 1)) with
  | true => rfl
  | false =>
    simp only [Bool.false_eq_true, if_false, Bool.not_false, Bool.true_and]
    cases (!decZ v.num && !(v.kind == 2)) with
    | true => rfl
    | false =>
      simp only [Bool.false_eq_true, if_false, Bool.not_false, Bool.true_and]
      cases (!txtZ v.text && !(v.kind == 3)) with
      | true => rfl
      | false =>
        simp only [Bool.false_eq_true, if_false, Bool.not_false, Bool.true_and]
        cases (!(v.day == 0) && !(v.kind == 4)) with
        | true => rfl
        | false =>
          simp only [Bool.false_eq_true, if_false, Bool.not_false, Bool.true_and]
          cases (!((v.names.length : Int) == 0) && !(v.kind == 6)) with
          | true =>
            simp only [if_true, Option.bind_some, Bool.not_true, Bool.and_false]
          | false =>
            simp only [Bool.false_eq_true, if_false, Bool.not_false, Bool.and_true, Option.bind_some]
            cases (v.kind == 5) <;> cases (v.kind == 6) <;> cases ((v.list.length : Int) == 0) <;> rfl
theorem rbare_eq (v : Val) : tariffref07_bare v = some (bareB v) := by
  have hz : (v.num.neg == false && (v.num.coef.hi == 0 && (v.num.coef.lo == 0 && true) && (v.num.scale == 0 && true))) = decZ v.num := rfl
  have ht : (v.text.data.toList == (ByteArray.mk #[]).data.toList) = txtZ v.text := rfl
  unfold tariffref07_bare bareB
  rw [hz, ht]
  simp only [andO, orO, Option.bind_some, Bool.and_assoc]
end Go.EvT
end
section
set_option maxRecDepth 100000
namespace Go.EvT
open Go.Ev Go Go.Lib
theorem vbare_some (v : Val) : ∃ b, value_bare v = some b := by
  unfold value_bare
  simp only [andO, orO, Option.bind_some]
  cases (v.yes && (v.kind != 1)) with
  | true => exact ⟨_, rfl⟩
  | false =>
    simp only [Bool.false_eq_true, if_false]
    cases (!(v.num.neg == false && (v.num.coef.hi == 0 && (v.num.coef.lo == 0 && true) && (v.num.scale == 0 && true))) && (v.kind != 2)) with
    | true => exact ⟨_, rfl⟩
    | false =>
      simp only [Bool.false_eq_true, if_false]
      split
      · exact ⟨_, rfl⟩
      · split
        · exact ⟨_, rfl⟩
        · split
          · exact ⟨_, rfl⟩
          · exact ⟨_, rfl⟩
theorem bare_names {v : Val} (h : bareB v = true) (h6 : v.kind ≠ 6) : v.names = [] := by
  unfold bareB at h
  simp only [Bool.and_eq_true, Bool.or_eq_true, beq_iff_eq] at h
  have := h.2.2.2.2.2
  rcases this with h | h
  · exact absurd h h6
  · exact List.length_eq_zero_iff.1 (by omega)
def sB (v : Val) : Bool := selfB v && namesB v.names
theorem sB_not6 {v : Val} {x : Bool} (h6 : v.kind ≠ 6) (hx : selfB v = (bareB v && x)) : sB v = (bareB v && x) := by
  unfold sB
  rw [hx]
  cases hb : bareB v with
  | false => rfl
  | true =>
    rw [bare_names hb h6]
    simp [namesB, nmFrom]
theorem selfB_0 {v : Val} (h : v.kind = 0 ∨ v.kind = 1 ∨ v.kind = 5) : selfB v = (bareB v && true) := by
  unfold selfB
  rcases h with h | h | h <;> rw [h] <;> simp
theorem selfB_2 {v : Val} (h : v.kind = 2) : selfB v = (bareB v && v.num.form) := by
  unfold selfB
  rw [h]
  simp
theorem selfB_3 {v : Val} (h : v.kind = 3) : selfB v = (bareB v && (validText v.text && decide ((v.text.size : Int) ≤ 1000))) := by
  unfold selfB
  rw [h]
  simp
theorem selfB_4 {v : Val} (h : v.kind = 4) : selfB v = (bareB v && (decide (v.day ≥ 1) && decide (v.day ≤ 3652059))) := by
  unfold selfB
  rw [h]
  simp
theorem selfB_6 {v : Val} (h : v.kind = 6) : selfB v = (bareB v && ((v.names.length : Int) == (v.list.length : Int))) := by
  unfold selfB
  rw [h]
  simp
theorem selfB_out {v : Val} (h : ¬ (0 ≤ v.kind ∧ v.kind ≤ 6)) : selfB v = false := by
  unfold selfB
  have : (decide (0 ≤ v.kind) && decide (v.kind ≤ 6)) = false := by
    rw [Bool.and_eq_false_iff]
    simp only [decide_eq_false_iff_not]
    omega
  rw [this]
  rfl
theorem vshape_ok (B : Nat) (hB : B ≤ 2000000) : ∀ (K : Nat) (v : Val), vsz v + B + 2000 ≤ K → K ≤ 100000000 → VGood B v → value_shape K v = some ((vdep v : Int), vok v)
  | 0, v, h, _, _ => by omega
  | K + 1, v, h, hK, hg => by
    have hv := vsz_eq v
    have hlen := vszL_len v.list
    rw [VGood_eq] at hg
    obtain ⟨g1, g2, g3, g4⟩ := hg
    have loop : ∀ (r : List Val) (n i : Nat) (b : Bool) (d : Nat), v.list.drop i = r → r.length < n → i ≤ v.list.length → d ≤ 100000000 → value_shape.l17 (value_shape K) K v.list (v.list.length : Int) n b (d : Int) (i : Int) = some ((b && vokL r), ((max d (vdepL r) : Nat) : Int)) := by
      intro r
      induction r with
      | nil =>
        intro n i b d hd hn hi hdb
        have hl := congrArg List.length hd
        simp at hl
        obtain ⟨n, rfl⟩ : ∃ m, n = m + 1 := ⟨n - 1, by simp at hn; omega⟩
        unfold value_shape.l17
        have e1 : decide ((i : Int) < (v.list.length : Int)) = false := decide_eq_false (by omega)
        rw [e1, vokL_nil, vdepL_nil]
        simp
      | cons e r ih =>
        intro n i b d hd hn hi hdb
        have hl := congrArg List.length hd
        simp at hl
        have he : v.list[i]? = some e := by
          have := congrArg (fun l => l[0]?) hd
          simpa using this
        have hd' : v.list.drop (i + 1) = r := by
          have := congrArg List.tail hd
          simpa using this
        obtain ⟨n, rfl⟩ : ∃ m, n = m + 1 := ⟨n - 1, by simp at hn; omega⟩
        have hme := vsz_mem (List.mem_of_getElem? he)
        have hde := vdep_le (vsz e) e (Nat.le_refl _)
        unfold value_shape.l17
        have e1 : decide ((i : Int) < (v.list.length : Int)) = true := decide_eq_true (by omega)
        rw [e1, if_pos rfl, idx_nat, he]
        simp only [Option.bind_some]
        rw [vshape_ok B hB K e (by omega) (by omega) (VGoodL_mem g4 (List.mem_of_getElem? he))]
        simp only [Option.bind_some]
        have eb : ((if b = true then some (vok e) else some false) : Option Bool) = some (b && vok e) := by cases b <;> rfl
        have em : (if (vdep e : Int) > (d : Int) then (vdep e : Int) else (d : Int)) = ((max d (vdep e) : Nat) : Int) := by
          split <;> omega
        rw [eb, em]
        simp only [Option.bind_some]
        rw [i64_small (by omega) (by omega), show (i : Int) + 1 = ((i + 1 : Nat) : Int) by omega]
        rw [ih n (i + 1) (b && vok e) (max d (vdep e)) hd' (by simp at hn; omega) (by omega) (by omega), vokL_cons, vdepL_cons, Bool.and_assoc, Nat.max_assoc]
    obtain ⟨r1, hr1⟩ := vbare_some v
    unfold value_shape
    have key : ∀ (A : Option (Bool × Val)), A = some (sB v, v) → (A.bind fun j12 => (value_shape.l17 (value_shape K) K j12.2.list (j12.2.list.length : Int) K j12.1 (0 : Int) (0 : Int)).bind fun x16 => some ((IntKind.wrap .i64 (x16.2 + (1 : Int))), x16.1)) = some ((vdep v : Int), vok v) := by
      intro A hA
      rw [hA]
      simp only [Option.bind_some]
      have hl := loop v.list K 0 (sB v) 0 rfl (by omega) (Nat.zero_le _) (Nat.zero_le _)
      have hl' : value_shape.l17 (value_shape K) K v.list (v.list.length : Int) K (sB v) (0 : Int) (0 : Int) = _ := hl
      rw [hl']
      have hdl := vdep_le (vsz v) v (Nat.le_refl _)
      have hde := vdep_eq v
      simp only [Option.bind_some, Nat.zero_max]
      rw [i64_small (by omega) (by omega), vok_eq, hde]
      unfold sB
      rw [Bool.and_assoc]
      rfl
    rw [hr1]
    simp only [Option.bind_some]
    refine key _ ?_
    by_cases hk : 0 ≤ v.kind ∧ v.kind ≤ 6
    · have hb := vbare_eq v hk.1 hk.2
      rw [hr1] at hb
      rw [Option.some.inj hb]
      have hkk : v.kind = 0 ∨ v.kind = 1 ∨ v.kind = 5 ∨ v.kind = 2 ∨ v.kind = 3 ∨ v.kind = 4 ∨ v.kind = 6 := by omega
      rcases hkk with h | h | h | h | h | h | h
      · rw [sB_not6 (by omega) (selfB_0 (.inl h)), h, Bool.and_true]; rfl
      · rw [sB_not6 (by omega) (selfB_0 (.inr (.inl h))), h, Bool.and_true]; rfl
      · rw [sB_not6 (by omega) (selfB_0 (.inr (.inr h))), h, Bool.and_true]; rfl
      · rw [sB_not6 (by omega) (selfB_2 h), h]
        simp only [show ((2 : Int) == 0) = false from rfl, show ((2 : Int) == 1) = false from rfl, show ((2 : Int) == 5) = false from rfl, show ((2 : Int) == 2) = true from rfl, Bool.false_eq_true, if_false, if_true]
        cases bareB v with
        | false => rfl
        | true =>
          simp only [if_true]
          rw [form_eq K (by omega) v.num g1]
          simp
      · rw [sB_not6 (by omega) (selfB_3 h), h]
        simp only [show ((3 : Int) == 0) = false from rfl, show ((3 : Int) == 1) = false from rfl, show ((3 : Int) == 5) = false from rfl, show ((3 : Int) == 2) = false from rfl, show ((3 : Int) == 3) = true from rfl, Bool.false_eq_true, if_false, if_true]
        have hval : chars_Valid v.text = some (validText v.text) := by
          rw [valids_same (v.text.size + 10) v.text (by omega) (Nat.le_refl _), rvalid_eq (v.text.size + 10) v.text (by omega) (Nat.le_refl _)]
        cases bareB v with
        | false => rfl
        | true =>
          simp only [if_true, Option.bind_some]
          cases decide ((v.text.size : Int) ≤ 1000) with
          | false => simp
          | true => simp [hval]
      · rw [sB_not6 (by omega) (selfB_4 h), h]
        simp only [show ((4 : Int) == 0) = false from rfl, show ((4 : Int) == 1) = false from rfl, show ((4 : Int) == 5) = false from rfl, show ((4 : Int) == 2) = false from rfl, show ((4 : Int) == 3) = false from rfl, show ((4 : Int) == 4) = true from rfl, Bool.false_eq_true, if_false, if_true]
        cases bareB v <;> cases decide (v.day ≥ 1) <;> simp
      · unfold sB
        rw [selfB_6 h, h]
        simp only [show ((6 : Int) == 0) = false from rfl, show ((6 : Int) == 1) = false from rfl, show ((6 : Int) == 5) = false from rfl, show ((6 : Int) == 2) = false from rfl, show ((6 : Int) == 3) = false from rfl, show ((6 : Int) == 4) = false from rfl, show ((6 : Int) == 6) = true from rfl, Bool.false_eq_true, if_false, if_true]
        cases bareB v with
        | false => rfl
        | true =>
          simp only [if_true, Option.bind_some, Bool.true_and]
          cases ((v.names.length : Int) == (v.list.length : Int)) with
          | false => rfl
          | true =>
            simp only [if_true]
            rw [vnames_eq K (by omega) v.names (by omega) (by omega)]
            simp
    · have hs : sB v = false := by unfold sB; rw [selfB_out hk]; rfl
      have n0 : (v.kind == 0) = false := by rw [beq_eq_false_iff_ne]; omega
      have n1 : (v.kind == 1) = false := by rw [beq_eq_false_iff_ne]; omega
      have n2 : (v.kind == 2) = false := by rw [beq_eq_false_iff_ne]; omega
      have n3 : (v.kind == 3) = false := by rw [beq_eq_false_iff_ne]; omega
      have n4 : (v.kind == 4) = false := by rw [beq_eq_false_iff_ne]; omega
      have n5 : (v.kind == 5) = false := by rw [beq_eq_false_iff_ne]; omega
      have n6 : (v.kind == 6) = false := by rw [beq_eq_false_iff_ne]; omega
      rw [hs, n0, n1, n2, n3, n4, n5, n6]
      rfl
theorem rdepth_ok : ∀ (K : Nat) (v : Val), vsz v + 10 ≤ K → K ≤ 100000000 → tariffref07_depth K v = some (vdep v : Int)
  | 0, v, h, _ => by omega
  | K + 1, v, h, hK => by
    have hv := vsz_eq v
    have hlen := vszL_len v.list
    have loop : ∀ (r : List Val) (n i d : Nat), v.list.drop i = r → r.length < n → i ≤ v.list.length → d ≤ 100000000 → tariffref07_depth.l3 (tariffref07_depth K) K v n (d : Int) (i : Int) = some ((max d (vdepL r) : Nat) : Int) := by
      intro r
      induction r with
      | nil =>
        intro n i d hd hn hi hdb
        have hl := congrArg List.length hd
        simp at hl
        obtain ⟨n, rfl⟩ : ∃ m, n = m + 1 := ⟨n - 1, by simp at hn; omega⟩
        unfold tariffref07_depth.l3
        have e1 : decide ((i : Int) < (v.list.length : Int)) = false := decide_eq_false (by omega)
        rw [e1, vdepL_nil]
        simp
      | cons e r ih =>
        intro n i d hd hn hi hdb
        have hl := congrArg List.length hd
        simp at hl
        have he : v.list[i]? = some e := by
          have := congrArg (fun l => l[0]?) hd
          simpa using this
        have hd' : v.list.drop (i + 1) = r := by
          have := congrArg List.tail hd
          simpa using this
        obtain ⟨n, rfl⟩ : ∃ m, n = m + 1 := ⟨n - 1, by simp at hn; omega⟩
        have hme := vsz_mem (List.mem_of_getElem? he)
        have hde := vdep_le (vsz e) e (Nat.le_refl _)
        unfold tariffref07_depth.l3
        have e1 : decide ((i : Int) < (v.list.length : Int)) = true := decide_eq_true (by omega)
        rw [e1, if_pos rfl, idx_nat, he]
        simp only [Option.bind_some]
        rw [rdepth_ok K e (by omega) (by omega)]
        simp only [Option.bind_some]
        have em : (if (vdep e : Int) > (d : Int) then (vdep e : Int) else (d : Int)) = ((max d (vdep e) : Nat) : Int) := by
          split <;> omega
        rw [em, i64_small (by omega) (by omega), show (i : Int) + 1 = ((i + 1 : Nat) : Int) by omega]
        rw [ih n (i + 1) (max d (vdep e)) hd' (by simp at hn; omega) (by omega) (by omega), vdepL_cons, Nat.max_assoc]
    unfold tariffref07_depth
    have hl' : tariffref07_depth.l3 (tariffref07_depth K) K v K (0 : Int) (0 : Int) = _ := loop v.list K 0 0 rfl (by omega) (Nat.zero_le _) (Nat.zero_le _)
    have hdl := vdep_le (vsz v) v (Nat.le_refl _)
    have hde := vdep_eq v
    rw [hl']
    simp only [Option.bind_some, Nat.zero_max]
    rw [i64_small (by omega) (by omega), hde]
    rfl
theorem rform_ok (B : Nat) (hB : B ≤ 2000000) : ∀ (K : Nat) (v : Val), vsz v + B + 2000 ≤ K → K ≤ 100000000 → VGood B v → tariffref07_form K v = some (vok v)
  | 0, v, h, _, _ => by omega
  | K + 1, v, h, hK, hg => by
    have hv := vsz_eq v
    have hlen := vszL_len v.list
    rw [VGood_eq] at hg
    obtain ⟨g1, g2, g3, g4⟩ := hg
    have loop : ∀ (r : List Val) (n i : Nat), v.list.drop i = r → r.length < n → i ≤ v.list.length → tariffref07_form.l18 (tariffref07_form K) K v n (i : Int) = some (if vokL r = true then .go () else .ret false) := by
      intro r
      induction r with
      | nil =>
        intro n i hd hn hi
        have hl := congrArg List.length hd
        simp at hl
        obtain ⟨n, rfl⟩ : ∃ m, n = m + 1 := ⟨n - 1, by simp at hn; omega⟩
        unfold tariffref07_form.l18
        have e1 : decide ((i : Int) < (v.list.length : Int)) = false := decide_eq_false (by omega)
        rw [e1, vokL_nil]
        rfl
      | cons e r ih =>
        intro n i hd hn hi
        have hl := congrArg List.length hd
        simp at hl
        have he : v.list[i]? = some e := by
          have := congrArg (fun l => l[0]?) hd
          simpa using this
        have hd' : v.list.drop (i + 1) = r := by
          have := congrArg List.tail hd
          simpa using this
        obtain ⟨n, rfl⟩ : ∃ m, n = m + 1 := ⟨n - 1, by simp at hn; omega⟩
        have hme := vsz_mem (List.mem_of_getElem? he)
        unfold tariffref07_form.l18
        have e1 : decide ((i : Int) < (v.list.length : Int)) = true := decide_eq_true (by omega)
        rw [e1, if_pos rfl, idx_nat, he]
        simp only [Option.bind_some]
        rw [rform_ok B hB K e (by omega) (by omega) (VGoodL_mem g4 (List.mem_of_getElem? he)), vokL_cons]
        simp only [Option.bind_some]
        cases vok e with
        | false => rfl
        | true =>
          simp only [Bool.not_true, Bool.false_eq_true, if_false, Bool.true_and]
          rw [i64_small (by omega) (by omega), show (i : Int) + 1 = ((i + 1 : Nat) : Int) by omega]
          exact ih n (i + 1) hd' (by simp at hn; omega) (by omega)
    have h8 : tariffref07_form.l8 (tariffref07_form K) K K (0 : Int) v = some (if namesB v.names = true then .go v else .ret false) := rnames_out K (by omega) (tariffref07_form K) v (by omega) (by omega) v.names.length K 0 rfl (by omega) (Nat.zero_le _)
    have h18 : tariffref07_form.l18 (tariffref07_form K) K v K (0 : Int) = some (if vokL v.list = true then .go () else .ret false) := loop v.list K 0 rfl (by omega) (Nat.zero_le _)
    unfold tariffref07_form
    rw [rbare_eq v, rform_eq K (by omega) v.num g1, rvalid_eq K v.text (by omega) (by omega), show tariffref03_Is v.day = some (decide (v.day ≥ 1) && decide (v.day ≤ 3652059)) from by unfold tariffref03_Is; cases decide (v.day ≥ 1) <;> simp]
    simp only [Option.bind_some]
    rw [h8, vok_eq]
    have c6 : ((v.names.length : Int) != (v.list.length : Int)) = !((v.names.length : Int) == (v.list.length : Int)) := rfl
    have cs : decide ((v.text.size : Int) > 1000) = !decide ((v.text.size : Int) ≤ 1000) := by
      rw [Bool.eq_iff_iff]
      simp only [decide_eq_true_eq, Bool.not_eq_true', decide_eq_false_iff_not]
      omega
    have ck : ((if decide (v.kind < 0) = false then some (decide (v.kind > 6)) else some true) : Option Bool) = some (!(decide (0 ≤ v.kind) && decide (v.kind ≤ 6))) := by
      rw [orO]
      refine congrArg some ?_
      rw [Bool.eq_iff_iff]
      simp only [Bool.or_eq_true, decide_eq_true_eq, Bool.not_eq_true', Bool.and_eq_false_iff, decide_eq_false_iff_not]
      omega
    rw [ck, c6, cs]
    simp only [Option.bind_some, orO, andO]
    have hfin : ∀ (X : Option (Fl Val Bool)), X = some (if namesB v.names = true then .go v else .ret false) → (X.bind fun o => (match o with
        | .go x20 => (tariffref07_form.l18 (tariffref07_form K) K x20 K (0 : Int)).bind fun o => (match o with
          | .go x24 => some true
          | .ret x25 => some x25)
        | .ret x21 => some x21)) = some (namesB v.names && vokL v.list) := by
      intro X hX
      rw [hX]
      cases namesB v.names with
      | false => rfl
      | true =>
        simp only [if_true, Option.bind_some, Bool.true_and]
        rw [h18]
        cases vokL v.list <;> rfl
    obtain ⟨R, hR⟩ : ∃ R, R = (namesB v.names && vokL v.list) := ⟨_, rfl⟩
    have hfin := hfin _ rfl
    simp only [Option.bind_some] at hfin
    rw [← hR] at hfin ⊢
    unfold selfB
    cases (decide (0 ≤ v.kind) && decide (v.kind ≤ 6)) with
    | false => rfl
    | true =>
      simp only [Bool.not_true, Bool.false_or, Bool.true_and]
      cases bareB v with
      | false => rfl
      | true =>
        simp only [Bool.not_true, Bool.true_and, Bool.false_eq_true, if_false]
        cases (v.kind == 2) <;> cases v.num.form <;> (try simp only [Bool.not_true, Bool.not_false, Bool.true_and, Bool.false_and, Bool.true_or, Bool.false_or, Bool.and_true, Bool.and_false, Bool.false_eq_true, if_false, if_true]) <;>
        cases (v.kind == 3) <;> cases validText v.text <;> (try simp only [Bool.not_true, Bool.not_false, Bool.true_and, Bool.false_and, Bool.true_or, Bool.false_or, Bool.and_true, Bool.and_false, Bool.false_eq_true, if_false, if_true]) <;>
        cases decide ((v.text.size : Int) ≤ 1000) <;> (try simp only [Bool.not_true, Bool.not_false, Bool.true_and, Bool.false_and, Bool.true_or, Bool.false_or, Bool.and_true, Bool.and_false, Bool.false_eq_true, if_false, if_true]) <;>
        cases (v.kind == 4) <;> cases (decide (v.day ≥ 1) && decide (v.day ≤ 3652059)) <;> (try simp only [Bool.not_true, Bool.not_false, Bool.true_and, Bool.false_and, Bool.true_or, Bool.false_or, Bool.and_true, Bool.and_false, Bool.false_eq_true, if_false, if_true]) <;>
        cases (v.kind == 6) <;> cases ((v.names.length : Int) == (v.list.length : Int)) <;> first | rfl | exact hfin
def vcheck (v : Val) : Int := if vsz v > 1000 then 6 else if vdep v > 16 then 7 else if vok v = true then 0 else 2
theorem vCheck_eq (B : Nat) (hB : B ≤ 2000000) (K : Nat) (v : Val) (hs : vsz v ≤ 2000000) (h : 11000000 ≤ K) (hK : K ≤ 100000000) (hg : VGood B v) : value_Check K v = some (vcheck v) := by
  obtain ⟨r, r1, r2, r3, r4⟩ := vcount_ok K v 1000 (by omega) hK (by decide) (by decide)
  unfold value_Check vcheck
  rw [r1]
  simp only [Option.bind_some]
  have e : decide (r > 1000) = decide (vsz v > 1000) := by
    rw [Bool.eq_iff_iff]
    simp only [decide_eq_true_eq]
    constructor
    · intro h; omega
    · intro h
      rcases Decidable.em (r ≤ 1000) with hh | hh
      · have := r4 hh; omega
      · omega
  rw [e]
  by_cases h1 : vsz v > 1000
  · rw [if_pos (decide_eq_true h1), if_pos h1]
  · rw [if_neg (by simpa using h1), if_neg h1, vshape_ok B hB K v (by omega) hK hg]
    simp only [Option.bind_some]
    have e2 : decide ((vdep v : Int) > 16) = decide (vdep v > 16) := by
      rw [Bool.eq_iff_iff]
      simp only [decide_eq_true_eq]
      omega
    rw [e2]
    by_cases h2 : vdep v > 16
    · rw [if_pos (decide_eq_true h2), if_pos h2]
    · rw [if_neg (by simpa using h2), if_neg h2]
      cases vok v <;> rfl
theorem rCheck_eq (B : Nat) (hB : B ≤ 2000000) (K : Nat) (v : Val) (hs : vsz v ≤ 2000000) (h : 11000000 ≤ K) (hK : K ≤ 100000000) (hg : VGood B v) : tariffref07_Check K v = some (vcheck v) := by
  obtain ⟨r, r1, r2, r4⟩ := rcount_ok K h v (by omega) 1000 (by decide)
  unfold tariffref07_Check vcheck
  rw [r1]
  simp only [Option.bind_some]
  have e : decide (r > 1000) = decide (vsz v > 1000) := by
    rw [Bool.eq_iff_iff]
    simp only [decide_eq_true_eq]
    constructor
    · intro h; omega
    · intro h
      rcases Decidable.em (r ≤ 1000) with hh | hh
      · have := r4 hh; omega
      · omega
  rw [e]
  by_cases h1 : vsz v > 1000
  · rw [if_pos (decide_eq_true h1), if_pos h1]
  · rw [if_neg (by simpa using h1), if_neg h1, rdepth_ok K v (by omega) hK]
    simp only [Option.bind_some]
    have e2 : decide ((vdep v : Int) > 16) = decide (vdep v > 16) := by
      rw [Bool.eq_iff_iff]
      simp only [decide_eq_true_eq]
      omega
    rw [e2]
    by_cases h2 : vdep v > 16
    · rw [if_pos (decide_eq_true h2), if_pos h2]
    · rw [if_neg (by simpa using h2), if_neg h2, rform_ok B hB K v (by omega) hK hg]
      cases vok v <;> rfl
end Go.EvT
end
section
set_option maxRecDepth 100000
namespace Go.EvT
open Go.Ev Go Go.Lib
structure Good (B : Nat) (v : Val) : Prop where
  ok : vcheck v = 0
  good : VGood B v
  size : vsz v ≤ 2000000
theorem Good.vok {B : Nat} {v : Val} (h : Good B v) : vok v = true := by
  have := h.ok
  unfold vcheck at this
  split at this
  · cases this
  · split at this
    · cases this
    · split at this
      · assumption
      · cases this
theorem Good.self {B : Nat} {v : Val} (h : Good B v) : selfB v = true := by
  have := h.vok
  rw [vok_eq] at this
  simp only [Bool.and_eq_true] at this
  exact this.1
theorem Good.bare {B : Nat} {v : Val} (h : Good B v) : bareB v = true := by
  have := h.self
  unfold selfB at this
  simp only [Bool.and_eq_true] at this
  exact this.2.1
theorem Good.form {B : Nat} {v : Val} (h : Good B v) (hk : v.kind = 2) : v.num.form = true := by
  have := h.self
  rw [selfB_2 hk] at this
  simp only [Bool.and_eq_true] at this
  exact this.2
theorem Good.coef {B : Nat} {v : Val} (h : Good B v) : v.num.coef.Ok := by
  have := h.good
  rw [VGood_eq] at this
  exact this.1
theorem Good.flat {B : Nat} {v : Val} (h : Good B v) (hk : v.kind < 5) : v.list = [] ∧ v.names = [] := by
  refine ⟨?_, bare_names h.bare (by omega)⟩
  have := h.bare
  unfold bareB at this
  simp only [Bool.and_eq_true, Bool.or_eq_true, beq_iff_eq, decide_eq_true_eq] at this
  rcases this.2.2.2.2.1 with h | h
  · omega
  · exact List.length_eq_zero_iff.1 (by omega)
theorem checks2 {B : Nat} (hB : B ≤ 2000000) {K : Nat} (h : 11000000 ≤ K) (hK : K ≤ 100000000) {a b : Val} (ha : Good B a) (hb : Good B b) : value_checks K [a, b] = some 0 := by
  unfold value_checks
  have hl : value_checks.l2 K [a, b] (([a, b] : List Val).length : Int) K (0 : Int) = some (.go ()) := by
    have ca := vCheck_eq B hB K a ha.size h hK ha.good
    have cb := vCheck_eq B hB K b hb.size h hK hb.good
    rw [ha.ok] at ca
    rw [hb.ok] at cb
    obtain ⟨k, hk⟩ : ∃ k, K = k + 3 := ⟨K - 3, by omega⟩
    rw [show value_checks.l2 K [a, b] (([a, b] : List Val).length : Int) K (0 : Int) = value_checks.l2 K [a, b] (([a, b] : List Val).length : Int) (k + 3) (0 : Int) by rw [← hk]]
    unfold value_checks.l2
    rw [show idx [a, b] (0 : Int) = some a from rfl]
    simp only [Option.bind_some]
    rw [ca]
    unfold value_checks.l2
    rw [show idx [a, b] (IntKind.i64.wrap ((0 : Int) + 1)) = some b from rfl]
    simp only [Option.bind_some]
    rw [cb]
    rfl
  rw [hl]
  rfl
def lessV (a b : Val) : Val := if a.kind ≠ b.kind then nilV else if a.kind = 2 then truthV (decide (cmpI (dsg a.num) (dsg b.num) < 0)) else if a.kind = 3 then truthV (lessB a.text.data.toList b.text.data.toList) else if a.kind = 4 then truthV (decide (a.day < b.day)) else nilV
theorem lessV_ne {a b : Val} (h : a.kind ≠ b.kind) : lessV a b = nilV := by unfold lessV; rw [if_pos h]
theorem lessV_2 {a b : Val} (h : a.kind = b.kind) (h2 : a.kind = 2) : lessV a b = truthV (decide (cmpI (dsg a.num) (dsg b.num) < 0)) := by unfold lessV; rw [if_neg (by simpa using h), if_pos h2]
theorem lessV_3 {a b : Val} (h : a.kind = b.kind) (h3 : a.kind = 3) : lessV a b = truthV (lessB a.text.data.toList b.text.data.toList) := by unfold lessV; rw [if_neg (by simpa using h), if_neg (by omega), if_pos h3]
theorem lessV_4 {a b : Val} (h : a.kind = b.kind) (h4 : a.kind = 4) : lessV a b = truthV (decide (a.day < b.day)) := by unfold lessV; rw [if_neg (by simpa using h), if_neg (by omega), if_neg (by omega), if_pos h4]
theorem lessV_0 {a b : Val} (h : a.kind = b.kind) (h2 : a.kind ≠ 2) (h3 : a.kind ≠ 3) (h4 : a.kind ≠ 4) : lessV a b = nilV := by unfold lessV; rw [if_neg (by simpa using h), if_neg h2, if_neg h3, if_neg h4]
theorem less_same {B : Nat} (hB : B ≤ 2000000) {K : Nat} (h : 11000000 ≤ K) (hK : K ≤ 100000000) {a b : Val} (ha : Good B a) (hb : Good B b) : unary_less K a b = some (lessV a b) ∧ tariffref07_Less K a b = some (lessV a b) := by
  unfold unary_less value_Less tariffref07_Less
  rw [checks2 hB h hK ha hb]
  simp only [Option.bind_some, show ((0 : Int) != 0) = false from rfl, Bool.false_eq_true, if_false]
  by_cases hk : a.kind = b.kind
  · have e : (a.kind != b.kind) = false := by simpa using hk
    rw [e]
    simp only [Bool.false_eq_true, if_false]
    by_cases h2 : a.kind = 2
    · have e2 : (a.kind == 2) = true := by simpa using h2
      have fa := ha.form h2
      have fb := hb.form (by omega)
      rw [e2, lessV_2 hk h2]
      simp only [if_true]
      rw [cmp_eq K (by omega) a.num b.num ha.coef hb.coef fa fb, rorder_eq K (by omega) a.num b.num ha.coef hb.coef fa fb]
      exact ⟨rfl, rfl⟩
    · have e2 : (a.kind == 2) = false := by simpa using h2
      rw [e2]
      simp only [Bool.false_eq_true, if_false]
      by_cases h3 : a.kind = 3
      · have e3 : (a.kind == 3) = true := by simpa using h3
        rw [e3, lessV_3 hk h3]
        exact ⟨rfl, rfl⟩
      · have e3 : (a.kind == 3) = false := by simpa using h3
        rw [e3]
        simp only [Bool.false_eq_true, if_false]
        by_cases h4 : a.kind = 4
        · have e4 : (a.kind == 4) = true := by simpa using h4
          rw [e4, lessV_4 hk h4]
          exact ⟨rfl, rfl⟩
        · have e4 : (a.kind == 4) = false := by simpa using h4
          rw [e4, lessV_0 hk h2 h3 h4]
          exact ⟨rfl, rfl⟩
  · have e : (a.kind != b.kind) = true := by simpa using hk
    rw [e, lessV_ne hk]
    exact ⟨rfl, rfl⟩
def Tri (y : Val) : Prop := y = nilV ∨ ∃ b, y = truthV b
theorem tri_less (a b : Val) : Tri (lessV a b) := by
  unfold lessV
  split
  · exact .inl rfl
  · split
    · exact .inr ⟨_, rfl⟩
    · split
      · exact .inr ⟨_, rfl⟩
      · split
        · exact .inr ⟨_, rfl⟩
        · exact .inl rfl
def numEqB (a b : Dec) : Bool := (a.neg == b.neg) && (((a.coef.hi == b.coef.hi) && ((a.coef.lo == b.coef.lo) && true)) && ((a.scale == b.scale) && true))
def alikeB (a b : Val) : Bool := (a.yes == b.yes) && (numEqB a.num b.num && ((a.text.data.toList == b.text.data.toList) && (a.day == b.day)))
def equalV (a b : Val) : Val := if a.kind = 0 then truthV false else if a.kind ≠ b.kind then nilV else truthV (alikeB a b)
theorem tri_equal (a b : Val) : Tri (equalV a b) := by
  unfold equalV
  split
  · exact .inr ⟨_, rfl⟩
  · split
    · exact .inl rfl
    · exact .inr ⟨_, rfl⟩
theorem equalV_0 {a b : Val} (h : a.kind = 0) : equalV a b = truthV false := by unfold equalV; rw [if_pos h]
theorem equalV_ne {a b : Val} (h0 : a.kind ≠ 0) (h : a.kind ≠ b.kind) : equalV a b = nilV := by unfold equalV; rw [if_neg h0, if_pos h]
theorem equalV_eq {a b : Val} (h0 : a.kind ≠ 0) (h : a.kind = b.kind) : equalV a b = truthV (alikeB a b) := by unfold equalV; rw [if_neg h0, if_neg (by simpa using h)]
theorem equal_same {B : Nat} (hB : B ≤ 2000000) {K : Nat} (h : 11000000 ≤ K) (hK : K ≤ 100000000) {a b : Val} (ha : Good B a) (hb : Good B b) (k1 : 1 ≤ b.kind) (k4 : b.kind ≤ 4) : (∃ e, value_Equal K a b = some (equalV a b, e)) ∧ tariffref07_Equal K a b = some (equalV a b) := by
  obtain ⟨k, rfl⟩ : ∃ k, K = k + 3 := ⟨K - 3, by omega⟩
  have b0 : (b.kind == 0) = false := by rw [beq_eq_false_iff_ne]; omega
  unfold value_Equal
  rw [checks2 hB h hK ha hb]
  simp only [Option.bind_some, show ((0 : Int) != 0) = false from rfl, Bool.false_eq_true, if_false]
  rw [show k + 3 = (k + 2) + 1 from rfl]
  unfold value_equal tariffref07_Equal
  rw [b0]
  by_cases h0 : a.kind = 0
  · have e0 : (a.kind == 0) = true := by simpa using h0
    have ek : (a.kind == b.kind) = false := by rw [beq_eq_false_iff_ne]; omega
    rw [e0, ek, equalV_0 h0]
    exact ⟨⟨0, rfl⟩, rfl⟩
  · have e0 : (a.kind == 0) = false := by simpa using h0
    rw [e0]
    simp only [if_true, Option.bind_some, Bool.false_eq_true, if_false]
    by_cases hk : a.kind = b.kind
    · have ek : (a.kind != b.kind) = false := by simpa using hk
      have e5 : (a.kind != 5) = true := by simp; omega
      have e6 : (a.kind != 6) = true := by simp; omega
      have l5 : decide (a.kind < 5) = true := decide_eq_true (by omega)
      have fa := ha.flat (by omega)
      have fb := hb.flat (by omega)
      rw [ek, e5, e6, l5, equalV_eq h0 hk]
      simp only [if_true, Option.bind_some, Bool.false_eq_true, if_false]
      have eke : (a.kind == b.kind) = true := by simpa using hk
      have hal : value_alike (k + 2) a b = some (alikeB a b) := by
        rw [show k + 2 = (k + 1) + 1 from rfl]
        unfold value_alike alikeB
        have s1 : slices_Equal (k + 1) a.names b.names = some true := by rw [fa.2, fb.2]; rfl
        have s2 : slices_EqualFunc_value_alike (value_alike (k + 1)) (k + 1) a.list b.list = some true := by rw [fa.1, fb.1]; rfl
        rw [eke, s1, s2]
        unfold numEqB
        simp only [if_true, Option.bind_some, andO, Bool.and_assoc, Bool.and_true]
      have hsm : tariffref07_Same (k + 2) a b = some (alikeB a b) := by
        rw [show k + 2 = (k + 1) + 1 from rfl]
        unfold tariffref07_Same
        have s1 : ((a.list.length : Int) != (b.list.length : Int)) = false := by rw [fa.1, fb.1]; rfl
        have s2 : ((a.names.length : Int) != (b.names.length : Int)) = false := by rw [fa.2, fb.2]; rfl
        have cd : (a.day != b.day) = !(a.day == b.day) := rfl
        have hn : ((a.num.neg == b.num.neg) && (((a.num.coef.hi == b.num.coef.hi) && ((a.num.coef.lo == b.num.coef.lo) && true)) && ((a.num.scale == b.num.scale) && true))) = numEqB a.num b.num := rfl
        have q1 : tariffref07_Same.l4 (tariffref07_Same (k + 1)) (k + 1) a b (k + 1) (0 : Int) = some (.go (a, b)) := by
          unfold tariffref07_Same.l4
          rw [fa.2]
          rfl
        have q2 : tariffref07_Same.l9 (tariffref07_Same (k + 1)) (k + 1) a b (k + 1) (0 : Int) = some (.go ()) := by
          unfold tariffref07_Same.l9
          rw [fa.1]
          rfl
        have hb4 : (((!(a.yes == b.yes) || !numEqB a.num b.num) || !(a.text.data.toList == b.text.data.toList)) || !(a.day == b.day)) = !alikeB a b := by
          unfold alikeB
          cases (a.yes == b.yes) <;> cases numEqB a.num b.num <;> cases (a.text.data.toList == b.text.data.toList) <;> cases (a.day == b.day) <;> rfl
        rw [ek, s1, s2, cd, hn]
        simp only [orO, Option.bind_some, Bool.false_or, Bool.or_false, if_true]
        rw [hb4, q1]
        simp only [Option.bind_some]
        rw [q2]
        cases alikeB a b <;> rfl
      rw [hal, hsm]
      exact ⟨⟨0, rfl⟩, rfl⟩
    · have ek : (a.kind != b.kind) = true := by simpa using hk
      rw [ek, equalV_ne h0 hk]
      exact ⟨⟨0, rfl⟩, rfl⟩
def notV (y : Val) : Val := if y.kind = 1 then truthV (!y.yes) else nilV
def andV (a b : Val) : Val := if (a.kind = 1 ∧ a.yes = false) ∨ (b.kind = 1 ∧ b.yes = false) then truthV false else if a.kind = 1 ∧ b.kind = 1 then truthV true else nilV
def orV (a b : Val) : Val := notV (andV (notV a) (notV b))
theorem tri_not {y : Val} (h : Tri y) : Tri (notV y) := by
  rcases h with rfl | ⟨b, rfl⟩
  · exact .inl rfl
  · exact .inr ⟨_, rfl⟩
theorem tri_and (a b : Val) : Tri (andV a b) := by
  unfold andV
  split
  · exact .inr ⟨_, rfl⟩
  · split
    · exact .inr ⟨_, rfl⟩
    · exact .inl rfl
theorem tri_or (a b : Val) : Tri (orV a b) := tri_not (tri_and _ _)
theorem not_same (k : Nat) {y : Val} (h : Tri y) : unary_not (k + 20) y = some (notV y) ∧ tariffref07_Not y = some (notV y) := by
  rcases h with rfl | ⟨b, rfl⟩
  · exact ⟨by kernel_rfl, by kernel_rfl⟩
  · cases b
    · exact ⟨by kernel_rfl, by kernel_rfl⟩
    · exact ⟨by kernel_rfl, by kernel_rfl⟩
theorem and_same (k : Nat) {a b : Val} (ha : Tri a) (hb : Tri b) : value_And (k + 20) a b = some (andV a b, 0) ∧ tariffref07_And (k + 20) a b = some (andV a b) := by
  rcases ha with rfl | ⟨x, rfl⟩ <;> rcases hb with rfl | ⟨y, rfl⟩
  · exact ⟨by kernel_rfl, by kernel_rfl⟩
  · cases y <;> exact ⟨by kernel_rfl, by kernel_rfl⟩
  · cases x <;> exact ⟨by kernel_rfl, by kernel_rfl⟩
  · cases x <;> cases y <;> exact ⟨by kernel_rfl, by kernel_rfl⟩
theorem or_same (k : Nat) {a b : Val} (ha : Tri a) (hb : Tri b) : value_Or (k + 20) a b = some (orV a b, 0) ∧ tariffref07_Or (k + 20) a b = some (orV a b) := by
  rcases ha with rfl | ⟨x, rfl⟩ <;> rcases hb with rfl | ⟨y, rfl⟩
  · exact ⟨by kernel_rfl, by kernel_rfl⟩
  · cases y <;> exact ⟨by kernel_rfl, by kernel_rfl⟩
  · cases x <;> exact ⟨by kernel_rfl, by kernel_rfl⟩
  · cases x <;> cases y <;> exact ⟨by kernel_rfl, by kernel_rfl⟩
structure LitOk (B : Nat) (l : Val) : Prop where
  good : Good B l
  k1 : 1 ≤ l.kind
  k4 : l.kind ≤ 4
def byteN (s : ByteArray) (i : Nat) : Nat := ((s.data.toList[i]?).getD 0).toNat
def testV (x : Node) (v : Val) (l : List Val) : Val :=
  if x.op = 35 then andV (if byteN x.text 0 = 91 then notV (lessV v (l.headD nilV)) else lessV (l.headD nilV) v) (if byteN x.text 1 = 93 then notV (lessV (l.tail.headD nilV) v) else lessV v (l.tail.headD nilV))
  else if x.op = 30 then equalV v (l.headD nilV)
  else if x.op = 31 then lessV v (l.headD nilV)
  else if x.op = 32 then notV (lessV (l.headD nilV) v)
  else if x.op = 33 then lessV (l.headD nilV) v
  else notV (lessV v (l.headD nilV))
theorem test_same {B : Nat} (hB : B ≤ 2000000) {K : Nat} (h : 11000100 ≤ K) (hK : K ≤ 100000000) (x : Node) (v : Val) (l : List Val) (h1 : 30 ≤ x.op) (h2 : x.op ≤ 35) (hv : Good B v) (hl : ∀ y ∈ l, LitOk B y) (hlen : (l.length : Int) = if x.op = 35 then 2 else 1) (hsp : x.op = 35 → spanB x.text = true) :
    Tri (testV x v l) ∧ unary_test K x v l = some (testV x v l) ∧ tariffref12_One K x v l = some (testV x v l) := by
  obtain ⟨k, rfl⟩ : ∃ k, K = k + 20 := ⟨K - 20, by omega⟩
  have hless : ∀ {a b : Val}, Good B a → Good B b → unary_less (k + 20) a b = some (lessV a b) ∧ tariffref07_Less (k + 20) a b = some (lessV a b) := fun ha hb => less_same hB (by omega) hK ha hb
  have cases6 : x.op = 30 ∨ x.op = 31 ∨ x.op = 32 ∨ x.op = 33 ∨ x.op = 34 ∨ x.op = 35 := by omega
  by_cases h35 : x.op = 35
  · rw [if_pos h35] at hlen
    obtain ⟨l0, l1, rfl⟩ : ∃ l0 l1, l = [l0, l1] := by
      rcases l with _ | ⟨a, _ | ⟨b, _ | ⟨c, r⟩⟩⟩
      · simp at hlen
      · simp at hlen
      · exact ⟨a, b, rfl⟩
      · simp only [List.length_cons] at hlen; omega
    have g0 := (hl l0 (by simp)).good
    have g1 := (hl l1 (by simp)).good
    obtain ⟨a1, a2⟩ := hless g0 hv
    obtain ⟨b1, b2⟩ := hless hv g1
    obtain ⟨c1, c2⟩ := hless hv g0
    obtain ⟨d1, d2⟩ := hless g1 hv
    obtain ⟨n1, n2⟩ := not_same k (tri_less v l0)
    obtain ⟨m1, m2⟩ := not_same k (tri_less l1 v)
    have i0 : idx [l0, l1] (0 : Int) = some l0 := rfl
    have i1 : idx [l0, l1] (1 : Int) = some l1 := rfl
    have key : ∀ p q : UInt8, x.text.data.toList = [p, q] → Tri (testV x v [l0, l1]) ∧ unary_test (k + 20) x v [l0, l1] = some (testV x v [l0, l1]) ∧ tariffref12_One (k + 20) x v [l0, l1] = some (testV x v [l0, l1]) := by
      intro p q ht
      have htv : testV x v [l0, l1] = andV (if ((p.toNat : Int) == 91) = true then notV (lessV v l0) else lessV l0 v) (if ((q.toNat : Int) == 93) = true then notV (lessV l1 v) else lessV v l1) := by
        unfold testV
        rw [if_pos h35]
        have b0 : byteN x.text 0 = p.toNat := by unfold byteN; rw [ht]; rfl
        have b1 : byteN x.text 1 = q.toNat := by unfold byteN; rw [ht]; rfl
        have c0 : (byteN x.text 0 = 91) ↔ (((p.toNat : Int) == 91) = true) := by rw [b0, beq_iff_eq]; omega
        have c1 : (byteN x.text 1 = 93) ↔ (((q.toNat : Int) == 93) = true) := by rw [b1, beq_iff_eq]; omega
        simp only [c0, c1]
        rfl
      rw [htv]
      have t0 : idx x.text.data.toList (0 : Int) = some p := by rw [ht]; rfl
      have t1 : idx x.text.data.toList (1 : Int) = some q := by rw [ht]; rfl
      refine ⟨tri_and _ _, ?_, ?_⟩
      · unfold unary_test
        rw [h35]
        simp only [show ((35 : Int) == 30) = false from rfl, show ((35 : Int) == 31) = false from rfl, show ((35 : Int) == 32) = false from rfl, show ((35 : Int) == 33) = false from rfl, show ((35 : Int) == 34) = false from rfl, Bool.false_eq_true, if_false, i0, i1, Option.bind_some, a1, b1, c1, t0, n1]
        cases hp : ((p.toNat : Int) == 91) <;> cases hq : ((q.toNat : Int) == 93) <;> simp only [Bool.false_eq_true, if_false, if_true, Option.bind_some, t1, hq, i1, d1, m1]
        · rw [(and_same k (tri_less _ _) (tri_less _ _)).1]; rfl
        · rw [(and_same k (tri_less _ _) (tri_not (tri_less _ _))).1]; rfl
        · rw [(and_same k (tri_not (tri_less _ _)) (tri_less _ _)).1]; rfl
        · rw [(and_same k (tri_not (tri_less _ _)) (tri_not (tri_less _ _))).1]; rfl
      · unfold tariffref12_One
        rw [h35]
        simp only [show ((35 : Int) == 30) = false from rfl, show ((35 : Int) == 31) = false from rfl, show ((35 : Int) == 32) = false from rfl, show ((35 : Int) == 33) = false from rfl, show ((35 : Int) == 34) = false from rfl, Bool.false_eq_true, if_false, i0, i1, Option.bind_some, a2, b2, c2, t0, n2]
        cases hp : ((p.toNat : Int) == 91) <;> cases hq : ((q.toNat : Int) == 93) <;> simp only [Bool.false_eq_true, if_false, if_true, Option.bind_some, t1, hq, i1, d2, m2]
        · rw [(and_same k (tri_less _ _) (tri_less _ _)).2]; rfl
        · rw [(and_same k (tri_less _ _) (tri_not (tri_less _ _))).2]; rfl
        · rw [(and_same k (tri_not (tri_less _ _)) (tri_less _ _)).2]; rfl
        · rw [(and_same k (tri_not (tri_less _ _)) (tri_not (tri_less _ _))).2]; rfl
    have hs := hsp h35
    unfold spanB at hs
    simp only [Bool.or_eq_true, beq_iff_eq] at hs
    rcases hs with ((hs | hs) | hs) | hs <;> exact key _ _ hs
  · rw [if_neg h35] at hlen
    obtain ⟨l0, rfl⟩ : ∃ l0, l = [l0] := by
      rcases l with _ | ⟨a, _ | ⟨b, r⟩⟩
      · simp at hlen
      · exact ⟨a, rfl⟩
      · simp only [List.length_cons] at hlen; omega
    have hl0 := hl l0 (by simp)
    have g0 := hl0.good
    obtain ⟨a1, a2⟩ := hless g0 hv
    obtain ⟨c1, c2⟩ := hless hv g0
    obtain ⟨n1, n2⟩ := not_same k (tri_less v l0)
    obtain ⟨m1, m2⟩ := not_same k (tri_less l0 v)
    obtain ⟨⟨e, q1⟩, q2⟩ := equal_same hB (show 11000000 ≤ k + 20 by omega) hK hv g0 hl0.k1 hl0.k4
    have i0 : idx [l0] (0 : Int) = some l0 := rfl
    unfold unary_test tariffref12_One
    rcases cases6 with h | h | h | h | h | h
    · have htv : testV x v [l0] = equalV v l0 := by unfold testV; rw [h]; rfl
      rw [htv]
      refine ⟨tri_equal _ _, ?_, ?_⟩ <;> rw [h] <;> simp only [show ((30 : Int) == 30) = true from rfl, if_true, i0, Option.bind_some, q1, q2]
    · have htv : testV x v [l0] = lessV v l0 := by unfold testV; rw [h]; rfl
      rw [htv]
      refine ⟨tri_less _ _, ?_, ?_⟩ <;> rw [h] <;> simp only [show ((31 : Int) == 30) = false from rfl, show ((31 : Int) == 31) = true from rfl, Bool.false_eq_true, if_false, if_true, i0, Option.bind_some, c1, c2]
    · have htv : testV x v [l0] = notV (lessV l0 v) := by unfold testV; rw [h]; rfl
      rw [htv]
      refine ⟨tri_not (tri_less _ _), ?_, ?_⟩ <;> rw [h] <;> simp only [show ((32 : Int) == 30) = false from rfl, show ((32 : Int) == 31) = false from rfl, show ((32 : Int) == 32) = true from rfl, Bool.false_eq_true, if_false, if_true, i0, Option.bind_some, a1, a2, m1, m2]
    · have htv : testV x v [l0] = lessV l0 v := by unfold testV; rw [h]; rfl
      rw [htv]
      refine ⟨tri_less _ _, ?_, ?_⟩ <;> rw [h] <;> simp only [show ((33 : Int) == 30) = false from rfl, show ((33 : Int) == 31) = false from rfl, show ((33 : Int) == 32) = false from rfl, show ((33 : Int) == 33) = true from rfl, Bool.false_eq_true, if_false, if_true, i0, Option.bind_some, a1, a2]
    · have htv : testV x v [l0] = notV (lessV v l0) := by unfold testV; rw [h]; rfl
      rw [htv]
      refine ⟨tri_not (tri_less _ _), ?_, ?_⟩ <;> rw [h] <;> simp only [show ((34 : Int) == 30) = false from rfl, show ((34 : Int) == 31) = false from rfl, show ((34 : Int) == 32) = false from rfl, show ((34 : Int) == 33) = false from rfl, show ((34 : Int) == 34) = true from rfl, Bool.false_eq_true, if_false, if_true, i0, Option.bind_some, c1, c2, n1, n2]
    · exact absurd h h35
end Go.EvT
end
section
set_option maxRecDepth 100000
namespace Go.EvT
open Go.Ev Go Go.Lib
theorem flip_form {d : Dec} (hd : d.coef.Ok) (hf : d.form = true) : (flipD d).form = true := by
  obtain ⟨⟨h1, _⟩, h2, _⟩ := hd
  unfold Dec.form flipD at *
  simp only [Bool.and_eq_true, decide_eq_true_eq] at hf ⊢
  refine ⟨hf.1, ?_⟩
  have hf2 := hf.2
  by_cases hz : d.coef.val = 0
  · rw [if_pos hz] at hf2 ⊢
    have e1 : d.coef.hi = 0 ∧ d.coef.lo = 0 := by unfold Wide.val at hz; omega
    simp only [Bool.and_eq_true] at hf2 ⊢
    rw [e1.1, e1.2]
    exact ⟨by simp, hf2.2⟩
  · rw [if_neg hz] at hf2 ⊢
    exact hf2
theorem flat_sz (a : Int) (b : Bool) (c : Dec) (d : ByteArray) (e : Int) (n : List ByteArray) : vsz ⟨a, b, c, d, e, [], n⟩ = 1 ∧ vdep ⟨a, b, c, d, e, [], n⟩ = 1 := by
  rw [vsz_eq, vdep_eq]
  simp only [vszL_nil, vdepL_nil]
  exact ⟨trivial, trivial⟩
theorem flat_good {B : Nat} (hB : 1000 ≤ B) {a : Int} {b : Bool} {c : Dec} {d : ByteArray} {e : Int} (hc : c.coef.Ok) (hd : d.size ≤ B) (hs : selfB ⟨a, b, c, d, e, [], []⟩ = true) : Good B ⟨a, b, c, d, e, [], []⟩ := by
  obtain ⟨h1, h2⟩ := flat_sz a b c d e []
  refine ⟨?_, ?_, by omega⟩
  · unfold vcheck
    rw [h1, h2, if_neg (by decide), if_neg (by decide), if_pos]
    rw [vok_eq, hs]
    simp only [vokL_nil]
    rfl
  · rw [VGood_eq]
    refine ⟨hc, hd, Nat.zero_le _, ?_⟩
    show VGoodL B []
    rw [VGoodL]
    trivial
theorem zero_ok : (⟨0, 0⟩ : Wide).Ok := ⟨⟨by decide, by decide⟩, by decide, by decide⟩
theorem lit_num {B : Nat} (hB : 1000 ≤ B) {d : Dec} (hd : d.coef.Ok) (hf : d.form = true) : LitOk B (numV d) := ⟨flat_good hB hd (Nat.zero_le _) (by rw [selfB_2 rfl]; show (true && d.form) = true; rw [hf]; rfl), show (1 : Int) ≤ 2 by decide, show (2 : Int) ≤ 4 by decide⟩
theorem lit_text {B : Nat} (hB : 1000 ≤ B) {s : ByteArray} (h1 : validText s = true) (h2 : (s.size : Int) ≤ 1000) : LitOk B (textV s) := ⟨flat_good hB zero_ok (by omega) (by rw [selfB_3 rfl]; show (true && (validText s && decide ((s.size : Int) ≤ 1000))) = true; rw [h1, decide_eq_true h2]; rfl), show (1 : Int) ≤ 3 by decide, show (3 : Int) ≤ 4 by decide⟩
theorem lit_day {B : Nat} (hB : 1000 ≤ B) {d : Int} (h1 : 1 ≤ d) (h2 : d ≤ 3652059) : LitOk B (dayV d) := ⟨flat_good hB zero_ok (Nat.zero_le _) (by rw [selfB_4 rfl]; show (true && (decide (d ≥ 1) && decide (d ≤ 3652059))) = true; rw [decide_eq_true h1, decide_eq_true h2]; rfl), show (1 : Int) ≤ 4 by decide, show (4 : Int) ≤ 4 by decide⟩
theorem lit_truth {B : Nat} (hB : 1000 ≤ B) (b : Bool) : LitOk B (truthV b) := ⟨flat_good hB zero_ok (Nat.zero_le _) (by rw [selfB_0 (.inr (.inl rfl))]; cases b <;> rfl), by show (1 : Int) ≤ 1; decide, by show (1 : Int) ≤ 4; decide⟩
theorem litV_ok {B : Nat} (hB : 1000 ≤ B) {v0 : List Node} {P : List (List Nat)} (hc : Chk v0 P) (hok : ∀ n ∈ v0, NodeOk n) {q : Nat} (hq : litB v0 q = true) : LitOk B (litV v0 q) := by
  unfold litB at hq
  unfold litV
  cases hx : v0[q]? with
  | none => rw [hx] at hq; cases hq
  | some x =>
    rw [hx] at hq
    simp only at hq ⊢
    have hfx := hc.fld q x hx
    have hnx := hok x (List.mem_of_getElem? hx)
    by_cases h8 : x.op = 8
    · have l5 : lit5 x = false := by unfold lit5; rw [h8]; rfl
      rw [l5] at hq
      simp only [Bool.false_or, Bool.and_eq_true, beq_iff_eq] at hq
      obtain ⟨h1, _⟩ := neg_part hc hx h8
      obtain ⟨p, hp⟩ : ∃ p, v0[q - 1]? = some p := ⟨_, List.getElem?_eq_getElem (by have := getElem?_lt hx; omega)⟩
      rw [opAt_eq hp] at hq
      rw [if_pos h8, hp]
      simp only
      rw [if_pos hq.2]
      have hfp := hc.fld _ p hp
      unfold fieldsB at hfp
      rw [if_pos hq.2] at hfp
      simp only [Bool.and_eq_true] at hfp
      have hnp := hok p (List.mem_of_getElem? hp)
      exact lit_num hB (d := flipD p.num) hnp.coef (flip_form hnp.coef hfp.1.1)
    · have e8 : (x.op == 8) = false := by simpa using h8
      rw [e8, Bool.false_and, Bool.or_false] at hq
      rw [if_neg h8]
      unfold lit5 at hq
      simp only [Bool.or_eq_true, beq_iff_eq] at hq
      unfold litX
      unfold fieldsB at hfx
      rcases hq with h | h | h | h | h
      · rw [if_pos h]; exact lit_truth hB true
      · rw [if_neg (by omega), if_pos h]; exact lit_truth hB false
      · rw [if_neg (by omega), if_neg (by omega), if_pos h]
        rw [if_pos h] at hfx
        simp only [Bool.and_eq_true] at hfx
        exact lit_num hB hnx.coef hfx.1.1
      · rw [if_neg (by omega), if_neg (by omega), if_neg (by omega), if_pos h]
        rw [if_neg (by omega), if_pos h] at hfx
        simp only [Bool.and_eq_true, decide_eq_true_eq] at hfx
        exact lit_text hB hfx.1.1 hfx.1.2
      · rw [if_neg (by omega), if_neg (by omega), if_neg (by omega), if_neg (by omega), if_pos h]
        rw [if_neg (by omega), if_neg (by omega), if_pos h] at hfx
        simp only [Bool.and_eq_true, decide_eq_true_eq] at hfx
        exact lit_day hB hfx.1.1 hfx.1.2
def Says (v0 : List Node) (P : List (List Nat)) (v : Val) (q : Nat) (y : Val) : Prop := Tri y ∧ ∀ k, q + 11003000 ≤ k → k ≤ 100000000 → tariffref12_says k v0 (P.map ints) (q : Int) v = some y
def orF : Val → List Val → Val
  | t, [] => t
  | t, y :: l => orF (orV t y) l
theorem tri_orF : ∀ (l : List Val) (t : Val), Tri t → Tri (orF t l)
  | [], t, h => h
  | y :: l, t, h => tri_orF l _ (tri_or _ _)
theorem orAll_eq (k : Nat) : ∀ (l : List Val) (t : Val), Tri t → (∀ y ∈ l, Tri y) → orAll (k + 20) t l = some (orF t l)
  | [], t, _, _ => rfl
  | y :: l, t, ht, hl => by
    simp only [orAll, orF]
    rw [(or_same k ht (hl y List.mem_cons_self)).1]
    exact orAll_eq k l (orV t y) (tri_or _ _) fun z hz => hl z (List.mem_cons_of_mem _ hz)
theorem says_some (k : Nat) (v0 : List Node) (P : List (List Nat)) (q : Nat) (v b8 : Val) (ps : List Nat) (ys : List Val) (hps : P[q]? = some ps) (hl : ps.length ≤ 1000) (hys : ys.length = ps.length) (hk : 11003000 + q ≤ k + 20 + 1) (hk2 : k + 20 ≤ 100000000) (hq : ∀ p ∈ ps, p < q)
    (hsay : ∀ (j : Nat) p y, ps[j]? = some p → ys[j]? = some y → Says v0 P v p y) : ∀ (m n j : Nat) (t : Val), m = ps.length - j → m < n → j ≤ ps.length → Tri t →
    tariffref12_says.l10 (tariffref12_says (k + 20)) (k + 20) v0 (P.map ints) (q : Int) v b8 n (j : Int) t = some (b8, orF t (ys.drop j))
  | _, 0, _, _, _, h, _, _ => by omega
  | 0, n + 1, j, t, hm, _, hj, ht => by
    have hPi : (P.map ints)[q]? = some (ints ps) := by rw [List.getElem?_map, hps]; rfl
    unfold tariffref12_says.l10
    rw [idx_nat, hPi]
    simp only [Option.bind_some]
    have e1 : decide ((j : Int) < ((ints ps).length : Int)) = false := decide_eq_false (by unfold ints; rw [List.length_map]; omega)
    rw [e1, List.drop_eq_nil_of_le (by omega)]
    rfl
  | m + 1, n + 1, j, t, hm, hmn, hj, ht => by
    have hPi : (P.map ints)[q]? = some (ints ps) := by rw [List.getElem?_map, hps]; rfl
    obtain ⟨p, hp⟩ : ∃ p, ps[j]? = some p := ⟨_, List.getElem?_eq_getElem (by omega)⟩
    obtain ⟨y, hy⟩ : ∃ y, ys[j]? = some y := ⟨_, List.getElem?_eq_getElem (by omega)⟩
    have hpi : (ints ps)[j]? = some (p : Int) := by unfold ints; rw [List.getElem?_map, hp]; rfl
    have hpq := hq p (List.mem_of_getElem? hp)
    obtain ⟨s1, s2⟩ := hsay j p y hp hy
    unfold tariffref12_says.l10
    rw [idx_nat, hPi]
    simp only [Option.bind_some]
    have e1 : decide ((j : Int) < ((ints ps).length : Int)) = true := decide_eq_true (by unfold ints; rw [List.length_map]; omega)
    rw [e1, if_pos rfl, idx_nat, hpi]
    simp only [Option.bind_some]
    rw [s2 (k + 20) (by omega) hk2]
    simp only [Option.bind_some]
    rw [(or_same k ht s1).2, drop_cons hy]
    simp only [Option.bind_some, orF]
    rw [i64_small (by omega) (by omega), show (j : Int) + 1 = ((j + 1 : Nat) : Int) by omega]
    exact says_some k v0 P q v b8 ps ys hps hl hys hk hk2 hq hsay m n (j + 1) _ (by omega) (by omega) (by omega) (tri_or _ _)
theorem says_lits (f : List Node → List (List Int) → Int → Val → Option Val) (k : Nat) (v0 : List Node) (P : List (List Nat)) (q : Nat) (v b8 : Val) (b9 : Node) (ps : List Nat) (hps : P[q]? = some ps) (hl : ps.length ≤ 1000) (hlit : ∀ p ∈ ps, tariffref12_literal v0 (P.map ints) (p : Int) = some (litV v0 p, litB v0 p)) : ∀ (m n j : Nat) (w : List Val), m = ps.length - j → m < n → j ≤ ps.length → w.length ≤ j →
    tariffref12_says.l16 f k v0 (P.map ints) (q : Int) v b8 b9 n w (j : Int) = some (w ++ (ps.drop j).map (litV v0), v, b8, b9)
  | _, 0, _, _, _, h, _, _ => by omega
  | 0, n + 1, j, w, hm, _, hj, _ => by
    have hPi : (P.map ints)[q]? = some (ints ps) := by rw [List.getElem?_map, hps]; rfl
    unfold tariffref12_says.l16
    rw [idx_nat, hPi]
    simp only [Option.bind_some]
    have e1 : decide ((j : Int) < ((ints ps).length : Int)) = false := decide_eq_false (by unfold ints; rw [List.length_map]; omega)
    rw [e1, List.drop_eq_nil_of_le (by omega)]
    simp
  | m + 1, n + 1, j, w, hm, hmn, hj, hw => by
    have hPi : (P.map ints)[q]? = some (ints ps) := by rw [List.getElem?_map, hps]; rfl
    obtain ⟨p, hp⟩ : ∃ p, ps[j]? = some p := ⟨_, List.getElem?_eq_getElem (by omega)⟩
    have hpi : (ints ps)[j]? = some (p : Int) := by unfold ints; rw [List.getElem?_map, hp]; rfl
    unfold tariffref12_says.l16
    rw [idx_nat, hPi]
    simp only [Option.bind_some]
    have e1 : decide ((j : Int) < ((ints ps).length : Int)) = true := decide_eq_true (by unfold ints; rw [List.length_map]; omega)
    rw [e1, if_pos rfl, idx_nat, hpi]
    simp only [Option.bind_some]
    rw [hlit p (List.mem_of_getElem? hp)]
    simp only [Option.bind_some]
    rw [if_pos ((room_iff _).2 (by simp only [List.length_cons, List.length_nil]; omega)), i64_small (by omega) (by omega), show (j : Int) + 1 = ((j + 1 : Nat) : Int) by omega, says_lits f k v0 P q v b8 b9 ps hps hl hlit m n (j + 1) _ (by omega) (by omega) (by omega) (by simp; omega), drop_cons hp, List.append_assoc]
    rfl
structure VR3 (v0 : List Node) (P : List (List Nat)) (v : Val) (q : Nat) (y : Val) : Prop where
  lit : opAt v0 q ≤ 27 → y = litV v0 q
  tru : 29 ≤ opAt v0 q → Says v0 P v q y
structure Rel3 (v0 : List Node) (P : List (List Nat)) (v : Val) (st : List Nat) (vs : List Val) : Prop where
  len : vs.length = st.length
  at_ : ∀ (j q : Nat) (y : Val), st[j]? = some q → vs[j]? = some y → VR3 v0 P v q y
theorem Rel3.push {v0 : List Node} {P : List (List Nat)} {v : Val} {st : List Nat} {vs : List Val} (h : Rel3 v0 P v st vs) (m : Nat) {i : Nat} {y : Val} (hy : VR3 v0 P v i y) : Rel3 v0 P v (st.take m ++ [i]) (vs.take m ++ [y]) := by
  have hl := h.len
  refine ⟨by simp [hl], fun j q z hq hz => ?_⟩
  have hml : (vs.take m).length = (st.take m).length := by simp [hl]
  rcases Nat.lt_or_ge j (st.take m).length with hj | hj
  · rw [List.getElem?_append_left hj] at hq
    rw [List.getElem?_append_left (by omega)] at hz
    have hjm : j < m := by simp at hj; omega
    rw [List.getElem?_take_of_lt hjm] at hq hz
    exact h.at_ j q z hq hz
  · rw [List.getElem?_append_right hj] at hq
    rw [List.getElem?_append_right (by omega), hml] at hz
    obtain ⟨d, hd⟩ : ∃ d, d = j - (st.take m).length := ⟨_, rfl⟩
    rw [← hd] at hq hz
    cases d with
    | zero =>
      simp at hq hz
      subst hq
      subst hz
      exact hy
    | succ d => simp at hq
theorem Rel3.drop {v0 : List Node} {P : List (List Nat)} {v : Val} {st : List Nat} {vs : List Val} (h : Rel3 v0 P v st vs) (m : Nat) : Rel3 v0 P v (st.drop m) (vs.drop m) := by
  refine ⟨by simp [h.len], fun j q y hq hy => ?_⟩
  rw [List.getElem?_drop] at hq hy
  exact h.at_ _ q y hq hy
theorem Rel3.lits {v0 : List Node} {P : List (List Nat)} {v : Val} {st : List Nat} {vs : List Val} (h : Rel3 v0 P v st vs) (ho : ∀ q ∈ st, opAt v0 q ≤ 27) : vs = st.map (litV v0) := by
  refine List.ext_getElem? fun j => ?_
  rw [List.getElem?_map]
  cases hq : st[j]? with
  | none =>
    have : st.length ≤ j := by simpa using hq
    simpa [h.len] using this
  | some q =>
    have hlt := getElem?_lt hq
    obtain ⟨y, hy⟩ : ∃ y, vs[j]? = some y := ⟨_, List.getElem?_eq_getElem (by rw [h.len]; exact hlt)⟩
    rw [hy, (h.at_ j q y hq hy).lit (ho q (List.mem_of_getElem? hq))]
    rfl
end Go.EvT
end
section
set_option maxRecDepth 100000
namespace Go.EvT
open Go.Ev Go Go.Lib
theorem test_arity {op kids : Int} (h : fitsB op kids = true) (h1 : 30 ≤ op) (h2 : op ≤ 35) : kids = if op = 35 then 2 else 1 := by
  have cases6 : op = 30 ∨ op = 31 ∨ op = 32 ∨ op = 33 ∨ op = 34 ∨ op = 35 := by omega
  rcases cases6 with rfl | rfl | rfl | rfl | rfl | rfl
  · exact kids_1 h (by decide)
  · exact kids_1 h (by decide)
  · exact kids_1 h (by decide)
  · exact kids_1 h (by decide)
  · exact kids_1 h (by decide)
  · have := arity_of h
    rw [show arity 35 = (2, 2) by decide] at this
    unfold fitB at this
    simp only [Bool.and_eq_true, decide_eq_true_eq, Bool.or_eq_true, beq_iff_eq] at this
    rw [if_pos rfl]
    omega
theorem mach_step3 (k B : Nat) (hB0 : 1000 ≤ B) (hB : B ≤ 2000000) (v0 : List Node) (P : List (List Nat)) (hc : Chk v0 P) (hok : ∀ n ∈ v0, NodeOk n) (hk : 11000200 ≤ k) (hk2 : k + 20 ≤ 100000000) (i : Nat) (x : Node) (hx : v0[i]? = some x) (st : List Nat) (kn : Nat) (hkn : x.kids = (kn : Int)) (hkl : kn ≤ st.length) (hPi : P[i]? = some (st.drop (st.length - kn))) (hst : st.length ≤ 300)
    (v : Val) (hv : Good B v) (vs es : List Val) (is : Bool) (hr : Rel3 v0 P v st vs) (he : es.length ≤ 300 * 300) (hb : (decide (x.op ≤ 28) && !litB v0 i) = false) (hnb : ∀ q, q < i → (decide (opAt v0 q ≤ 28) && !litB v0 q) = false) :
    ∃ y es' is', VR3 v0 P v i y ∧ es'.length ≤ es.length + 300 ∧ unary_machine_step (k + 20) ⟨v, vs, es, is, true⟩ x = some (true, ⟨v, vs.take (st.length - kn) ++ [y], es', is', true⟩) := by
  have hfit := hc.fit i x hx
  obtain ⟨_, o1, o2⟩ := fits_nn hfit
  have hop := opAt_eq hx
  have hil := getElem?_lt hx
  have hsm := hc.small
  obtain ⟨s, hs⟩ : ∃ s, s = vs.take (st.length - kn) := ⟨_, rfl⟩
  obtain ⟨l, hl⟩ : ∃ l, l = vs.drop (st.length - kn) := ⟨_, rfl⟩
  have hvs : vs = s ++ l := by rw [hs, hl, List.take_append_drop]
  have hvl := hr.len
  have hll : l.length = kn := by rw [hl, List.length_drop]; omega
  have hsl : (s ++ l).length ≤ 300 := by rw [← hvs]; omega
  have hrd := hr.drop (st.length - kn)
  rw [← hl] at hrd
  obtain ⟨ps, hps⟩ : ∃ ps, ps = st.drop (st.length - kn) := ⟨_, rfl⟩
  rw [← hps] at hPi hrd
  have hpl : ps.length = kn := by rw [hps, List.length_drop]; omega
  have hpq := (hc.ahead i _ hPi).2
  have hsort : ∀ q ∈ ps, 1 ≤ opAt v0 q ∧ opAt v0 q ≤ 37 ∧ ∃ j : Nat, sortI (opAt v0 q) = wantI x.op (j : Int) := fun q hq => by
    obtain ⟨j, hj⟩ := List.getElem?_of_mem hq
    have hlt := hpq q hq
    obtain ⟨w, hw⟩ : ∃ w, v0[q]? = some w := ⟨_, List.getElem?_eq_getElem (by omega)⟩
    have hwf := fits_nn (hc.fit q w hw)
    rw [opAt_eq hw]
    exact ⟨hwf.2.1, hwf.2.2, j, by rw [← opAt_eq hw]; exact hc.srt i x _ hx hPi j q hj⟩
  rw [← hs]
  have hPint : (P.map ints)[i]? = some (ints ps) := by rw [List.getElem?_map, hPi]; rfl
  by_cases h28 : x.op ≤ 28
  · have hlb : litB v0 i = true := by simpa [h28] using hb
    by_cases h8 : x.op = 8
    · obtain ⟨h1, hP8⟩ := neg_part hc hx h8
      obtain ⟨p, hp⟩ : ∃ p, v0[i - 1]? = some p := ⟨_, List.getElem?_eq_getElem (by omega)⟩
      have hp4 : p.op = 4 := by
        unfold litB at hlb
        rw [hx] at hlb
        have : lit5 x = false := by unfold lit5; rw [h8]; rfl
        simp only [this, Bool.false_or, Bool.and_eq_true, beq_iff_eq] at hlb
        rw [← opAt_eq hp]
        exact hlb.2
      have hpse : ps = [i - 1] := by rw [hPi] at hP8; exact Option.some.inj hP8
      rw [hpse] at hrd
      have hl1 : l = [numV p.num] := by
        have := hrd.lits (fun q hq => by
          have := List.mem_singleton.1 hq
          subst this
          rw [opAt_eq hp, hp4]
          decide)
        rw [this]
        simp only [List.map_cons, List.map_nil]
        unfold litV
        rw [hp]
        simp [hp4, litX]
      have hform : p.num.form = true := by
        have := hc.fld _ p hp
        unfold fieldsB at this
        rw [if_pos hp4] at this
        simp only [Bool.and_eq_true] at this
        exact this.1.1
      refine ⟨numV (flipD p.num), es, is, ⟨fun _ => ?_, fun h => by rw [hop] at h; omega⟩, by omega, ?_⟩
      · unfold litV
        rw [hx, hp]
        simp [h8, hp4]
      · rw [hvs, hl1]
        exact step_neg (k + 20) (by omega) v s es is true x h8 p.num (hok p (List.mem_of_getElem? hp)).coef hform (by simp at hsl; omega)
    · have hl5 : lit5 x = true := by
        unfold litB at hlb
        rw [hx] at hlb
        have e8 : (x.op == 8) = false := by simpa using h8
        simpa [e8] using hlb
      have hk0 : x.kids = 0 := by
        refine kids_0 hfit ?_
        unfold lit5 at hl5
        simp only [Bool.or_eq_true, beq_iff_eq] at hl5
        rcases hl5 with h | h | h | h | h <;> rw [h] <;> decide
      have hkn0 : kn = 0 := by omega
      subst hkn0
      have hl0 : l = [] := List.length_eq_zero_iff.1 hll
      refine ⟨litX x, es, is, ⟨fun _ => ?_, fun h => by rw [hop] at h; omega⟩, by omega, ?_⟩
      · unfold litV
        rw [hx]
        simp only [if_neg h8]
      · rw [hvs, hl0, List.append_nil, step_lit (k + 20) v s es is true x h28 h8 (by simp at hsl; omega), hl5]
  · have htr : ∀ {y : Val}, Says v0 P v i y → VR3 v0 P v i y := fun {y} h => ⟨fun h' => by rw [hop] at h'; omega, fun _ => h⟩
    by_cases h29 : x.op = 29
    · have hk0 : x.kids = 0 := kids_0 hfit (by rw [h29]; decide)
      have hkn0 : kn = 0 := by omega
      subst hkn0
      have hl0 : l = [] := List.length_eq_zero_iff.1 hll
      refine ⟨truthV true, es, is, htr ⟨.inr ⟨true, rfl⟩, fun j hj _ => ?_⟩, by omega, ?_⟩
      · obtain ⟨j, rfl⟩ : ∃ j', j = j' + 1 := ⟨j - 1, by omega⟩
        unfold tariffref12_says
        rw [idx_nat, hx]
        simp only [Option.bind_some]
        rw [h29]
        rfl
      · rw [hvs, hl0, List.append_nil]
        exact step_any (k + 20) v s es is true x h29 (by simp at hsl; omega)
    · by_cases h37 : x.op = 37
      · have hk0 : x.kids = 1 := kids_1 hfit (by rw [h37]; decide)
        have hkn0 : kn = 1 := by omega
        subst hkn0
        obtain ⟨y, hy⟩ := List.length_eq_one_iff.1 hll
        obtain ⟨p, hp⟩ := List.length_eq_one_iff.1 hpl
        have hpm : p ∈ ps := by rw [hp]; exact List.mem_cons_self
        obtain ⟨a1, a2, j, hj⟩ := hsort p hpm
        rw [h37] at hj
        obtain ⟨t1, t2⟩ := (hrd.at_ 0 p y (by rw [hp]; rfl) (by rw [hy]; rfl)).tru (sort_3 a1 a2 (.inr hj))
        obtain ⟨n1, n2⟩ := not_same k t1
        refine ⟨notV y, es, is, htr ⟨tri_not t1, fun j hj hj2 => ?_⟩, by omega, ?_⟩
        · obtain ⟨j, rfl⟩ : ∃ j', j = j' + 1 := ⟨j - 1, by omega⟩
          have := hpq p hpm
          unfold tariffref12_says
          rw [idx_nat, hx]
          simp only [Option.bind_some]
          rw [h37]
          simp only [show ((37 : Int) == 29) = false from rfl, show ((37 : Int) == 37) = true from rfl, Bool.false_eq_true, if_false, if_true]
          rw [idx_nat, hPint, hp]
          simp only [Option.bind_some]
          rw [show idx (ints [p]) (0 : Int) = some (p : Int) from rfl]
          simp only [Option.bind_some]
          rw [t2 j (by omega) (by omega)]
          simp only [Option.bind_some]
          rw [n2]
          rfl
        · rw [hvs, hy]
          exact step_not (k + 20) v s es is true x h37 y (notV y) n1 (by simp at hsl; omega)
      · by_cases h36 : x.op = 36
        · have hparts : ∀ (j q : Nat) (y : Val), ps[j]? = some q → l[j]? = some y → Says v0 P v q y := fun j q y hq hy => by
            obtain ⟨a1, a2, m, hm⟩ := hsort q (List.mem_of_getElem? hq)
            rw [h36] at hm
            exact (hrd.at_ j q y hq hy).tru (sort_3 a1 a2 (.inl hm))
          have htri : ∀ y ∈ l, Tri y := fun y hy => by
            obtain ⟨j, hj⟩ := List.getElem?_of_mem hy
            obtain ⟨q, hq⟩ : ∃ q, ps[j]? = some q := ⟨_, List.getElem?_eq_getElem (by have := getElem?_lt hj; omega)⟩
            exact (hparts j q y hq hj).1
          refine ⟨orF (truthV false) l, es, is, htr ⟨tri_orF l _ (.inr ⟨false, rfl⟩), fun j hj hj2 => ?_⟩, by omega, ?_⟩
          · obtain ⟨j, rfl⟩ : ∃ j', j = j' + 20 + 1 := ⟨j - 21, by omega⟩
            unfold tariffref12_says
            rw [idx_nat, hx]
            simp only [Option.bind_some]
            rw [h36]
            simp only [show ((36 : Int) == 29) = false from rfl, show ((36 : Int) == 37) = false from rfl, show ((36 : Int) == 36) = true from rfl, Bool.false_eq_true, if_false, if_true, show tariffref07_Truth false = some (truthV false) from rfl, Option.bind_some]
            have hl10 := says_some j v0 P i v nilV ps l hPi (by omega) (by omega) (by omega) (by omega) hpq hparts ps.length (j + 20) 0 (truthV false) rfl (by omega) (Nat.zero_le _) (.inr ⟨false, rfl⟩)
            rw [List.drop_zero] at hl10
            have hl10' : tariffref12_says.l10 (tariffref12_says (j + 20)) (j + 20) v0 (P.map ints) (i : Int) v (⟨(0 : Int), false, (⟨false, (⟨(0 : Int), (0 : Int)⟩ : Wide), (0 : Int)⟩ : Dec), ByteArray.empty, (0 : Int), ([] : List Val), ([] : List ByteArray)⟩ : Val) (j + 20) (0 : Int) (truthV false) = _ := hl10
            rw [hl10']
            rfl
          · rw [hvs]
            exact step_some (k + 20) v s l es is true x h36 (by rw [hkn, hll]) _ (orAll_eq k l (truthV false) (.inr ⟨false, rfl⟩) htri) (by omega) (by omega)
        · have htb : testB x.op = true := by unfold testB; simp; omega
          have hl27 : ∀ q ∈ ps, opAt v0 q ≤ 27 := fun q hq => by
            obtain ⟨a1, a2, j, hj⟩ := hsort q hq
            rw [want_test htb] at hj
            exact sort_1 a1 a2 hj
          have hl' : l = ps.map (litV v0) := hrd.lits hl27
          have hlok : ∀ y ∈ l, LitOk B y := fun y hy => by
            rw [hl'] at hy
            obtain ⟨q, hq, rfl⟩ := List.mem_map.1 hy
            refine litV_ok hB0 hc hok ?_
            have h1 := hnb q (hpq q hq)
            have h2 := hl27 q hq
            have e28 : decide (opAt v0 q ≤ 28) = true := decide_eq_true (by omega)
            rw [e28] at h1
            simpa using h1
          have hsp : x.op = 35 → spanB x.text = true := fun h => by
            have := hc.fld i x hx
            unfold fieldsB at this
            rw [if_neg (by omega), if_neg (by omega), if_neg (by omega), if_neg (by omega), if_pos h] at this
            simp only [Bool.and_eq_true] at this
            exact this.1
          have har : (l.length : Int) = if x.op = 35 then 2 else 1 := by
            rw [hll, ← hkn]
            exact test_arity hfit (by omega) (by omega)
          obtain ⟨t1, t2, _⟩ := test_same hB (show 11000100 ≤ k + 20 by omega) hk2 x v l (by omega) (by omega) hv hlok har hsp
          refine ⟨testV x v l, es ++ l, is && (x.op == 30), htr ⟨t1, fun j hj hj2 => ?_⟩, by rw [List.length_append]; omega, ?_⟩
          · obtain ⟨j, rfl⟩ : ∃ j', j = j' + 1 := ⟨j - 1, by omega⟩
            have n29 : (x.op == 29) = false := by simpa using h29
            have n37 : (x.op == 37) = false := by simpa using h37
            have n36 : (x.op == 36) = false := by simpa using h36
            unfold tariffref12_says
            rw [idx_nat, hx]
            simp only [Option.bind_some]
            rw [n29, n37, n36]
            simp only [Bool.false_eq_true, if_false]
            have hlt := says_lits (tariffref12_says j) j v0 P i v nilV x ps hPi (by omega) (fun p hp => rlit hc p (by have := hpq p hp; omega)) ps.length j 0 [] rfl (by omega) (Nat.zero_le _) (Nat.le_refl _)
            rw [List.drop_zero, List.nil_append, ← hl'] at hlt
            have hlt' : tariffref12_says.l16 (tariffref12_says j) j v0 (P.map ints) (i : Int) v (⟨(0 : Int), false, (⟨false, (⟨(0 : Int), (0 : Int)⟩ : Wide), (0 : Int)⟩ : Dec), ByteArray.empty, (0 : Int), ([] : List Val), ([] : List ByteArray)⟩ : Val) x j ([] : List Val) (0 : Int) = _ := hlt
            rw [hlt']
            simp only [Option.bind_some]
            obtain ⟨_, _, t3'⟩ := test_same hB (show 11000100 ≤ j by omega) (by omega) x v l (by omega) (by omega) hv hlok har hsp
            rw [t3']
            rfl
          · rw [hvs]
            exact step_test (k + 20) v s l es is true x (by omega) (by omega) (by rw [hkn, hll]) (testV x v l) t2 (by omega) he
end Go.EvT
end
section
set_option maxRecDepth 100000
namespace Go.EvT
open Go.Ev Go Go.Lib
theorem mach_loop3 (k B : Nat) (hB0 : 1000 ≤ B) (hB : B ≤ 2000000) (hk : 11000200 ≤ k) (hk2 : k + 20 ≤ 100000000) (v0 : List Node) (P : List (List Nat)) (hc : Chk v0 P) (hok : ∀ n ∈ v0, NodeOk n) (v : Val) (hv : Good B v) : ∀ (r : List Node) (n i : Nat) (st : List Nat) (Pi : List (List Nat)) (vs es : List Val) (is : Bool),
    v0.drop i = r → r.length < n → i ≤ v0.length → stk r i st Pi = some ([v0.length - 1], P) → Pi.length = i → st.length ≤ i → Rel3 v0 P v st vs → es.length ≤ 300 * i → (∀ q, q < i → (decide (opAt v0 q ≤ 28) && !litB v0 q) = false) →
    ∃ m, unary_machine_all.l3 (k + 20) v0 v0 (v0.length : Int) n (i : Int) ⟨v, vs, es, is, true⟩ = some (if badQ v0 r i = true then .ret (false, m) else .go m) ∧ (badQ v0 r i = false → Rel3 v0 P v [v0.length - 1] m.stack)
  | _, 0, _, _, _, _, _, _, _, h, _, _, _, _, _, _, _ => by omega
  | [], n + 1, i, st, Pi, vs, es, is, hd, _, hi, hstk, _, _, hr, _, _ => by
    have hlen := congrArg List.length hd
    simp at hlen
    simp only [stk, Option.some.injEq, Prod.mk.injEq] at hstk
    unfold unary_machine_all.l3
    have e1 : decide ((i : Int) < (v0.length : Int)) = false := by simp; omega
    rw [e1]
    refine ⟨_, rfl, fun _ => ?_⟩
    rw [← hstk.1]
    exact hr
  | x :: r, n + 1, i, st, Pi, vs, es, is, hd, hn, hi, hstk, hPi, hst, hr, he, hnb => by
    have hlen := congrArg List.length hd
    simp at hlen
    have hx : v0[i]? = some x := by
      have := congrArg (fun l => l[0]?) hd
      simpa using this
    have hd' : v0.drop (i + 1) = r := by
      have := congrArg List.tail hd
      simpa using this
    have hsm := hc.small
    have hvl := hr.len
    obtain ⟨kn, h1, h2, h3, h4, h5⟩ := stk_step hstk hPi
    cases hb : (decide (x.op ≤ 28) && !litB v0 i) with
    | true =>
      obtain ⟨m, hm⟩ := bad_step (k + 20) (by omega) v0 P hc i x hx v vs es is true (by omega) hb n
      have hbq : badQ v0 (x :: r) i = true := by simp only [badQ, hb, Bool.true_or]
      exact ⟨m, by rw [hm, hbq]; rfl, fun h => by rw [hbq] at h; cases h⟩
    | false =>
      obtain ⟨y, es', is', hy, hes, hstep⟩ := mach_step3 k B hB0 hB v0 P hc hok hk hk2 i x hx st kn h1 h2 h3 (by omega) v hv vs es is hr (by omega) hb hnb
      have hbq : badQ v0 (x :: r) i = badQ v0 r (i + 1) := by simp only [badQ, hb, Bool.false_or]
      rw [hbq]
      unfold unary_machine_all.l3
      have e1 : decide ((i : Int) < (v0.length : Int)) = true := by simp; omega
      rw [e1, if_pos rfl, idx_nat, hx]
      simp only [Option.bind_some]
      have hb3 : ((if (x.op == (8 : Int)) = true then (idx v0 (IntKind.wrap .i64 ((i : Int) - (1 : Int)))).bind fun e2 => some (e2.op != (4 : Int)) else some false) : Option Bool) = some false := by
        by_cases h8 : x.op = 8
        · obtain ⟨g1, _⟩ := neg_part hc hx h8
          obtain ⟨p, hp⟩ : ∃ p, v0[i - 1]? = some p := ⟨_, List.getElem?_eq_getElem (by omega)⟩
          have e8 : (x.op == 8) = true := by simpa using h8
          have hlb : litB v0 i = true := by
            rw [h8] at hb
            simpa using hb
          have hp4 : (p.op != 4) = false := by
            unfold litB at hlb
            rw [hx] at hlb
            have : lit5 x = false := by unfold lit5; rw [h8]; rfl
            simp only [this, Bool.false_or, Bool.and_eq_true, beq_iff_eq] at hlb
            rw [opAt_eq hp] at hlb
            simpa using hlb.2
          rw [e8, if_pos rfl, i64_small (by omega) (by omega), show (i : Int) - 1 = ((i - 1 : Nat) : Int) by omega, idx_nat, hp]
          simp only [Option.bind_some, hp4]
        · have e8 : (x.op == 8) = false := by simpa using h8
          rw [e8]
          rfl
      rw [hb3]
      simp only [Option.bind_some, if_true]
      rw [hstep]
      simp only [Option.bind_some, Bool.not_true, Bool.false_eq_true, if_false]
      rw [i64_small (by omega) (by omega), show (i : Int) + 1 = ((i + 1 : Nat) : Int) by omega]
      have hr' := hr.push (st.length - kn) hy
      exact mach_loop3 k B hB0 hB hk hk2 v0 P hc hok v hv r n (i + 1) _ _ (vs.take (st.length - kn) ++ [y]) es' is' hd' (by simp at hn; omega) (by omega) h5 (by simp [hPi]) (by simp; omega) hr' (by omega) (fun q hq => by
        rcases Nat.lt_or_ge q i with h | h
        · exact hnb q h
        · have : q = i := by omega
          subst this
          rw [opAt_eq hx]
          exact hb)
theorem match_same (K B : Nat) (hB0 : 1000 ≤ B) (hB : B ≤ 2000000) (hK : 12000000 ≤ K) (hK2 : K ≤ 100000000) (v0 : List Node) (hok : NodesOk K v0) (v : Val) (hs : vsz v ≤ 2000000) (hg : VGood B v) : ∃ y e, Flat y ∧ unary_Match K v0 v = some (y, e) ∧ tariffref12_DocMatch K v0 v = some (y, e) := by
  have hce := check_eq K v0 true hok (by omega)
  have hre := rcheck_eq K v0 true hok (by omega)
  have hnil : Flat nilV := ⟨rfl, rfl⟩
  unfold unary_Match tariffref12_DocMatch
  rw [hce, hre, vCheck_eq B hB K v hs (by omega) hK2 hg, rCheck_eq B hB K v hs (by omega) hK2 hg]
  simp only [Option.bind_some]
  by_cases he : checkV v0 true = 0
  · rw [he]
    simp only [show ((0 : Int) != 0) = false from rfl, Bool.false_eq_true, if_false]
    by_cases hv : vcheck v = 0
    · rw [hv]
      simp only [show ((0 : Int) != 0) = false from rfl, Bool.false_eq_true, if_false]
      have hgood : Good B v := ⟨hv, hg, hs⟩
      obtain ⟨P, hc⟩ := chk_of he
      have hsm := hc.small
      have hp := hc.pos
      obtain ⟨k, rfl⟩ : ∃ k, K = k + 20 := ⟨K - 20, by omega⟩
      obtain ⟨m, h1, h2⟩ := mach_loop3 k B hB0 hB (by omega) (by omega) v0 P hc (fun n hn => (hok n hn).1) v hgood v0 (k + 20) 0 [] [] [] [] true rfl (by omega) (Nat.zero_le _) hc.run rfl (Nat.le_refl _) ⟨rfl, fun j q y h => by simp at h⟩ (Nat.zero_le _) (fun q h => absurd h (by omega))
      rw [bad_eq_ok hc] at h1 h2
      have hall : unary_machine_all (k + 20) ⟨v, [], [], false, true⟩ v0 = some (okQ v0 v0 P, m) := by
        unfold unary_machine_all
        have h1' : unary_machine_all.l3 (k + 20) v0 v0 (v0.length : Int) (k + 20) (0 : Int) ⟨v, [], [], true, true⟩ = _ := h1
        simp only [h1']
        cases okQ v0 v0 P <;> rfl
      have hends := rends_eq (k + 20) v0 P hc (by omega)
      have hPl : tariffref12_Plain (k + 20) v0 = some (okQ v0 v0 P) := by
        unfold tariffref12_Plain
        rw [hends]
        cases okQ v0 v0 P <;> rfl
      rw [hall, hPl]
      simp only [Option.bind_some]
      cases ho : okQ v0 v0 P with
      | false => exact ⟨nilV, 18, hnil, rfl, rfl⟩
      | true =>
        simp only [Bool.not_true, Bool.false_eq_true, if_false]
        have hrel := h2 (by rw [ho]; rfl)
        obtain ⟨y, hy⟩ : ∃ y, m.stack = [y] := List.length_eq_one_iff.1 hrel.len
        obtain ⟨w, hw⟩ : ∃ w, v0[v0.length - 1]? = some w := ⟨_, List.getElem?_eq_getElem (by omega)⟩
        have hwf := fits_nn (hc.fit _ w hw)
        have hop : 29 ≤ opAt v0 (v0.length - 1) := by
          have hro := hc.root
          rw [opAt_eq hw] at hro ⊢
          rcases Decidable.em (w.op ≤ 28) with h | h
          · unfold rootOk at hro
            rcases sort_le hwf.2.1 hwf.2.2 h with e | e <;> rw [e] at hro <;> cases hro
          · omega
        obtain ⟨t1, t2⟩ := (hrel.at_ 0 (v0.length - 1) y rfl (by rw [hy]; rfl)).tru hop
        have hfl : Flat y := by
          rcases t1 with rfl | ⟨b, rfl⟩ <;> exact ⟨rfl, rfl⟩
        refine ⟨y, 0, hfl, ?_, ?_⟩
        · rw [hy, if_pos ⟨by omega, by simp⟩]
          rfl
        · unfold tariffref12_Match tariffref10_Places
          rw [i64_small (by omega) (by omega), stack_eq (k + 20) v0 (by omega) (by omega), hc.run]
          simp only [Option.bind_some]
          rw [show (v0.length : Int) - 1 = ((v0.length - 1 : Nat) : Int) by omega, t2 (k + 20) (by omega) hK2]
          rfl
    · have hv' : (vcheck v != 0) = true := by simpa using hv
      rw [hv']
      exact ⟨nilV, vcheck v, hnil, rfl, rfl⟩
  · have he' : (checkV v0 true != 0) = true := by simpa using he
    rw [he']
    exact ⟨nilV, checkV v0 true, hnil, rfl, rfl⟩
theorem unaryMatches_true (k B : Nat) (hB0 : 1000 ≤ B) (hB : B ≤ 2000000) (hk : 12000000 ≤ k) (hk2 : k + 60 ≤ 100000000) (v0 : List Node) (hok : NodesOk (k + 60) v0) (v : Val) (hs : vsz v ≤ 2000000) (hg : VGood B v) : tarifflaw12_UnaryMatches (k + 60) v0 v = some true := by
  obtain ⟨y, e, hf, h1, h2⟩ := match_same (k + 60) B hB0 hB (by omega) hk2 v0 hok v hs hg
  unfold tarifflaw12_UnaryMatches
  rw [known_ok]
  simp only [Option.bind_some, Bool.not_true, Bool.false_eq_true, if_false, h1, h2]
  have hsm : tariffref12_SameAll (k + 60) [y] [y] = some true := sameAll_self (k + 50) [y] (fun z hz => by
    have := List.mem_singleton.1 hz
    subst this
    exact hf) (by simp) (by simp)
  rw [hsm]
  simp
end Go.EvT
end
