/- A part of the proof in YtlpfolhckkcopaaGreatDoorApart7: lemmas and contracts; nothing is claimed here. -/
import Derived.Test.YtlpfolhckkcopaaGreatDoorApart5
set_option linter.unusedVariables false
set_option linter.unusedSimpArgs false
section
set_option maxRecDepth 100000
namespace Go.EvT
open Go.Ev Go Go.Lib
def testB (op : Int) : Bool := decide (op ≥ 30) && decide (op ≤ 35)
theorem isTest_eq (op : Int) : tariffref12_isTest op = some (testB op) := by
  unfold tariffref12_isTest testB
  cases decide (op ≥ 30) <;> simp
def endsQ (v0 : List Node) : List Node → List (List Nat) → List Val
  | [], _ => []
  | x :: r, Q => (if testB x.op = true then (Q.headD []).map (litV v0) else []) ++ endsQ v0 r Q.tail
def okQ (v0 : List Node) : List Node → List (List Nat) → Bool
  | [], _ => true
  | x :: r, Q => (!testB x.op || (Q.headD []).all (litB v0)) && okQ v0 r Q.tail
theorem okQ_cons (v0 : List Node) (x : Node) (r : List Node) (ps : List Nat) (Q : List (List Nat)) : okQ v0 (x :: r) (ps :: Q) = ((!testB x.op || ps.all (litB v0)) && okQ v0 r Q) := rfl
theorem endsQ_cons (v0 : List Node) (x : Node) (r : List Node) (ps : List Nat) (Q : List (List Nat)) : endsQ v0 (x :: r) (ps :: Q) = (if testB x.op = true then ps.map (litV v0) else []) ++ endsQ v0 r Q := rfl
theorem ends_parts (K : Nat) (v0 : List Node) (P : List (List Nat)) (i : Nat) (x : Node) (ps : List Nat) (hx : v0[i]? = some x) (hps : P[i]? = some ps) (hl : ps.length ≤ 300) (hlit : ∀ q ∈ ps, tariffref12_literal v0 (P.map ints) (q : Int) = some (litV v0 q, litB v0 q)) (ht : testB x.op = true) :
    ∀ (m n j : Nat) (w : List Val), m = ps.length - j → m < n → j ≤ ps.length → w.length ≤ 300 * 300 + j →
    tariffref12_ends.l7 K v0 (P.map ints) (i : Int) n w (j : Int) = if (ps.drop j).all (litB v0) = true then some (.go (v0, P.map ints, w ++ (ps.drop j).map (litV v0), (i : Int))) else some (.ret ([], false))
  | _, 0, _, _, _, h, _, _ => by omega
  | 0, n + 1, j, w, hm, _, hj, _ => by
    have : j = ps.length := by omega
    subst this
    unfold tariffref12_ends.l7
    have hPi : (P.map ints)[i]? = some (ints ps) := by rw [List.getElem?_map, hps]; rfl
    rw [idx_nat, hx]
    simp only [Option.bind_some]
    rw [isTest_eq, ht, idx_nat, hPi]
    simp [ints]
  | m + 1, n + 1, j, w, hm, hmn, hj, hw => by
    have hlt : j < ps.length := by omega
    obtain ⟨q, hq⟩ : ∃ q, ps[j]? = some q := ⟨_, List.getElem?_eq_getElem hlt⟩
    have hPi : (P.map ints)[i]? = some (ints ps) := by rw [List.getElem?_map, hps]; rfl
    have hqj : (ints ps)[j]? = some (q : Int) := by unfold ints; rw [List.getElem?_map, hq]; rfl
    unfold tariffref12_ends.l7
    rw [idx_nat, hx]
    simp only [Option.bind_some]
    rw [isTest_eq, ht, idx_nat, hPi]
    have e1 : decide ((j : Int) < ((ints ps).length : Int)) = true := by simp [ints]; omega
    simp only [Option.bind_some, if_true, e1]
    rw [idx_nat, hqj]
    simp only [Option.bind_some]
    rw [hlit q (List.mem_of_getElem? hq)]
    simp only [Option.bind_some]
    rw [drop_cons hq, List.all_cons, List.map_cons]
    cases hb : litB v0 q with
    | false => simp
    | true =>
      simp only [Bool.not_true, Bool.false_eq_true, if_false, Bool.true_and]
      rw [if_pos ((room_iff _).2 (by simp only [List.length_cons, List.length_nil]; omega)), i64_small (by omega) (by omega), show (j : Int) + 1 = ((j + 1 : Nat) : Int) by omega, ends_parts K v0 P i x ps hx hps hl hlit ht m n (j + 1) _ (by omega) (by omega) (by omega) (by simp; omega), List.append_assoc]
      rfl
theorem ends_loop (K : Nat) (v0 : List Node) (P : List (List Nat)) (hc : Chk v0 P) (hK : 1000 ≤ K) (hlit : ∀ (q : Nat), q < v0.length → tariffref12_literal v0 (P.map ints) (q : Int) = some (litV v0 q, litB v0 q)) :
    ∀ (r : List Node) (n i : Nat) (w : List Val), v0.drop i = r → r.length < n → i ≤ v0.length → w.length ≤ 300 * i →
    tariffref12_ends.l4 K n v0 (P.map ints) w (i : Int) = if okQ v0 r (P.drop i) = true then some (.go (w ++ endsQ v0 r (P.drop i))) else some (.ret ([], false))
  | _, 0, _, _, _, h, _, _ => by omega
  | [], n + 1, i, w, hd, _, hi, _ => by
    have hlen := congrArg List.length hd
    simp at hlen
    unfold tariffref12_ends.l4
    have e1 : decide ((i : Int) < (v0.length : Int)) = false := by simp; omega
    rw [e1]
    simp [okQ, endsQ]
  | x :: r, n + 1, i, w, hd, hn, hi, hw => by
    have hlen := congrArg List.length hd
    simp at hlen
    have hx : v0[i]? = some x := by
      have := congrArg (fun l => l[0]?) hd
      simpa using this
    have hd' : v0.drop (i + 1) = r := by
      have := congrArg List.tail hd
      simpa using this
    have hsm := hc.small
    obtain ⟨ps, hps⟩ : ∃ ps, P[i]? = some ps := ⟨_, List.getElem?_eq_getElem (by rw [hc.len]; omega)⟩
    obtain ⟨hpl, hpq⟩ := hc.ahead i ps hps
    unfold tariffref12_ends.l4
    have e1 : decide ((i : Int) < (v0.length : Int)) = true := by simp; omega
    rw [e1, if_pos rfl, drop_cons hps]
    rw [okQ_cons, endsQ_cons]
    cases ht : testB x.op with
    | true =>
      have h := ends_parts K v0 P i x ps hx hps (by omega) (fun q hq => hlit q (by have := hpq q hq; omega)) ht ps.length K 0 w (by omega) (by omega) (Nat.zero_le _) (by omega)
      rw [show ((0 : Nat) : Int) = (0 : Int) from rfl, List.drop_zero] at h
      rw [h]
      simp only [Bool.not_true, Bool.false_or, if_true]
      cases ha : ps.all (litB v0) with
      | false => simp
      | true =>
        simp only [if_true, Option.bind_some, Bool.true_and]
        rw [i64_small (by omega) (by omega), show (i : Int) + 1 = ((i + 1 : Nat) : Int) by omega, ends_loop K v0 P hc hK hlit r n (i + 1) _ hd' (by simp at hn; omega) (by omega) (by simp; omega), List.append_assoc]
    | false =>
      have h : tariffref12_ends.l7 K v0 (P.map ints) (i : Int) K w (0 : Int) = some (.go (v0, P.map ints, w, (i : Int))) := by
        obtain ⟨k, rfl⟩ : ∃ k, K = k + 1 := ⟨K - 1, by omega⟩
        unfold tariffref12_ends.l7
        rw [idx_nat, hx]
        simp only [Option.bind_some]
        rw [isTest_eq, ht]
        rfl
      rw [h]
      simp only [Bool.not_false, Bool.true_or, Bool.true_and, Option.bind_some, Bool.false_eq_true, if_false, List.nil_append]
      rw [i64_small (by omega) (by omega), show (i : Int) + 1 = ((i + 1 : Nat) : Int) by omega, ends_loop K v0 P hc hK hlit r n (i + 1) _ hd' (by simp at hn; omega) (by omega) (by omega)]
theorem stk_pre : ∀ (r : List Node) (i : Nat) (st : List Nat) (P : List (List Nat)) (st' : List Nat) (P' : List (List Nat)), stk r i st P = some (st', P') → ∃ Q, P' = P ++ Q
  | [], i, st, P, st', P', h => by
    simp only [stk, Option.some.injEq, Prod.mk.injEq] at h
    exact ⟨[], by simp [h.2]⟩
  | n :: r, i, st, P, st', P', h => by
    simp only [stk] at h
    split at h
    · obtain ⟨Q, hQ⟩ := stk_pre r _ _ _ _ _ h
      exact ⟨_, by rw [hQ, List.append_assoc]⟩
    · cases h
theorem stk_step {n : Node} {r : List Node} {i : Nat} {st : List Nat} {P : List (List Nat)} {st' : List Nat} {P' : List (List Nat)} (h : stk (n :: r) i st P = some (st', P')) (hP : P.length = i) :
    ∃ kn : Nat, n.kids = (kn : Int) ∧ kn ≤ st.length ∧ P'[i]? = some (st.drop (st.length - kn)) ∧ fitsB n.op n.kids = true ∧ stk r (i + 1) (st.take (st.length - kn) ++ [i]) (P ++ [st.drop (st.length - kn)]) = some (st', P') := by
  simp only [stk] at h
  split at h
  · rename_i hc
    simp only [Bool.and_eq_true, decide_eq_true_eq] at hc
    have k0 := (fits_nn hc.1).1
    refine ⟨n.kids.toNat, by omega, by omega, ?_, hc.1, h⟩
    obtain ⟨Q, hQ⟩ := stk_pre _ _ _ _ _ _ h
    rw [hQ, List.append_assoc, ← hP, List.getElem?_append_right (Nat.le_refl _), Nat.sub_self]
    rfl
  · cases h
theorem stk_top : ∀ (r : List Node) (i : Nat) (st : List Nat) (P : List (List Nat)) (st' : List Nat) (P' : List (List Nat)), stk r i st P = some (st', P') → P.length = i → st.length ≤ i → (0 < i → ∃ s, st = s ++ [i - 1]) →
    ∀ (m : Nat) (x : Node), r[m]? = some x → ∃ ps, P'[i + m]? = some ps ∧ (ps.length : Int) = x.kids ∧ (0 < ps.length → 0 < i + m ∧ ∃ s, ps = s ++ [i + m - 1])
  | [], _, _, _, _, _, _, _, _, _, m, x, hx => by simp at hx
  | n :: r, i, st, P, st', P', h, hP, hs, ht, m, x, hx => by
    obtain ⟨kn, hk, hkl, hPi, _, h'⟩ := stk_step h hP
    cases m with
    | zero =>
      simp only [List.getElem?_cons_zero, Option.some.injEq] at hx
      subst hx
      refine ⟨_, hPi, ?_, fun hp => ?_⟩
      · rw [hk, List.length_drop]; omega
      · rw [List.length_drop] at hp
        have h0 : 0 < i := by omega
        obtain ⟨s, rfl⟩ := ht h0
        refine ⟨h0, s.drop ((s ++ [i - 1]).length - kn), ?_⟩
        rw [List.drop_append_of_le_length (by simp at hp ⊢; omega)]
        rfl
    | succ m =>
      obtain ⟨ps, h1, h2, h3⟩ := stk_top r (i + 1) _ _ _ _ h' (by simp [hP]) (by simp; omega) (fun _ => ⟨_, rfl⟩) m x (by simpa using hx)
      rw [show i + 1 + m = i + (m + 1) by omega] at h1 h3
      exact ⟨ps, h1, h2, h3⟩
theorem arity_of {op kids : Int} (h : fitsB op kids = true) : fitB (arity op).1 (arity op).2 kids = true := by
  unfold fitsB at h
  simp only [Bool.and_eq_true] at h
  exact h.2
theorem neg_part {v0 : List Node} {P : List (List Nat)} (hc : Chk v0 P) {q : Nat} {x : Node} (hx : v0[q]? = some x) (h8 : x.op = 8) : 1 ≤ q ∧ P[q]? = some [q - 1] := by
  obtain ⟨ps, h1, h2, h3⟩ := stk_top v0 0 [] [] _ P hc.run rfl (Nat.le_refl _) (fun h => absurd h (by omega)) q x hx
  have hf := arity_of (hc.fit q x hx)
  rw [h8, show arity 8 = (1, 1) from by decide] at hf
  unfold fitB at hf
  have hk : x.kids = 1 := by
    simp only [Bool.and_eq_true, decide_eq_true_eq, Bool.or_eq_true, beq_iff_eq] at hf
    omega
  have hl : ps.length = 1 := by omega
  obtain ⟨h4, s, rfl⟩ := h3 (by omega)
  simp at hl
  subst hl
  rw [Nat.zero_add] at h1 h4
  refine ⟨by omega, ?_⟩
  rw [h1]
  rfl
theorem rlit {v0 : List Node} {P : List (List Nat)} (hc : Chk v0 P) : ∀ (q : Nat), q < v0.length → tariffref12_literal v0 (P.map ints) (q : Int) = some (litV v0 q, litB v0 q) := fun q hq => by
  obtain ⟨x, hx⟩ : ∃ x, v0[q]? = some x := ⟨_, List.getElem?_eq_getElem hq⟩
  exact rliteral_eq v0 P q x hx (neg_part hc hx)
theorem rends_eq (K : Nat) (v0 : List Node) (P : List (List Nat)) (hc : Chk v0 P) (hK : 1000 ≤ K) : tariffref12_ends K v0 = some (if okQ v0 v0 P = true then (endsQ v0 v0 P, true) else ([], false)) := by
  have hs := hc.small
  have hp := hc.pos
  unfold tariffref12_ends tariffref10_Places
  rw [i64_small (by omega) (by omega), stack_eq K v0 (by omega) (by omega), hc.run]
  simp only [Option.bind_some]
  have h := ends_loop K v0 P hc hK (rlit hc) v0 K 0 [] rfl (by omega) (Nat.zero_le _) (Nat.zero_le _)
  rw [List.drop_zero, List.nil_append] at h
  rw [show ((0 : Nat) : Int) = (0 : Int) from rfl] at h
  rw [h]
  cases okQ v0 v0 P <;> rfl
end Go.EvT
end
section
set_option maxRecDepth 100000
namespace Go.EvT
open Go.Ev Go Go.Lib
theorem push_set (s : List Val) (z v : Val) : (s ++ [z]).set ((s.length : Int)).toNat v = s ++ [v] := by
  rw [show ((s.length : Int)).toNat = s.length from rfl, List.set_append_right _ _ (Nat.le_refl _), Nat.sub_self]
  rfl
theorem push_idx (s : List Val) (z : Val) : idx (s ++ [z]) (s.length : Int) = some z := by
  rw [idx_nat, List.getElem?_append_right (Nat.le_refl _), Nat.sub_self]
  rfl
theorem push_eq {α : Type} (s : List Val) (hs : s.length ≤ 1000) (v : Val) (e : List Val → Option α) : (if room ((s.length + ([nilV] : List Val).length) * 120) then
    if 0 ≤ (s.length : Int) ∧ (s.length : Int) < ((s ++ ([nilV] : List Val)).length : Int) then
    (idx (s ++ ([nilV] : List Val)) (s.length : Int)).bind fun e6 => e ((s ++ ([nilV] : List Val)).set ((s.length : Int)).toNat v)
    else none
    else none) = e (s ++ [v]) := by
  rw [if_pos ((room_iff _).2 (by simp only [List.length_cons, List.length_nil]; omega)), if_pos ⟨by omega, by simp; omega⟩, push_idx]
  simp only [Option.bind_some]
  rw [push_set]
theorem pop_eq (v : Val) (s l es : List Val) (is a : Bool) (kids : Int) (hk : kids = (l.length : Int)) (hs : (s ++ l).length ≤ 1000) : unary_machine_pop ⟨v, s ++ l, es, is, a⟩ kids = some (l, ⟨v, s, es, is, a⟩) := by
  unfold unary_machine_pop
  have e1 : IntKind.i64.wrap (((s ++ l).length : Int) - kids) = (s.length : Int) := by
    rw [i64_small (by simp at hs ⊢; omega) (by simp at hs ⊢; omega)]
    simp; omega
  have e2 : sub (s ++ l) (s.length : Int) ((s.length : Int) + (((s ++ l).length : Int) - (s.length : Int))) = l := by
    unfold sub
    rw [show ((s.length : Int)).toNat = s.length from rfl, List.drop_left, List.take_of_length_le]
    simp
    omega
  simp only [e1, e2]
  rw [if_pos ⟨by omega, by simp; omega, by omega⟩, if_pos ((room_iff _).2 (by simp at hs ⊢; omega)), if_pos ⟨by omega, by omega, by simp; omega⟩, show ((s.length : Int)).toNat = s.length from rfl, List.take_left]
  rfl
theorem step_lit (K : Nat) (v : Val) (vs es : List Val) (is a : Bool) (x : Node) (h1 : x.op ≤ 28) (h8 : x.op ≠ 8) (hs : vs.length ≤ 1000) : unary_machine_step K ⟨v, vs, es, is, a⟩ x = some (lit5 x, ⟨v, vs ++ [litX x], es, is, a⟩) := by
  unfold unary_machine_step
  have e8 : (x.op == 8) = false := by simpa using h8
  have e29 : (x.op == 29) = false := by simp; omega
  have e37 : (x.op == 37) = false := by simp; omega
  have e36 : (x.op == 36) = false := by simp; omega
  have e30 : decide (x.op ≥ 30) = false := by simp; omega
  rw [e8, e29, e37, e36, e30, literal_eq]
  simp only [Bool.false_eq_true, if_false, Option.bind_some]
  exact push_eq vs hs (litX x) (fun l => some (lit5 x, (⟨v, l, es, is, a⟩ : unary_machine)))
theorem neg_form (K : Nat) (hK : 1000 ≤ K) (d : Dec) (hd : d.coef.Ok) (hf : d.form = true) : dec_Neg K d = some (flipD d, 0) := by
  unfold dec_Neg dec_formed
  have h : dec_formed.l2 K [d] (([d] : List Dec).length : Int) K (0 : Int) = some (.go ()) := by
    obtain ⟨k, rfl⟩ : ∃ k, K = k + 2 := ⟨K - 2, by omega⟩
    unfold dec_formed.l2
    rw [show idx [d] (0 : Int) = some d from rfl]
    simp only [Option.bind_some]
    rw [form_eq (k + 2) (by omega) d hd, hf]
    rfl
  rw [h]
  simp only [Option.bind_some]
  unfold dec_turned dec_zero flipD
  cases d.neg <;> rfl
theorem step_neg (K : Nat) (hK : 1000 ≤ K) (v : Val) (s es : List Val) (is a : Bool) (x : Node) (h8 : x.op = 8) (d : Dec) (hd : d.coef.Ok) (hf : d.form = true) (hs : s.length ≤ 1000) : unary_machine_step K ⟨v, s ++ [numV d], es, is, a⟩ x = some (true, ⟨v, s ++ [numV (flipD d)], es, is, a⟩) := by
  unfold unary_machine_step
  rw [h8]
  have e1 : (((s ++ [numV d]).length : Int) == (0 : Int)) = false := by
    rw [beq_eq_false_iff_ne, List.length_append]
    simp only [List.length_cons, List.length_nil]
    omega
  have e2 : IntKind.i64.wrap (((s ++ [numV d]).length : Int) - 1) = (s.length : Int) := by
    rw [List.length_append, i64_small (by simp only [List.length_cons, List.length_nil]; omega) (by simp only [List.length_cons, List.length_nil]; omega)]
    simp
  have e3 : 0 ≤ (s.length : Int) ∧ (s.length : Int) < ((s ++ [numV d]).length : Int) := by
    rw [List.length_append]
    simp only [List.length_cons, List.length_nil]
    omega
  simp only [e1, e2, push_idx, show ((8 : Int) == 8) = true from rfl, if_true, Option.bind_some]
  rw [if_pos e3]
  simp only [show ((numV d).kind != 2) = false from rfl, show (numV d).num = d from rfl, Bool.false_eq_true, if_false]
  rw [if_pos e3]
  rw [neg_form K hK d hd hf]
  simp only [Option.bind_some]
  rw [push_set]
  rfl
theorem step_any (K : Nat) (v : Val) (vs es : List Val) (is a : Bool) (x : Node) (h29 : x.op = 29) (hs : vs.length ≤ 1000) : unary_machine_step K ⟨v, vs, es, is, a⟩ x = some (true, ⟨v, vs ++ [truthV true], es, is, a⟩) := by
  unfold unary_machine_step
  rw [h29]
  exact push_eq vs hs (truthV true) (fun l => some (true, (⟨v, l, es, is, a⟩ : unary_machine)))
theorem step_not (K : Nat) (v : Val) (s es : List Val) (is a : Bool) (x : Node) (h37 : x.op = 37) (y z : Val) (hn : unary_not K y = some z) (hs : s.length ≤ 900) : unary_machine_step K ⟨v, s ++ [y], es, is, a⟩ x = some (true, ⟨v, s ++ [z], es, is, a⟩) := by
  unfold unary_machine_step
  rw [h37]
  simp only [show ((37 : Int) == 8) = false from rfl, show ((37 : Int) == 29) = false from rfl, show ((37 : Int) == 37) = true from rfl, Bool.false_eq_true, if_false, if_true]
  rw [pop_eq v s [y] es is a 1 rfl (by simp; omega)]
  simp only [Option.bind_some, show idx [y] (0 : Int) = some y from rfl, hn]
  exact push_eq s (by omega) z (fun l => some (true, (⟨v, l, es, is, a⟩ : unary_machine)))
theorem step_test (K : Nat) (v : Val) (s l es : List Val) (is a : Bool) (x : Node) (h1 : 30 ≤ x.op) (h2 : x.op ≤ 35) (hk : x.kids = (l.length : Int)) (t : Val) (ht : (if a = true then unary_test K x v l else some (truthV false)) = some t) (hs : (s ++ l).length ≤ 1000) (he : es.length ≤ 300 * 300) :
    unary_machine_step K ⟨v, s ++ l, es, is, a⟩ x = some (true, ⟨v, s ++ [t], es ++ l, is && (x.op == 30), a⟩) := by
  unfold unary_machine_step
  have e8 : (x.op == 8) = false := by simp; omega
  have e29 : (x.op == 29) = false := by simp; omega
  have e37 : (x.op == 37) = false := by simp; omega
  have e36 : (x.op == 36) = false := by simp; omega
  have e30 : decide (x.op ≥ 30) = true := by simp; omega
  have e35 : decide (x.op ≤ 35) = true := by simp; omega
  rw [e8, e29, e37, e36, e30, e35]
  simp only [Bool.false_eq_true, if_false, if_true, Option.bind_some]
  rw [pop_eq v s l es is a _ hk hs]
  simp only [Option.bind_some]
  simp at hs
  rw [if_pos ((room_iff _).2 (by omega))]
  have eis : ((if is = true then some (x.op == (30 : Int)) else some false) : Option Bool) = some (is && (x.op == 30)) := by cases is <;> rfl
  rw [eis]
  simp only [Option.bind_some, show unary_truth false = some (truthV false) from rfl]
  cases a with
  | true =>
    simp only [if_true] at ht ⊢
    rw [ht]
    simp only [Option.bind_some]
    exact push_eq s (by omega) t (fun l' => some (true, (⟨v, l', es ++ l, is && (x.op == 30), true⟩ : unary_machine)))
  | false =>
    simp only [Bool.false_eq_true, if_false, Option.some.injEq] at ht ⊢
    subst ht
    simp only [Option.bind_some]
    exact push_eq s (by omega) (truthV false) (fun l' => some (true, (⟨v, l', es ++ l, is && (x.op == 30), false⟩ : unary_machine)))
def orAll (K : Nat) : Val → List Val → Option Val
  | t, [] => some t
  | t, y :: l => (value_Or K t y).bind fun r => orAll K r.1 l
theorem some_loop (K : Nat) (l : List Val) (m0 : unary_machine) (hl : l.length ≤ 1000) : ∀ (m n j : Nat) (t : Val), m = l.length - j → m < n → j ≤ l.length →
    unary_machine_step.l17 K l (l.length : Int) m0 n (j : Int) t = (orAll K t (l.drop j)).map fun t => (m0, t)
  | _, 0, _, _, _, h, _ => by omega
  | 0, n + 1, j, t, hm, _, hj => by
    have : j = l.length := by omega
    subst this
    unfold unary_machine_step.l17
    simp [orAll]
  | m + 1, n + 1, j, t, hm, hmn, hj => by
    have hlt : j < l.length := by omega
    obtain ⟨x, hx⟩ : ∃ x, l[j]? = some x := ⟨_, List.getElem?_eq_getElem hlt⟩
    unfold unary_machine_step.l17
    have e1 : decide ((j : Int) < (l.length : Int)) = true := by simpa using hlt
    rw [e1, if_pos rfl, idx_nat, hx, drop_cons hx]
    simp only [Option.bind_some, orAll]
    cases hv : value_Or K t x with
    | none => rfl
    | some r =>
      simp only [Option.bind_some]
      rw [i64_small (by omega) (by omega), show (j : Int) + 1 = ((j + 1 : Nat) : Int) by omega, some_loop K l m0 hl m n (j + 1) _ (by omega) (by omega) (by omega)]
theorem step_some (K : Nat) (v : Val) (s l es : List Val) (is a : Bool) (x : Node) (h36 : x.op = 36) (hk : x.kids = (l.length : Int)) (t : Val) (ht : orAll K (truthV false) l = some t) (hs : (s ++ l).length ≤ 900) (hK : 1000 ≤ K) :
    unary_machine_step K ⟨v, s ++ l, es, is, a⟩ x = some (true, ⟨v, s ++ [t], es, is, a⟩) := by
  unfold unary_machine_step
  rw [h36]
  simp only [show ((36 : Int) == 8) = false from rfl, show ((36 : Int) == 29) = false from rfl, show ((36 : Int) == 37) = false from rfl, show ((36 : Int) == 36) = true from rfl, Bool.false_eq_true, if_false, if_true, show unary_truth false = some (truthV false) from rfl, Option.bind_some]
  rw [pop_eq v s l es is a _ hk (by omega)]
  simp only [Option.bind_some]
  simp at hs
  have h := some_loop K l ⟨v, s, es, is, a⟩ (by omega) l.length K 0 (truthV false) (by omega) (by omega) (Nat.zero_le _)
  rw [show ((0 : Nat) : Int) = (0 : Int) from rfl, List.drop_zero, ht] at h
  rw [h]
  simp only [Option.map_some, Option.bind_some]
  exact push_eq s (by omega) t (fun l => some (true, (⟨v, l, es, is, a⟩ : unary_machine)))
theorem truth_or (k : Nat) (a b : Bool) : value_Or (k + 10) (truthV a) (truthV b) = some (truthV (a || b), 0) := by cases a <;> cases b <;> kernel_rfl
theorem truth_not (k : Nat) (a : Bool) : unary_not (k + 10) (truthV a) = some (truthV (!a)) := by cases a <;> kernel_rfl
theorem truth_all (k : Nat) : ∀ (l : List Val) (a : Bool), (∀ y ∈ l, ∃ b, y = truthV b) → ∃ b, orAll (k + 10) (truthV a) l = some (truthV b)
  | [], a, _ => ⟨a, rfl⟩
  | y :: l, a, h => by
    obtain ⟨b, rfl⟩ := h y List.mem_cons_self
    obtain ⟨c, hc⟩ := truth_all k l (a || b) fun z hz => h z (List.mem_cons_of_mem _ hz)
    refine ⟨c, ?_⟩
    simp only [orAll]
    rw [truth_or]
    exact hc
end Go.EvT
end
section
set_option maxRecDepth 100000
namespace Go.EvT
open Go.Ev Go Go.Lib
theorem sort_1 {op : Int} (h1 : 1 ≤ op) (h2 : op ≤ 37) (h : sortI op = 1) : op ≤ 27 := by
  rcases in37 h1 h2 with rfl | rfl | rfl | rfl | rfl | rfl | rfl | rfl | rfl | rfl | rfl | rfl | rfl | rfl | rfl | rfl | rfl | rfl | rfl | rfl | rfl | rfl | rfl | rfl | rfl | rfl | rfl | rfl | rfl | rfl | rfl | rfl | rfl | rfl | rfl | rfl | rfl <;> revert h <;> decide
theorem sort_le {op : Int} (h1 : 1 ≤ op) (h2 : op ≤ 37) (h : op ≤ 28) : sortI op = 1 ∨ sortI op = 2 := by
  rcases in37 h1 h2 with rfl | rfl | rfl | rfl | rfl | rfl | rfl | rfl | rfl | rfl | rfl | rfl | rfl | rfl | rfl | rfl | rfl | rfl | rfl | rfl | rfl | rfl | rfl | rfl | rfl | rfl | rfl | rfl | rfl | rfl | rfl | rfl | rfl | rfl | rfl | rfl | rfl <;> revert h <;> decide
theorem sort_3 {op : Int} (h1 : 1 ≤ op) (h2 : op ≤ 37) (h : sortI op = 3 ∨ sortI op = 4) : 29 ≤ op := by
  rcases in37 h1 h2 with rfl | rfl | rfl | rfl | rfl | rfl | rfl | rfl | rfl | rfl | rfl | rfl | rfl | rfl | rfl | rfl | rfl | rfl | rfl | rfl | rfl | rfl | rfl | rfl | rfl | rfl | rfl | rfl | rfl | rfl | rfl | rfl | rfl | rfl | rfl | rfl | rfl <;> revert h <;> decide
theorem want_test {op : Int} (h : testB op = true) (j : Int) : wantI op j = 1 := by
  unfold testB at h
  simp only [Bool.and_eq_true, decide_eq_true_eq] at h
  unfold wantI expr_wanted
  have e27 : (op == 27) = false := by simp; omega
  have e36 : (op == 36) = false := by simp; omega
  have e37 : (op == 37) = false := by simp; omega
  have e23 : (op == 23) = false := by simp; omega
  rw [e27, e36, e37, e23]
  rfl
structure VR (v0 : List Node) (q : Nat) (y : Val) : Prop where
  lit : opAt v0 q ≤ 27 → y = litV v0 q
  tru : 29 ≤ opAt v0 q → ∃ b, y = truthV b
structure Rel (v0 : List Node) (st : List Nat) (vs : List Val) : Prop where
  len : vs.length = st.length
  at_ : ∀ (j q : Nat) (y : Val), st[j]? = some q → vs[j]? = some y → VR v0 q y
theorem Rel.push {v0 : List Node} {st : List Nat} {vs : List Val} (h : Rel v0 st vs) (m : Nat) {i : Nat} {y : Val} (hy : VR v0 i y) : Rel v0 (st.take m ++ [i]) (vs.take m ++ [y]) := by
  have hl := h.len
  refine ⟨by simp [hl], fun j q z hq hz => ?_⟩
  have hml : (vs.take m).length = (st.take m).length := by simp [hl]
  rcases Nat.lt_or_ge j (st.take m).length with hj | hj
  · rw [List.getElem?_append_left hj] at hq
    rw [List.getElem?_append_left (by omega)] at hz
    have hjm : j < m := by simp at hj; omega
    rw [List.getElem?_take_of_lt hjm] at hq hz
    exact h.at_ j q z hq hz
  · rw [List.getElem?_append_right hj] at hq
    rw [List.getElem?_append_right (by omega), hml] at hz
    obtain ⟨d, hd⟩ : ∃ d, d = j - (st.take m).length := ⟨_, rfl⟩
    rw [← hd] at hq hz
    cases d with
    | zero =>
      simp at hq hz
      subst hq
      subst hz
      exact hy
    | succ d => simp at hq
theorem Rel.drop {v0 : List Node} {st : List Nat} {vs : List Val} (h : Rel v0 st vs) (m : Nat) : Rel v0 (st.drop m) (vs.drop m) := by
  refine ⟨by simp [h.len], fun j q y hq hy => ?_⟩
  rw [List.getElem?_drop] at hq hy
  exact h.at_ _ q y hq hy
theorem Rel.lits {v0 : List Node} {st : List Nat} {vs : List Val} (h : Rel v0 st vs) (ho : ∀ q ∈ st, opAt v0 q ≤ 27) : vs = st.map (litV v0) := by
  refine List.ext_getElem? fun j => ?_
  rw [List.getElem?_map]
  cases hq : st[j]? with
  | none =>
    have : st.length ≤ j := by simpa using hq
    simpa [h.len] using this
  | some q =>
    have hlt := getElem?_lt hq
    obtain ⟨y, hy⟩ : ∃ y, vs[j]? = some y := ⟨_, List.getElem?_eq_getElem (by rw [h.len]; exact hlt)⟩
    rw [hy, (h.at_ j q y hq hy).lit (ho q (List.mem_of_getElem? hq))]
    rfl
theorem Rel.truths {v0 : List Node} {st : List Nat} {vs : List Val} (h : Rel v0 st vs) (ho : ∀ q ∈ st, 29 ≤ opAt v0 q) : ∀ y ∈ vs, ∃ b, y = truthV b := by
  intro y hy
  obtain ⟨j, hj⟩ := List.getElem?_of_mem hy
  have hlt := getElem?_lt hj
  obtain ⟨q, hq⟩ : ∃ q, st[j]? = some q := ⟨_, List.getElem?_eq_getElem (by rw [← h.len]; exact hlt)⟩
  exact (h.at_ j q y hq hj).tru (ho q (List.mem_of_getElem? hq))
def badQ (v0 : List Node) : List Node → Nat → Bool
  | [], _ => false
  | x :: r, i => (decide (x.op ≤ 28) && !litB v0 i) || badQ v0 r (i + 1)
def isQ : List Node → Bool
  | [] => true
  | x :: r => (!testB x.op || x.op == 30) && isQ r
theorem kids_0 {op kids : Int} (h : fitsB op kids = true) (ho : arity op = (0, 0)) : kids = 0 := by
  have := arity_of h
  rw [ho] at this
  unfold fitB at this
  simp only [Bool.and_eq_true, decide_eq_true_eq, Bool.or_eq_true, beq_iff_eq] at this
  omega
theorem kids_1 {op kids : Int} (h : fitsB op kids = true) (ho : arity op = (1, 1)) : kids = 1 := by
  have := arity_of h
  rw [ho] at this
  unfold fitB at this
  simp only [Bool.and_eq_true, decide_eq_true_eq, Bool.or_eq_true, beq_iff_eq] at this
  omega
theorem mach_step (k : Nat) (v0 : List Node) (P : List (List Nat)) (hc : Chk v0 P) (hok : ∀ n ∈ v0, NodeOk n) (hk : 1000 ≤ k) (i : Nat) (x : Node) (hx : v0[i]? = some x) (st : List Nat) (kn : Nat) (hkn : x.kids = (kn : Int)) (hkl : kn ≤ st.length) (hPi : P[i]? = some (st.drop (st.length - kn))) (hst : st.length ≤ 300)
    (v : Val) (vs es : List Val) (is : Bool) (hr : Rel v0 st vs) (he : es.length ≤ 300 * 300) (hb : (decide (x.op ≤ 28) && !litB v0 i) = false) :
    ∃ y, VR v0 i y ∧ unary_machine_step (k + 10) ⟨v, vs, es, is, false⟩ x = some (true, ⟨v, vs.take (st.length - kn) ++ [y], es ++ (if testB x.op = true then (st.drop (st.length - kn)).map (litV v0) else []), is && (!testB x.op || x.op == 30), false⟩) := by
  have hfit := hc.fit i x hx
  obtain ⟨_, o1, o2⟩ := fits_nn hfit
  have hop := opAt_eq hx
  obtain ⟨s, hs⟩ : ∃ s, s = vs.take (st.length - kn) := ⟨_, rfl⟩
  obtain ⟨l, hl⟩ : ∃ l, l = vs.drop (st.length - kn) := ⟨_, rfl⟩
  have hvs : vs = s ++ l := by rw [hs, hl, List.take_append_drop]
  have hvl := hr.len
  have hll : l.length = kn := by rw [hl, List.length_drop]; omega
  have hsl : (s ++ l).length ≤ 300 := by rw [← hvs]; omega
  have hrd := hr.drop (st.length - kn)
  rw [← hl] at hrd
  have hsort : ∀ q ∈ st.drop (st.length - kn), 1 ≤ opAt v0 q ∧ opAt v0 q ≤ 37 ∧ ∃ j : Nat, sortI (opAt v0 q) = wantI x.op (j : Int) := fun q hq => by
    obtain ⟨j, hj⟩ := List.getElem?_of_mem hq
    have hlt := (hc.ahead i _ hPi).2 q hq
    obtain ⟨w, hw⟩ : ∃ w, v0[q]? = some w := ⟨_, List.getElem?_eq_getElem (by have := getElem?_lt hx; omega)⟩
    have hwf := fits_nn (hc.fit q w hw)
    rw [opAt_eq hw]
    exact ⟨hwf.2.1, hwf.2.2, j, by rw [← opAt_eq hw]; exact hc.srt i x _ hx hPi j q hj⟩
  rw [← hs]
  by_cases h28 : x.op ≤ 28
  · have hlb : litB v0 i = true := by simpa [h28] using hb
    have htb : testB x.op = false := by unfold testB; simp; omega
    rw [htb]
    simp only [Bool.false_eq_true, if_false, List.append_nil, Bool.not_false, Bool.true_or, Bool.and_true]
    by_cases h8 : x.op = 8
    · obtain ⟨h1, hP8⟩ := neg_part hc hx h8
      obtain ⟨p, hp⟩ : ∃ p, v0[i - 1]? = some p := ⟨_, List.getElem?_eq_getElem (by have := getElem?_lt hx; omega)⟩
      have hp4 : p.op = 4 := by
        unfold litB at hlb
        rw [hx] at hlb
        have : lit5 x = false := by unfold lit5; rw [h8]; rfl
        simp only [this, Bool.false_or, Bool.and_eq_true, beq_iff_eq] at hlb
        rw [← opAt_eq hp]
        exact hlb.2
      have hps : st.drop (st.length - kn) = [i - 1] := by rw [hPi] at hP8; exact Option.some.inj hP8
      rw [hps] at hrd
      have hl1 : l = [numV p.num] := by
        have := hrd.lits (fun q hq => by
          have := List.mem_singleton.1 hq
          subst this
          rw [opAt_eq hp, hp4]
          decide)
        rw [this]
        simp only [List.map_cons, List.map_nil]
        unfold litV
        rw [hp]
        simp [hp4, litX]
      have hform : p.num.form = true := by
        have := hc.fld _ p hp
        unfold fieldsB at this
        rw [if_pos hp4] at this
        simp only [Bool.and_eq_true] at this
        exact this.1.1
      refine ⟨numV (flipD p.num), ⟨fun _ => ?_, fun h => by rw [hop] at h; omega⟩, ?_⟩
      · unfold litV
        rw [hx, hp]
        simp [h8, hp4]
      · rw [hvs, hl1]
        exact step_neg (k + 10) (by omega) v s es is false x h8 p.num (hok p (List.mem_of_getElem? hp)).coef hform (by simp at hsl; omega)
    · have hl5 : lit5 x = true := by
        unfold litB at hlb
        rw [hx] at hlb
        have e8 : (x.op == 8) = false := by simpa using h8
        simpa [e8] using hlb
      have hk0 : x.kids = 0 := by
        refine kids_0 hfit ?_
        unfold lit5 at hl5
        simp only [Bool.or_eq_true, beq_iff_eq] at hl5
        rcases hl5 with h | h | h | h | h <;> rw [h] <;> decide
      have hkn0 : kn = 0 := by omega
      subst hkn0
      have hl0 : l = [] := List.length_eq_zero_iff.1 hll
      refine ⟨litX x, ⟨fun _ => ?_, fun h => by rw [hop] at h; omega⟩, ?_⟩
      · unfold litV
        rw [hx]
        simp only [if_neg h8]
      · rw [hvs, hl0, List.append_nil, step_lit (k + 10) v s es is false x h28 h8 (by simp at hsl; omega), hl5]
  · have htr : ∀ b, VR v0 i (truthV b) := fun b => ⟨fun h => by rw [hop] at h; omega, fun _ => ⟨b, rfl⟩⟩
    by_cases h29 : x.op = 29
    · have htb : testB x.op = false := by rw [h29]; rfl
      rw [htb]
      simp only [Bool.false_eq_true, if_false, List.append_nil, Bool.not_false, Bool.true_or, Bool.and_true]
      have hk0 : x.kids = 0 := kids_0 hfit (by rw [h29]; decide)
      have hkn0 : kn = 0 := by omega
      subst hkn0
      have hl0 : l = [] := List.length_eq_zero_iff.1 hll
      refine ⟨truthV true, htr true, ?_⟩
      rw [hvs, hl0, List.append_nil]
      exact step_any (k + 10) v s es is false x h29 (by simp at hsl; omega)
    · by_cases h37 : x.op = 37
      · have htb : testB x.op = false := by rw [h37]; rfl
        rw [htb]
        simp only [Bool.false_eq_true, if_false, List.append_nil, Bool.not_false, Bool.true_or, Bool.and_true]
        have hk0 : x.kids = 1 := kids_1 hfit (by rw [h37]; decide)
        have hkn0 : kn = 1 := by omega
        subst hkn0
        obtain ⟨y, hy⟩ := List.length_eq_one_iff.1 hll
        obtain ⟨b, rfl⟩ := hrd.truths (fun q hq => by
          obtain ⟨a1, a2, j, hj⟩ := hsort q hq
          rw [h37] at hj
          exact sort_3 a1 a2 (.inr hj)) y (by rw [hy]; exact List.mem_cons_self)
        refine ⟨truthV (!b), htr _, ?_⟩
        rw [hvs, hy]
        exact step_not (k + 10) v s es is false x h37 (truthV b) (truthV (!b)) (truth_not k b) (by simp at hsl; omega)
      · by_cases h36 : x.op = 36
        · have htb : testB x.op = false := by rw [h36]; rfl
          rw [htb]
          simp only [Bool.false_eq_true, if_false, List.append_nil, Bool.not_false, Bool.true_or, Bool.and_true]
          obtain ⟨b, hb'⟩ := truth_all k l false (hrd.truths (fun q hq => by
            obtain ⟨a1, a2, j, hj⟩ := hsort q hq
            rw [h36] at hj
            exact sort_3 a1 a2 (.inl hj)))
          refine ⟨truthV b, htr _, ?_⟩
          rw [hvs]
          exact step_some (k + 10) v s l es is false x h36 (by rw [hkn, hll]) (truthV b) hb' (by omega) (by omega)
        · have htb : testB x.op = true := by unfold testB; simp; omega
          rw [htb]
          simp only [if_true, Bool.not_true, Bool.false_or]
          have hl' : l = (st.drop (st.length - kn)).map (litV v0) := hrd.lits (fun q hq => by
            obtain ⟨a1, a2, j, hj⟩ := hsort q hq
            rw [want_test htb] at hj
            exact sort_1 a1 a2 hj)
          refine ⟨truthV false, htr false, ?_⟩
          rw [hvs, ← hl']
          exact step_test (k + 10) v s l es is false x (by omega) (by omega) (by rw [hkn, hll]) (truthV false) rfl (by omega) he
end Go.EvT
end
section
set_option maxRecDepth 100000
namespace Go.EvT
open Go.Ev Go Go.Lib
theorem bad_step (k : Nat) (hk : 1000 ≤ k) (v0 : List Node) (P : List (List Nat)) (hc : Chk v0 P) (i : Nat) (x : Node) (hx : v0[i]? = some x) (v : Val) (vs es : List Val) (is a : Bool) (hs : vs.length ≤ 300) (hb : (decide (x.op ≤ 28) && !litB v0 i) = true) (n : Nat) :
    ∃ m, unary_machine_all.l3 k v0 v0 (v0.length : Int) (n + 1) (i : Int) ⟨v, vs, es, is, a⟩ = some (.ret (false, m)) := by
  simp only [Bool.and_eq_true, decide_eq_true_eq, Bool.not_eq_true'] at hb
  obtain ⟨h28, hlb⟩ := hb
  have hlt := getElem?_lt hx
  unfold unary_machine_all.l3
  have e1 : decide ((i : Int) < (v0.length : Int)) = true := by simpa using hlt
  rw [e1, if_pos rfl, idx_nat, hx]
  simp only [Option.bind_some]
  by_cases h8 : x.op = 8
  · obtain ⟨h1, hP8⟩ := neg_part hc hx h8
    obtain ⟨p, hp⟩ : ∃ p, v0[i - 1]? = some p := ⟨_, List.getElem?_eq_getElem (by omega)⟩
    have e8 : (x.op == 8) = true := by simpa using h8
    have hp4 : (p.op != 4) = true := by
      unfold litB at hlb
      rw [hx] at hlb
      simp only [e8, Bool.true_and, Bool.or_eq_false_iff] at hlb
      rw [opAt_eq hp] at hlb
      have := hlb.2
      simpa using this
    have hsm := hc.small
    rw [e8, if_pos rfl, i64_small (by omega) (by omega), show (i : Int) - 1 = ((i - 1 : Nat) : Int) by omega, idx_nat, hp]
    simp only [Option.bind_some, hp4]
    exact ⟨_, rfl⟩
  · have e8 : (x.op == 8) = false := by simpa using h8
    have hl5 : lit5 x = false := by
      unfold litB at hlb
      rw [hx] at hlb
      simpa [e8] using hlb
    rw [e8]
    simp only [Bool.false_eq_true, if_false, Option.bind_some]
    rw [step_lit k v vs es is a x h28 h8 (by omega), hl5]
    exact ⟨_, rfl⟩
theorem mach_loop (k : Nat) (hk : 1000 ≤ k) (v0 : List Node) (P : List (List Nat)) (hc : Chk v0 P) (hok : ∀ n ∈ v0, NodeOk n) (v : Val) : ∀ (r : List Node) (n i : Nat) (st : List Nat) (Pi : List (List Nat)) (vs es : List Val) (is : Bool),
    v0.drop i = r → r.length < n → i ≤ v0.length → stk r i st Pi = some ([v0.length - 1], P) → Pi.length = i → st.length ≤ i → Rel v0 st vs → es.length ≤ 300 * i →
    ∃ m, unary_machine_all.l3 (k + 10) v0 v0 (v0.length : Int) n (i : Int) ⟨v, vs, es, is, false⟩ = some (if badQ v0 r i = true then .ret (false, m) else .go m) ∧ (badQ v0 r i = false → m.ends = es ++ endsQ v0 r (P.drop i) ∧ m.is = (is && isQ r))
  | _, 0, _, _, _, _, _, _, _, h, _, _, _, _, _, _ => by omega
  | [], n + 1, i, st, Pi, vs, es, is, hd, _, hi, _, _, _, _, _ => by
    have hlen := congrArg List.length hd
    simp at hlen
    unfold unary_machine_all.l3
    have e1 : decide ((i : Int) < (v0.length : Int)) = false := by simp; omega
    rw [e1]
    exact ⟨_, rfl, fun _ => ⟨by simp [endsQ], by simp [isQ]⟩⟩
  | x :: r, n + 1, i, st, Pi, vs, es, is, hd, hn, hi, hstk, hPi, hst, hr, he => by
    have hlen := congrArg List.length hd
    simp at hlen
    have hx : v0[i]? = some x := by
      have := congrArg (fun l => l[0]?) hd
      simpa using this
    have hd' : v0.drop (i + 1) = r := by
      have := congrArg List.tail hd
      simpa using this
    have hsm := hc.small
    have hvl := hr.len
    obtain ⟨kn, h1, h2, h3, h4, h5⟩ := stk_step hstk hPi
    cases hb : (decide (x.op ≤ 28) && !litB v0 i) with
    | true =>
      obtain ⟨m, hm⟩ := bad_step (k + 10) (by omega) v0 P hc i x hx v vs es is false (by omega) hb n
      have hbq : badQ v0 (x :: r) i = true := by simp only [badQ, hb, Bool.true_or]
      exact ⟨m, by rw [hm, hbq]; rfl, fun h => by rw [hbq] at h; cases h⟩
    | false =>
      obtain ⟨y, hy, hstep⟩ := mach_step k v0 P hc hok hk i x hx st kn h1 h2 h3 (by omega) v vs es is hr (by omega) hb
      have hbq : badQ v0 (x :: r) i = badQ v0 r (i + 1) := by simp only [badQ, hb, Bool.false_or]
      rw [hbq]
      unfold unary_machine_all.l3
      have e1 : decide ((i : Int) < (v0.length : Int)) = true := by simp; omega
      rw [e1, if_pos rfl, idx_nat, hx]
      simp only [Option.bind_some]
      have hb3 : ((if (x.op == (8 : Int)) = true then (idx v0 (IntKind.wrap .i64 ((i : Int) - (1 : Int)))).bind fun e2 => some (e2.op != (4 : Int)) else some false) : Option Bool) = some false := by
        by_cases h8 : x.op = 8
        · obtain ⟨g1, _⟩ := neg_part hc hx h8
          obtain ⟨p, hp⟩ : ∃ p, v0[i - 1]? = some p := ⟨_, List.getElem?_eq_getElem (by omega)⟩
          have e8 : (x.op == 8) = true := by simpa using h8
          have hlb : litB v0 i = true := by
            rw [h8] at hb
            simpa using hb
          have hp4 : (p.op != 4) = false := by
            unfold litB at hlb
            rw [hx] at hlb
            have : lit5 x = false := by unfold lit5; rw [h8]; rfl
            simp only [this, Bool.false_or, Bool.and_eq_true, beq_iff_eq] at hlb
            rw [opAt_eq hp] at hlb
            simpa using hlb.2
          rw [e8, if_pos rfl, i64_small (by omega) (by omega), show (i : Int) - 1 = ((i - 1 : Nat) : Int) by omega, idx_nat, hp]
          simp only [Option.bind_some, hp4]
        · have e8 : (x.op == 8) = false := by simpa using h8
          rw [e8]
          rfl
      rw [hb3]
      simp only [Option.bind_some, if_true]
      rw [hstep]
      simp only [Option.bind_some, Bool.not_true, Bool.false_eq_true, if_false]
      rw [i64_small (by omega) (by omega), show (i : Int) + 1 = ((i + 1 : Nat) : Int) by omega]
      have hr' := hr.push (st.length - kn) hy
      obtain ⟨m, g1, g2⟩ := mach_loop k hk v0 P hc hok v r n (i + 1) _ _ (vs.take (st.length - kn) ++ [y]) (es ++ (if testB x.op = true then (st.drop (st.length - kn)).map (litV v0) else [])) (is && (!testB x.op || x.op == 30)) hd' (by simp at hn; omega) (by omega) h5 (by simp [hPi]) (by simp; omega) hr' (by
        cases testB x.op <;> simp <;> omega)
      refine ⟨m, g1, fun hnb => ?_⟩
      obtain ⟨q1, q2⟩ := g2 hnb
      rw [drop_cons h3]
      rw [endsQ_cons]
      simp only [isQ]
      exact ⟨by rw [q1, List.append_assoc], by rw [q2, Bool.and_assoc]⟩
theorem bad_ok {v0 : List Node} {P : List (List Nat)} (hc : Chk v0 P) : ∀ (r : List Node) (i : Nat) (st : List Nat) (Pi : List (List Nat)), v0.drop i = r → i ≤ v0.length → stk r i st Pi = some ([v0.length - 1], P) → Pi.length = i →
    (okQ v0 r (P.drop i) = true → badQ v0 r i = false ∧ ∀ q ∈ st, (decide (opAt v0 q ≤ 28) && !litB v0 q) = true → False) ∧
    (badQ v0 r i = false → (∀ q, q < i → (decide (opAt v0 q ≤ 28) && !litB v0 q) = false) → okQ v0 r (P.drop i) = true)
  | [], i, st, Pi, hd, hi, h, hPi => by
    have hlen := congrArg List.length hd
    simp at hlen
    simp only [stk, Option.some.injEq, Prod.mk.injEq] at h
    refine ⟨fun _ => ⟨rfl, fun q hq hb => ?_⟩, fun _ _ => rfl⟩
    rw [h.1] at hq
    have hq' := List.mem_singleton.1 hq
    subst hq'
    simp only [Bool.and_eq_true, decide_eq_true_eq] at hb
    have hp := hc.pos
    obtain ⟨w, hw⟩ : ∃ w, v0[v0.length - 1]? = some w := ⟨_, List.getElem?_eq_getElem (by omega)⟩
    have hwf := fits_nn (hc.fit _ w hw)
    have hro := hc.root
    rw [opAt_eq hw] at hb hro
    unfold rootOk at hro
    rcases sort_le hwf.2.1 hwf.2.2 hb.1 with e | e <;> rw [e] at hro <;> cases hro
  | x :: r, i, st, Pi, hd, hi, h, hPi => by
    have hlen := congrArg List.length hd
    simp at hlen
    have hx : v0[i]? = some x := by
      have := congrArg (fun l => l[0]?) hd
      simpa using this
    have hd' : v0.drop (i + 1) = r := by
      have := congrArg List.tail hd
      simpa using this
    obtain ⟨kn, h1, h2, h3, h4, h5⟩ := stk_step h hPi
    obtain ⟨ih1, ih2⟩ := bad_ok hc r (i + 1) _ _ hd' (by omega) h5 (by simp [hPi])
    have hfit := hc.fit i x hx
    obtain ⟨_, o1, o2⟩ := fits_nn hfit
    have hop := opAt_eq hx
    rw [drop_cons h3]
    rw [okQ_cons]
    simp only [badQ]
    have hsort : ∀ q ∈ st.drop (st.length - kn), 1 ≤ opAt v0 q ∧ opAt v0 q ≤ 37 ∧ ∃ j : Nat, sortI (opAt v0 q) = wantI x.op (j : Int) := fun q hq => by
      obtain ⟨j, hj⟩ := List.getElem?_of_mem hq
      have hlt := (hc.ahead i _ h3).2 q hq
      obtain ⟨w, hw⟩ : ∃ w, v0[q]? = some w := ⟨_, List.getElem?_eq_getElem (by omega)⟩
      have hwf := fits_nn (hc.fit q w hw)
      rw [opAt_eq hw]
      exact ⟨hwf.2.1, hwf.2.2, j, by rw [← opAt_eq hw]; exact hc.srt i x _ hx h3 j q hj⟩
    refine ⟨fun ho => ?_, fun hnb hpre => ?_⟩
    · simp only [Bool.and_eq_true] at ho
      obtain ⟨hot, hor⟩ := ho
      obtain ⟨g1, g2⟩ := ih1 hor
      have hxb : (decide (x.op ≤ 28) && !litB v0 i) = false := by
        cases hxb : (decide (x.op ≤ 28) && !litB v0 i) with
        | false => rfl
        | true => exact (g2 i (by simp) (by rw [hop]; exact hxb)).elim
      refine ⟨by rw [hxb, g1]; rfl, fun q hq hqb => ?_⟩
      by_cases hqt : q ∈ st.take (st.length - kn)
      · exact g2 q (List.mem_append_left _ hqt) hqb
      · have hqd : q ∈ st.drop (st.length - kn) := by
          have := List.take_append_drop (st.length - kn) st
          rw [← this] at hq
          rcases List.mem_append.1 hq with h | h
          · exact absurd h hqt
          · exact h
        obtain ⟨a1, a2, j, hj⟩ := hsort q hqd
        simp only [Bool.and_eq_true, decide_eq_true_eq, Bool.not_eq_true'] at hqb
        obtain ⟨hq28, hqb⟩ := hqb
        by_cases h28 : x.op ≤ 28
        · have hlb : litB v0 i = true := by simpa [h28] using hxb
          by_cases h8 : x.op = 8
          · obtain ⟨p1, p2⟩ := neg_part hc hx h8
            rw [h3] at p2
            rw [Option.some.inj p2] at hqd
            have hq' := List.mem_singleton.1 hqd
            subst hq'
            obtain ⟨w, hw⟩ : ∃ w, v0[i - 1]? = some w := ⟨_, List.getElem?_eq_getElem (by omega)⟩
            unfold litB at hlb
            rw [hx] at hlb
            have : lit5 x = false := by unfold lit5; rw [h8]; rfl
            simp only [this, Bool.false_or, Bool.and_eq_true, beq_iff_eq] at hlb
            unfold litB at hqb
            rw [hw] at hqb
            have : lit5 w = true := by unfold lit5; rw [← opAt_eq hw, hlb.2]; rfl
            simp only [this, Bool.true_or] at hqb
            cases hqb
          · have e8 : (x.op == 8) = false := by simpa using h8
            have hl5 : lit5 x = true := by
              unfold litB at hlb
              rw [hx] at hlb
              simpa [e8] using hlb
            have hk0 : x.kids = 0 := by
              refine kids_0 hfit ?_
              unfold lit5 at hl5
              simp only [Bool.or_eq_true, beq_iff_eq] at hl5
              rcases hl5 with h | h | h | h | h <;> rw [h] <;> decide
            have hkn0 : kn = 0 := by omega
            subst hkn0
            rw [Nat.sub_zero, List.drop_length] at hqd
            cases hqd
        · cases htb : testB x.op with
          | true =>
            rw [htb] at hot
            simp only [Bool.not_true, Bool.false_or] at hot
            have := List.all_eq_true.1 hot q hqd
            rw [this] at hqb
            cases hqb
          | false =>
            have hnt : x.op = 29 ∨ x.op = 36 ∨ x.op = 37 := by
              unfold testB at htb
              simp only [Bool.and_eq_false_iff, decide_eq_false_iff_not] at htb
              omega
            rcases hnt with h29 | h36 | h37
            · have hk0 : x.kids = 0 := kids_0 hfit (by rw [h29]; decide)
              have hkn0 : kn = 0 := by omega
              subst hkn0
              rw [Nat.sub_zero, List.drop_length] at hqd
              cases hqd
            · rw [h36] at hj
              have := sort_3 a1 a2 (.inl hj)
              omega
            · rw [h37] at hj
              have := sort_3 a1 a2 (.inr hj)
              omega
    · simp only [Bool.or_eq_false_iff] at hnb
      have hrest := ih2 hnb.2 (fun q hq => by
        rcases Nat.lt_or_ge q i with h | h
        · exact hpre q h
        · have : q = i := by omega
          subst this
          rw [hop]
          exact hnb.1)
      rw [hrest, Bool.and_true]
      cases htb : testB x.op with
      | false => rfl
      | true =>
        simp only [Bool.not_true, Bool.false_or]
        refine List.all_eq_true.2 fun q hq => ?_
        obtain ⟨a1, a2, j, hj⟩ := hsort q hq
        rw [want_test htb] at hj
        have h27 := sort_1 a1 a2 hj
        have := hpre q ((hc.ahead i _ h3).2 q hq)
        have e28 : decide (opAt v0 q ≤ 28) = true := by simp; omega
        rw [e28] at this
        simpa using this
theorem bad_eq_ok {v0 : List Node} {P : List (List Nat)} (hc : Chk v0 P) : badQ v0 v0 0 = !okQ v0 v0 P := by
  obtain ⟨h1, h2⟩ := bad_ok hc v0 0 [] [] rfl (Nat.zero_le _) hc.run rfl
  rw [List.drop_zero] at h1 h2
  cases ho : okQ v0 v0 P with
  | true => rw [(h1 ho).1]; rfl
  | false =>
    cases hb : badQ v0 v0 0 with
    | true => rfl
    | false => rw [h2 hb (fun q h => absurd h (by omega))] at ho; cases ho
theorem mach_eq (k : Nat) (hk : 1010 ≤ k) (v0 : List Node) (P : List (List Nat)) (hc : Chk v0 P) (hok : ∀ n ∈ v0, NodeOk n) (v : Val) (b : Bool) :
    ∃ m, unary_machine_all k ⟨v, [], [], b, false⟩ v0 = some (okQ v0 v0 P, m) ∧ (okQ v0 v0 P = true → m.ends = endsQ v0 v0 P ∧ m.is = isQ v0) := by
  obtain ⟨K, rfl⟩ : ∃ K, k = K + 10 := ⟨k - 10, by omega⟩
  have hsm := hc.small
  obtain ⟨m, h1, h2⟩ := mach_loop K (by omega) v0 P hc hok v v0 (K + 10) 0 [] [] [] [] true rfl (by omega) (Nat.zero_le _) hc.run rfl (Nat.le_refl _) ⟨rfl, fun j q y h => by simp at h⟩ (Nat.zero_le _)
  rw [show ((0 : Nat) : Int) = (0 : Int) from rfl] at h1
  rw [List.drop_zero, List.nil_append] at h2
  rw [bad_eq_ok hc] at h1 h2
  refine ⟨m, ?_, fun ho => ?_⟩
  · unfold unary_machine_all
    simp only [h1]
    cases okQ v0 v0 P <;> rfl
  · obtain ⟨q1, q2⟩ := h2 (by rw [ho]; rfl)
    exact ⟨q1, by rw [q2]; rfl⟩
end Go.EvT
end
section
set_option maxRecDepth 100000
namespace Go.EvT
open Go.Ev Go Go.Lib
def NodesOk (K : Nat) (v0 : List Node) : Prop := ∀ n ∈ v0, NodeOk n ∧ n.text.size + 1000 ≤ K
def plainV (v0 : List Node) (ok : Bool) (e : Int) : Bool × Int := if e = 0 then (ok, 0) else (false, e)
def endsV (ok : Bool) (l : List Val) (e : Int) : List Val × Int := if e = 0 then (if ok = true then (l, 0) else ([], 18)) else ([], e)
def onlyV (ok only : Bool) (l : List Val) (e : Int) : List Val × Bool × Int := if e = 0 then (if ok = true then (if only = true then (l, true, 0) else ([], false, 0)) else ([], false, 18)) else ([], false, e)
def Plain3 (K : Nat) (v0 : List Node) (e : Int) (ok only : Bool) (l : List Val) : Prop :=
  unary_Plain K v0 = some (plainV v0 ok e) ∧ unary_Ends K v0 = some (endsV ok l e) ∧ unary_Only K v0 = some (onlyV ok only l e) ∧
  tariffref12_DocPlain K v0 = some (plainV v0 ok e) ∧ tariffref12_DocEnds K v0 = some (endsV ok l e) ∧ tariffref12_DocOnly K v0 = some (onlyV ok only l e)
theorem isQ_cons (x : Node) (r : List Node) : isQ (x :: r) = ((!testB x.op || x.op == 30) && isQ r) := rfl
theorem only_loop (K : Nat) (v0 : List Node) (hv : v0.length ≤ 300) : ∀ (r : List Node) (n i : Nat), v0.drop i = r → r.length < n → i ≤ v0.length →
    tariffref12_Only.l4 K v0 n (i : Int) = some (if isQ r = true then .go v0 else .ret ([], false))
  | _, 0, _, _, h, _ => by omega
  | [], n + 1, i, hd, _, hi => by
    have hlen := congrArg List.length hd
    simp at hlen
    unfold tariffref12_Only.l4
    have e1 : decide ((i : Int) < (v0.length : Int)) = false := by simp; omega
    rw [e1]
    rfl
  | x :: r, n + 1, i, hd, hn, hi => by
    have hlen := congrArg List.length hd
    simp at hlen
    have hx : v0[i]? = some x := by
      have := congrArg (fun l => l[0]?) hd
      simpa using this
    have hd' : v0.drop (i + 1) = r := by
      have := congrArg List.tail hd
      simpa using this
    unfold tariffref12_Only.l4
    have e1 : decide ((i : Int) < (v0.length : Int)) = true := by simp; omega
    rw [e1, if_pos rfl, idx_nat, hx]
    simp only [Option.bind_some]
    rw [isTest_eq]
    rw [isQ_cons]
    simp only [Option.bind_some]
    have hb5 : ((if testB x.op = true then some (x.op != (30 : Int)) else some false) : Option Bool) = some (!(!testB x.op || x.op == 30)) := by
      have : (x.op != 30) = !(x.op == 30) := rfl
      rw [this]
      cases testB x.op <;> cases (x.op == 30) <;> rfl
    rw [hb5]
    cases hq : (!testB x.op || x.op == 30) with
    | false => rfl
    | true =>
      simp only [Bool.not_true, Option.bind_some, Bool.false_eq_true, if_false, Bool.true_and]
      rw [i64_small (by omega) (by omega), show (i : Int) + 1 = ((i + 1 : Nat) : Int) by omega, only_loop K v0 hv r n (i + 1) hd' (by simp at hn; omega) (by omega)]
theorem plain3 (K : Nat) (hK : 1100 ≤ K) (v0 : List Node) (hok : NodesOk K v0) : ∃ ok only l, Plain3 K v0 (checkV v0 true) ok only l ∧ (∀ y ∈ l, ∃ q, y = litV v0 q) ∧ l.length ≤ 90000 := by
  have hce := check_eq K v0 true hok (by omega)
  have hre := rcheck_eq K v0 true hok (by omega)
  by_cases he : checkV v0 true = 0
  · obtain ⟨P, hc⟩ := chk_of he
    have hsm := hc.small
    have hp := hc.pos
    obtain ⟨m, hm, hme⟩ := mach_eq K (by omega) v0 P hc (fun n hn => (hok n hn).1) nilV false
    have hends := rends_eq K v0 P hc (by omega)
    obtain ⟨e, hE⟩ : ∃ e, e = checkV v0 true := ⟨_, rfl⟩
    rw [← hE] at hce hre he ⊢
    subst he
    have hg : unary_gathered K v0 = some (.go (m, okQ v0 v0 P, 0)) := by
      unfold unary_gathered
      rw [hce]
      have hm' : unary_machine_all K (⟨(⟨(0 : Int), false, (⟨false, (⟨(0 : Int), (0 : Int)⟩ : Wide), (0 : Int)⟩ : Dec), ByteArray.empty, (0 : Int), ([] : List Val), ([] : List ByteArray)⟩ : Val), ([] : List Val), ([] : List Val), false, false⟩ : unary_machine) v0 = _ := hm
      simp only [Option.bind_some, hm']
      rfl
    have hPl : tariffref12_Plain K v0 = some (okQ v0 v0 P) := by
      unfold tariffref12_Plain
      rw [hends]
      cases okQ v0 v0 P <;> rfl
    obtain ⟨w, hw⟩ : ∃ w, v0[v0.length - 1]? = some w := ⟨_, List.getElem?_eq_getElem (by omega)⟩
    have hlast : idx v0 (IntKind.i64.wrap ((v0.length : Int) - 1)) = some w := by
      rw [i64_small (by omega) (by omega), show (v0.length : Int) - 1 = ((v0.length - 1 : Nat) : Int) by omega, idx_nat, hw]
    have hol := only_loop K v0 hsm v0 K 0 rfl (by omega) (Nat.zero_le _)
    rw [show ((0 : Nat) : Int) = (0 : Int) from rfl] at hol
    refine ⟨okQ v0 v0 P, isQ v0 && (w.op == 36), endsQ v0 v0 P, ⟨?_, ?_, ?_, ?_, ?_, ?_⟩, ?_, ?_⟩
    · unfold unary_Plain
      rw [hg]
      rfl
    · unfold unary_Ends
      rw [hg]
      simp only [Option.bind_some, Fl.elim, endsV, if_true]
      cases ho : okQ v0 v0 P with
      | false => rfl
      | true => rw [(hme ho).1]; rfl
    · unfold unary_Only
      rw [hg]
      simp only [Option.bind_some, Fl.elim, onlyV, if_true, hlast]
      cases ho : okQ v0 v0 P with
      | false => rfl
      | true =>
        rw [(hme ho).1, (hme ho).2]
        have e36 : (w.op != 36) = !(w.op == 36) := rfl
        rw [e36]
        cases isQ v0 <;> cases (w.op == 36) <;> rfl
    · unfold tariffref12_DocPlain
      rw [hre]
      simp only [Option.bind_some, hPl]
      rfl
    · unfold tariffref12_DocEnds
      rw [hre]
      simp only [Option.bind_some, hends, endsV, if_true]
      cases okQ v0 v0 P <;> rfl
    · unfold tariffref12_DocOnly
      rw [hre]
      simp only [Option.bind_some, hPl, onlyV, if_true]
      cases ho : okQ v0 v0 P with
      | false => rfl
      | true =>
        unfold tariffref12_Only
        rw [hlast]
        simp only [Option.bind_some]
        have e36 : (w.op != 36) = !(w.op == 36) := rfl
        rw [e36, hol]
        cases hi : isQ v0 with
        | false => cases (w.op == 36) <;> rfl
        | true =>
          simp only [if_true, Option.bind_some]
          rw [hends, ho]
          cases (w.op == 36) <;> rfl
    · have : ∀ (r : List Node) (Q : List (List Nat)) (y : Val), y ∈ endsQ v0 r Q → ∃ q, y = litV v0 q := by
        intro r
        induction r with
        | nil => intro Q y h; cases h
        | cons x r ih =>
          intro Q y h
          simp only [endsQ] at h
          rcases List.mem_append.1 h with h | h
          · split at h
            · obtain ⟨q, _, rfl⟩ := List.mem_map.1 h
              exact ⟨q, rfl⟩
            · cases h
          · exact ih _ y h
      exact this v0 P
    · have : ∀ (r : List Node) (Q : List (List Nat)), (∀ ps ∈ Q, ps.length ≤ 300) → (endsQ v0 r Q).length ≤ 300 * r.length := by
        intro r
        induction r with
        | nil => intro Q _; exact Nat.le_refl _
        | cons x r ih =>
          intro Q hQ
          simp only [endsQ, List.length_append, List.length_cons]
          have h1 := ih Q.tail (fun ps h => hQ ps (List.mem_of_mem_tail h))
          have h2 : (Q.headD []).length ≤ 300 := by
            cases Q with
            | nil => simp
            | cons a Q => exact hQ a List.mem_cons_self
          have h3 : (if testB x.op = true then (Q.headD []).map (litV v0) else []).length ≤ 300 := by
            split
            · rw [List.length_map]; exact h2
            · simp
          omega
      have := this v0 P (fun ps h => by
        obtain ⟨j, hj⟩ := List.getElem?_of_mem h
        have := (hc.ahead j ps hj).1
        have := getElem?_lt hj
        have := hc.len
        omega)
      omega
  · obtain ⟨e, hE⟩ : ∃ e, e = checkV v0 true := ⟨_, rfl⟩
    rw [← hE] at hce hre he ⊢
    have hb : (e != 0) = true := by simpa using he
    have hg : unary_gathered K v0 = some (.ret (false, e)) := by
      unfold unary_gathered
      rw [hce]
      simp only [Option.bind_some, hb, if_true]
    refine ⟨false, false, [], ⟨?_, ?_, ?_, ?_, ?_, ?_⟩, fun y h => (by cases h), (by simp)⟩
    · unfold unary_Plain
      rw [hg]
      simp [Fl.elim, plainV, he]
    · unfold unary_Ends
      rw [hg]
      simp [Fl.elim, endsV, he]
    · unfold unary_Only
      rw [hg]
      simp [Fl.elim, onlyV, he]
    · unfold tariffref12_DocPlain
      rw [hre]
      simp [plainV, he]
    · unfold tariffref12_DocEnds
      rw [hre]
      simp [endsV, he]
    · unfold tariffref12_DocOnly
      rw [hre]
      simp [onlyV, he]
def Flat (v : Val) : Prop := v.list = [] ∧ v.names = []
theorem litV_flat (v0 : List Node) (q : Nat) : Flat (litV v0 q) := by
  unfold litV
  split
  · split
    · split
      · split <;> exact ⟨rfl, rfl⟩
      · exact ⟨rfl, rfl⟩
    · unfold litX
      split
      · exact ⟨rfl, rfl⟩
      · split
        · exact ⟨rfl, rfl⟩
        · split
          · exact ⟨rfl, rfl⟩
          · split
            · exact ⟨rfl, rfl⟩
            · split <;> exact ⟨rfl, rfl⟩
  · exact ⟨rfl, rfl⟩
theorem count_flat0 (k : Nat) (a : Int) (b : Bool) (c : Dec) (d : ByteArray) (e : Int) : tariffref07_Count (k + 10) ⟨a, b, c, d, e, [], []⟩ 1000 = some 1 := by kernel_rfl
theorem count_flat (k : Nat) (v : Val) (hv : Flat v) : tariffref07_Count (k + 10) v 1000 = some 1 := by
  obtain ⟨a, b, c, d, e, l, n⟩ := v
  obtain ⟨h1, h2⟩ := hv
  have h1 : l = [] := h1
  have h2 : n = [] := h2
  subst h1
  subst h2
  exact count_flat0 k a b c d e
theorem same_l4 (f : Val → Val → Option Bool) (k : Nat) (a : Int) (b : Bool) (c : Dec) (d : ByteArray) (e : Int) : tariffref07_Same.l4 f (k + 9) ⟨a, b, c, d, e, [], []⟩ ⟨a, b, c, d, e, [], []⟩ (k + 9) 0 = some (.go (⟨a, b, c, d, e, [], []⟩, ⟨a, b, c, d, e, [], []⟩)) := by kernel_rfl
theorem same_l9 (f : Val → Val → Option Bool) (k : Nat) (a : Int) (b : Bool) (c : Dec) (d : ByteArray) (e : Int) : tariffref07_Same.l9 f (k + 9) ⟨a, b, c, d, e, [], []⟩ ⟨a, b, c, d, e, [], []⟩ (k + 9) 0 = some (.go ()) := by kernel_rfl
theorem same_flat (k : Nat) (v : Val) (hv : Flat v) : tariffref07_Same (k + 10) v v = some true := by
  obtain ⟨a, b, c, d, e, l, n⟩ := v
  obtain ⟨h1, h2⟩ := hv
  have h1 : l = [] := h1
  have h2 : n = [] := h2
  subst h1
  subst h2
  rw [show k + 10 = (k + 9) + 1 from rfl]
  unfold tariffref07_Same
  simp only [bne_self_eq_false, beq_self_eq_true, Bool.not_true, Bool.and_self, Bool.and_true, if_true, Option.bind_some, Bool.false_eq_true, if_false]
  rw [same_l4]
  simp only [Option.bind_some]
  rw [same_l9]
  rfl
theorem sameAll_loop (k : Nat) (l : List Val) (hl : ∀ y ∈ l, Flat y) (hs : l.length ≤ 1000000) : ∀ (m n j : Nat), m = l.length - j → m < n → j ≤ l.length → tariffref12_SameAll.l4 (k + 10) l l n (j : Int) = some (.go ())
  | _, 0, _, _, h, _ => by omega
  | 0, n + 1, j, hm, _, hj => by
    have : j = l.length := by omega
    subst this
    unfold tariffref12_SameAll.l4
    simp
  | m + 1, n + 1, j, hm, hmn, hj => by
    have hlt : j < l.length := by omega
    obtain ⟨x, hx⟩ : ∃ x, l[j]? = some x := ⟨_, List.getElem?_eq_getElem hlt⟩
    have hf := hl x (List.mem_of_getElem? hx)
    unfold tariffref12_SameAll.l4
    have e1 : decide ((j : Int) < (l.length : Int)) = true := by simpa using hlt
    rw [e1, if_pos rfl, idx_nat, hx]
    simp only [Option.bind_some]
    rw [count_flat k x hf, same_flat k x hf]
    simp only [Option.bind_some, show decide ((1 : Int) > 1000) = false from rfl, if_true, Bool.not_true, Bool.false_eq_true, if_false]
    rw [i64_small (by omega) (by omega), show (j : Int) + 1 = ((j + 1 : Nat) : Int) by omega, sameAll_loop k l hl hs m n (j + 1) (by omega) (by omega) (by omega)]
theorem sameAll_self (k : Nat) (l : List Val) (hl : ∀ y ∈ l, Flat y) (hs : l.length ≤ 1000000) (hk : l.length < k + 10) : tariffref12_SameAll (k + 10) l l = some true := by
  unfold tariffref12_SameAll
  simp only [bne_self_eq_false, Bool.false_eq_true, if_false]
  have h := sameAll_loop k l hl hs l.length (k + 10) 0 rfl hk (Nat.zero_le _)
  rw [show ((0 : Nat) : Int) = (0 : Int) from rfl] at h
  rw [h]
  rfl
end Go.EvT
end
section
set_option maxRecDepth 100000
namespace Go.EvT
open Go.Ev Go Go.Lib
theorem known_ok (k : Nat) : tarifflaw12_known (k + 60) = some true := by kernel_rfl
end Go.EvT
end
section
set_option maxRecDepth 100000
namespace Go.EvT
open Go.Ev Go Go.Lib
abbrev nodeZ : Node := ⟨(0 : Int), (0 : Int), ByteArray.empty, (⟨false, (⟨(0 : Int), (0 : Int)⟩ : Wide), (0 : Int)⟩ : Dec), (0 : Int)⟩
theorem nodes_loop (k : Nat) (l : List Node) (hs : l.length ≤ 2000000) : ∀ (m n j : Nat), m = l.length - j → m < n → j ≤ l.length → tariffref10_Same.l4 k l l n (j : Int) = some (.go ())
  | _, 0, _, _, h, _ => by omega
  | 0, n + 1, j, hm, _, hj => by
    have : j = l.length := by omega
    subst this
    unfold tariffref10_Same.l4
    simp
  | m + 1, n + 1, j, hm, hmn, hj => by
    have hlt : j < l.length := by omega
    obtain ⟨x, hx⟩ : ∃ x, l[j]? = some x := ⟨_, List.getElem?_eq_getElem hlt⟩
    unfold tariffref10_Same.l4
    have e1 : decide ((j : Int) < (l.length : Int)) = true := by simpa using hlt
    rw [e1, if_pos rfl, idx_nat, hx]
    simp only [Option.bind_some, beq_self_eq_true, Bool.and_self, Bool.not_true, Bool.false_eq_true, if_false]
    rw [i64_small (by omega) (by omega), show (j : Int) + 1 = ((j + 1 : Nat) : Int) by omega, nodes_loop k l hs m n (j + 1) (by omega) (by omega) (by omega)]
theorem nodes_same (k : Nat) (l : List Node) (hs : l.length ≤ 2000000) (hk : l.length < k) : tariffref10_Same k l l = some true := by
  unfold tariffref10_Same
  simp only [bne_self_eq_false, Bool.false_eq_true, if_false]
  have h := nodes_loop k l hs l.length k 0 rfl hk (Nat.zero_le _)
  rw [show ((0 : Nat) : Int) = (0 : Int) from rfl] at h
  rw [h]
  rfl
theorem num_any (n : Int) : ∃ v, tarifflaw12_num n = some v := ⟨_, rfl⟩
theorem apart_l9 (k : Nat) (v0 w3 : List Node) (c3 : Int) (v6 w8 v11 : List Val) : ∀ (m n j : Nat) (w : List Val), m = w.length - j → m < n → j ≤ w.length → w.length ≤ 1000000 → tarifflaw12_UnaryApart.l9 k v0 w3 c3 v6 w8 v11 n w (j : Int) = some (v0, w3, c3, v6, w8, v11)
  | _, 0, _, _, _, h, _, _ => by omega
  | 0, n + 1, j, w, hm, _, hj, hs => by
    have : j = w.length := by omega
    subst this
    unfold tarifflaw12_UnaryApart.l9
    simp
  | m + 1, n + 1, j, w, hm, hmn, hj, hs => by
    have hlt : j < w.length := by omega
    obtain ⟨x, hx⟩ : ∃ x, w[j]? = some x := ⟨_, List.getElem?_eq_getElem hlt⟩
    obtain ⟨y, hy⟩ := num_any 77
    unfold tarifflaw12_UnaryApart.l9
    have e1 : decide ((j : Int) < (w.length : Int)) = true := by simpa using hlt
    rw [e1, if_pos rfl, hy]
    simp only [Option.bind_some]
    rw [if_pos ⟨by omega, by omega⟩, idx_nat, hx]
    simp only [Option.bind_some]
    rw [i64_small (by omega) (by omega), show (j : Int) + 1 = ((j + 1 : Nat) : Int) by omega]
    exact apart_l9 k v0 w3 c3 v6 w8 v11 m n (j + 1) _ (by rw [List.length_set]; omega) (by omega) (by rw [List.length_set]; omega) (by rw [List.length_set]; exact hs)
theorem apart_l13 (k : Nat) (v0 w3 : List Node) (c3 : Int) (v6 v11 : List Val) : ∀ (m n j : Nat) (w : List Val), m = w.length - j → m < n → j ≤ w.length → w.length ≤ 1000000 → tarifflaw12_UnaryApart.l13 k v0 w3 c3 v6 v11 n w (j : Int) = some (v0, w3, c3, v6, v11)
  | _, 0, _, _, _, h, _, _ => by omega
  | 0, n + 1, j, w, hm, _, hj, hs => by
    have : j = w.length := by omega
    subst this
    unfold tarifflaw12_UnaryApart.l13
    simp
  | m + 1, n + 1, j, w, hm, hmn, hj, hs => by
    have hlt : j < w.length := by omega
    obtain ⟨x, hx⟩ : ∃ x, w[j]? = some x := ⟨_, List.getElem?_eq_getElem hlt⟩
    obtain ⟨y, hy⟩ := num_any 78
    unfold tarifflaw12_UnaryApart.l13
    have e1 : decide ((j : Int) < (w.length : Int)) = true := by simpa using hlt
    rw [e1, if_pos rfl, hy]
    simp only [Option.bind_some]
    rw [if_pos ⟨by omega, by omega⟩, idx_nat, hx]
    simp only [Option.bind_some]
    rw [i64_small (by omega) (by omega), show (j : Int) + 1 = ((j + 1 : Nat) : Int) by omega]
    exact apart_l13 k v0 w3 c3 v6 v11 m n (j + 1) _ (by rw [List.length_set]; omega) (by omega) (by rw [List.length_set]; omega) (by rw [List.length_set]; exact hs)
theorem apart_l18 (k : Nat) (v0 w3 : List Node) (c3 : Int) (v6 v11 : List Val) (l : List Node) (hs : l.length ≤ 2000000) : ∀ (m n j : Nat), m = l.length - j → m < n → j ≤ l.length → (∀ i x, j ≤ i → l[i]? = some x → x = nodeZ) →
    tarifflaw12_UnaryApart.l18 k v0 w3 c3 v6 v11 l n (j : Int) = some (.go (v0, w3, c3, v6, v11))
  | _, 0, _, _, h, _, _ => by omega
  | 0, n + 1, j, hm, _, hj, _ => by
    have : j = l.length := by omega
    subst this
    unfold tarifflaw12_UnaryApart.l18
    simp
  | m + 1, n + 1, j, hm, hmn, hj, hz => by
    have hlt : j < l.length := by omega
    obtain ⟨x, hx⟩ : ∃ x, l[j]? = some x := ⟨_, List.getElem?_eq_getElem hlt⟩
    cases hz j x (Nat.le_refl _) hx
    unfold tarifflaw12_UnaryApart.l18
    have e1 : decide ((j : Int) < (l.length : Int)) = true := by simpa using hlt
    rw [e1, if_pos rfl, idx_nat, hx]
    simp only [Option.bind_some, beq_self_eq_true, Bool.and_self, Bool.not_true, Bool.false_eq_true, if_false]
    rw [i64_small (by omega) (by omega), show (j : Int) + 1 = ((j + 1 : Nat) : Int) by omega]
    exact apart_l18 k v0 w3 c3 v6 v11 l hs m n (j + 1) (by omega) (by omega) (by omega) (fun i y hi hy => hz i y (by omega) hy)
theorem unaryApart_true (k : Nat) (hk : 2000000 ≤ k) (v0 : List Node) (hlen : v0.length ≤ 1500000) (hok : NodesOk (k + 60) v0) : tarifflaw12_UnaryApart (k + 60) v0 = some true := by
  obtain ⟨ok, only, l, ⟨h1, h2, h3, h4, h5, h6⟩, hl, hn⟩ := plain3 (k + 60) (by omega) v0 hok
  obtain ⟨e, he⟩ : ∃ e, e = checkV v0 true := ⟨_, rfl⟩
  rw [← he] at h1 h2 h3 h4 h5 h6
  have hf : ∀ y ∈ l, Flat y := fun y hy => by
    obtain ⟨q, rfl⟩ := hl y hy
    exact litV_flat v0 q
  have hs : tariffref12_SameAll (k + 60) l l = some true := sameAll_self (k + 50) l hf (by omega) (by omega)
  have hs0 : tariffref12_SameAll (k + 60) [] [] = some true := sameAll_self (k + 50) [] (fun y h => by cases h) (by simp) (by simp)
  have g1 : tariffref12_SameAll (k + 60) (endsV ok l e).1 (endsV ok l e).1 = some true := by
    unfold endsV
    split
    · split
      · exact hs
      · exact hs0
    · exact hs0
  have g3 : (endsV ok l e).1.length ≤ 90000 := by
    unfold endsV
    split
    · split
      · exact hn
      · simp
    · simp
  have g4 : (onlyV ok only l e).1.length ≤ 90000 := by
    unfold onlyV
    split
    · split
      · split
        · exact hn
        · simp
      · simp
    · simp
  have ew : IntKind.wrap .i64 ((v0.length : Int) + (3 : Int)) = ((v0.length + 3 : Nat) : Int) := by
    rw [i64_small (by omega) (by omega)]
    omega
  have erow : (List.replicate (v0.length + 3) nodeZ).take 0 ++ v0 ++ (List.replicate (v0.length + 3) nodeZ).drop v0.length = v0 ++ List.replicate 3 nodeZ := by
    rw [List.take_zero, List.nil_append, List.drop_replicate, show v0.length + 3 - v0.length = 3 by omega]
  have etake : (v0 ++ List.replicate 3 nodeZ).take v0.length = v0 := List.take_left' rfl
  have el : (v0 ++ List.replicate 3 nodeZ).length = v0.length + 3 := by simp
  have ez : (0 : Int) + (v0.length : Int) = (v0.length : Int) := by omega
  unfold tarifflaw12_UnaryApart
  rw [known_ok]
  simp only [Option.bind_some, Bool.not_true, Bool.false_eq_true, if_false]
  rw [ew]
  simp only [Int.toNat_natCast, ez, Int.toNat_zero, List.length_replicate]
  rw [if_pos ⟨Int.le_refl _, by omega, by rw [room_iff]; omega⟩, if_pos (by omega), erow]
  rw [etake, h2, h3, h5]
  simp only [Option.bind_some]
  obtain ⟨A, hA⟩ : ∃ A, A = (endsV ok l e).1 := ⟨_, rfl⟩
  obtain ⟨B, hB⟩ : ∃ B, B = (onlyV ok only l e).1 := ⟨_, rfl⟩
  rw [← hA] at g1 g3 ⊢
  rw [← hB] at g4 ⊢
  have q1 := apart_l9 (k + 60) v0 (v0 ++ List.replicate 3 nodeZ) (v0.length : Int) A B A A.length (k + 60) 0 A rfl (by omega) (Nat.zero_le _) (by omega)
  have q2 := apart_l13 (k + 60) v0 (v0 ++ List.replicate 3 nodeZ) (v0.length : Int) A A B.length (k + 60) 0 B rfl (by omega) (Nat.zero_le _) (by omega)
  have q3 := apart_l18 (k + 60) v0 (v0 ++ List.replicate 3 nodeZ) (v0.length : Int) A A (v0 ++ List.replicate 3 nodeZ) (by omega) 3 (k + 60) v0.length (by omega) (by omega) (by omega) (fun i x hi hx => by
    rw [List.getElem?_append_right hi] at hx
    exact List.eq_of_mem_replicate (List.mem_of_getElem? hx))
  rw [show ((0 : Nat) : Int) = (0 : Int) from rfl] at q1 q2
  rw [q1]
  simp only [Option.bind_some]
  rw [q2]
  simp only [Option.bind_some, if_true]
  rw [q3]
  simp only [Option.bind_some]
  rw [g1]
  simp only [Option.bind_some, if_true, Int.toNat_natCast]
  rw [etake, nodes_same (k + 60) v0 (by omega) (by omega)]
  rfl
end Go.EvT
end
