/- A part of the proof in YtlpfolhckkcopaaGreatDoorPlain7: lemmas and contracts; nothing is claimed here. -/
import Derived.Test.YtlpfolhckkcopaaGreatDoorPlain5
section
set_option linter.unusedVariables false
set_option linter.unusedSimpArgs false
set_option maxRecDepth 100000
namespace Go.EvT
open Go.Ev Go Go.Lib
theorem in37 {op : Int} (h1 : 1 ≤ op) (h2 : op ≤ 37) : op = 1 ∨ op = 2 ∨ op = 3 ∨ op = 4 ∨ op = 5 ∨ op = 6 ∨ op = 7 ∨ op = 8 ∨ op = 9 ∨ op = 10 ∨ op = 11 ∨ op = 12 ∨ op = 13 ∨ op = 14 ∨ op = 15 ∨ op = 16 ∨ op = 17 ∨ op = 18 ∨ op = 19 ∨ op = 20 ∨ op = 21 ∨ op = 22 ∨ op = 23 ∨ op = 24 ∨ op = 25 ∨ op = 26 ∨ op = 27 ∨ op = 28 ∨ op = 29 ∨ op = 30 ∨ op = 31 ∨ op = 32 ∨ op = 33 ∨ op = 34 ∨ op = 35 ∨ op = 36 ∨ op = 37 := by omega
def fitB (lo hi kids : Int) : Bool := decide (kids ≥ lo) && (hi == -1 || decide (kids ≤ hi))
def arity (op : Int) : Int × Int := (expr_arity op).getD (0, -2)
theorem arity_eq (op : Int) : expr_arity op = some (arity op) := by
  have ite_some : ∀ (c : Bool) (a b : Int) (X : Option (Int × Int)), (∃ y, X = some y) → ∃ y, (if c = true then some (a, b) else X) = some y := by
    intro c a b X h
    cases c
    · simpa using h
    · exact ⟨_, rfl⟩
  have : ∃ y, expr_arity op = some y := by
    unfold expr_arity
    iterate 37 refine ite_some _ _ _ _ ?_
    exact ⟨_, rfl⟩
  obtain ⟨y, hy⟩ := this
  unfold arity
  rw [hy]
  rfl
def fitsB (op kids : Int) : Bool := (arity op).2 != -2 && fitB (arity op).1 (arity op).2 kids
theorem fits_eq (a : Node) : expr_fits a = some (fitsB a.op a.kids) := by
  unfold expr_fits fitsB fitB
  rw [arity_eq]
  simp only [Option.bind_some]
  generalize arity a.op = r
  by_cases h1 : r.2 = -2
  · simp [h1]
  · by_cases h2 : a.kids ≥ r.1
    · by_cases h3 : r.2 = -1
      · simp [h2, h3]
      · have e1 : (r.2 == -1) = false := by simpa using h3
        have e2 : (r.2 != -2) = true := by simpa using h1
        simp [e1, e2, h2]
    · have e2 : (r.2 != -2) = true := by simpa using h1
      simp [e2, h2]
theorem kids_out (op kids : Int) (h : ¬ (1 ≤ op ∧ op ≤ 37)) : tariffref10_kids op kids = some false := by
  unfold tariffref10_kids
  have e1 : (decide (op ≥ 1) && decide (op ≤ 7)) = false := by
    rw [Bool.eq_false_iff]
    intro q
    simp at q
    omega
  have ne : ∀ c : Int, 1 ≤ c → c ≤ 37 → (op == c) = false := by
    intro c c1 c2
    simp
    omega
  have d1 : (if decide (op ≥ (1 : Int)) = true then some (decide (op ≤ (7 : Int))) else some false) = some false := by
    by_cases a : op ≥ 1
    · have : ¬ op ≤ 7 := by omega
      simp [a, this]
    · simp [a]
  have d2 : (if decide (op ≥ (28 : Int)) = true then some (decide (op ≤ (34 : Int))) else some false) = some false := by
    by_cases a : op ≥ 28
    · have : ¬ op ≤ 34 := by omega
      simp [a, this]
    · simp [a]
  have d3 : (if decide (op ≥ (9 : Int)) = true then some (decide (op ≤ (20 : Int))) else some false) = some false := by
    by_cases a : op ≥ 9
    · have : ¬ op ≤ 20 := by omega
      simp [a, this]
    · simp [a]
  rw [d1, d2, d3]
  simp only [ne 29 (by decide) (by decide), ne 8 (by decide) (by decide), ne 24 (by decide) (by decide), ne 37 (by decide) (by decide), ne 23 (by decide) (by decide), ne 35 (by decide) (by decide), ne 21 (by decide) (by decide), ne 22 (by decide) (by decide), ne 25 (by decide) (by decide), ne 26 (by decide) (by decide), ne 27 (by decide) (by decide), ne 36 (by decide) (by decide)]
  rfl
theorem arity_out (op : Int) (h : ¬ (1 ≤ op ∧ op ≤ 37)) : arity op = (0, -2) := by
  have ne : ∀ c : Int, 1 ≤ c → c ≤ 37 → (op == c) = false := by
    intro c c1 c2
    simp
    omega
  unfold arity expr_arity
  simp only [ne 1 (by decide) (by decide), ne 2 (by decide) (by decide), ne 3 (by decide) (by decide), ne 4 (by decide) (by decide), ne 5 (by decide) (by decide), ne 6 (by decide) (by decide), ne 7 (by decide) (by decide), ne 8 (by decide) (by decide), ne 9 (by decide) (by decide), ne 10 (by decide) (by decide), ne 11 (by decide) (by decide), ne 12 (by decide) (by decide), ne 13 (by decide) (by decide), ne 14 (by decide) (by decide), ne 15 (by decide) (by decide), ne 16 (by decide) (by decide), ne 17 (by decide) (by decide), ne 18 (by decide) (by decide), ne 19 (by decide) (by decide), ne 20 (by decide) (by decide), ne 21 (by decide) (by decide), ne 22 (by decide) (by decide), ne 23 (by decide) (by decide), ne 24 (by decide) (by decide), ne 25 (by decide) (by decide), ne 26 (by decide) (by decide), ne 27 (by decide) (by decide), ne 28 (by decide) (by decide), ne 29 (by decide) (by decide), ne 30 (by decide) (by decide), ne 31 (by decide) (by decide), ne 32 (by decide) (by decide), ne 33 (by decide) (by decide), ne 34 (by decide) (by decide), ne 35 (by decide) (by decide), ne 36 (by decide) (by decide), ne 37 (by decide) (by decide)]
  rfl
theorem kids_eq (op kids : Int) : tariffref10_kids op kids = some (fitsB op kids) := by
  by_cases h : 1 ≤ op ∧ op ≤ 37
  · have f0 : fitB 0 0 kids = (kids == 0) := by unfold fitB; rw [Bool.eq_iff_iff]; simp; omega
    have f1 : fitB 1 1 kids = (kids == 1) := by unfold fitB; rw [Bool.eq_iff_iff]; simp; omega
    have f2 : fitB 2 2 kids = (kids == 2) := by unfold fitB; rw [Bool.eq_iff_iff]; simp; omega
    have f3 : fitB 3 3 kids = (kids == 3) := by unfold fitB; rw [Bool.eq_iff_iff]; simp; omega
    have f8 : (if decide (kids ≥ (0 : Int)) = true then some (decide (kids ≤ (8 : Int))) else some false) = some (fitB 0 8 kids) := by
      unfold fitB
      by_cases a : kids ≥ 0 <;> simp [a]
    have fm : fitB 0 (-1) kids = decide (kids ≥ 0) := by unfold fitB; simp
    have fs : fitB 1 (-1) kids = decide (kids ≥ 1) := by unfold fitB; simp
    rcases in37 h.1 h.2 with rfl | rfl | rfl | rfl | rfl | rfl | rfl | rfl | rfl | rfl | rfl | rfl | rfl | rfl | rfl | rfl | rfl | rfl | rfl | rfl | rfl | rfl | rfl | rfl | rfl | rfl | rfl | rfl | rfl | rfl | rfl | rfl | rfl | rfl | rfl | rfl | rfl
    all_goals first
      | exact congrArg some f0.symm
      | exact congrArg some f1.symm
      | exact congrArg some f2.symm
      | exact congrArg some f3.symm
      | exact congrArg some fm.symm
      | exact congrArg some fs.symm
      | (show ((if decide (kids ≥ (0 : Int)) = true then some (decide (kids ≤ (8 : Int))) else some false) : Option Bool).bind (fun b11 => some b11) = _
         rw [f8]
         rfl)
  · rw [kids_out _ _ h]
    unfold fitsB
    rw [arity_out _ h]
    rfl
theorem wants_eq (op i : Int) : expr_wanted op i = tariffref10_wants op i := by
  unfold expr_wanted tariffref10_wants
  by_cases h1 : op = 27
  · simp [h1]
  · by_cases h2 : op = 36
    · simp [h2]
    · by_cases h3 : op = 37
      · simp [h3]
      · by_cases h4 : op = 23
        · simp [h4]
        · simp [h1, h2, h3, h4]
theorem sorts_eq (op : Int) (h1 : 1 ≤ op) (h2 : op ≤ 37) : expr_sortOf op = tariffref10_sort op := by
  rcases in37 h1 h2 with rfl | rfl | rfl | rfl | rfl | rfl | rfl | rfl | rfl | rfl | rfl | rfl | rfl | rfl | rfl | rfl | rfl | rfl | rfl | rfl | rfl | rfl | rfl | rfl | rfl | rfl | rfl | rfl | rfl | rfl | rfl | rfl | rfl | rfl | rfl | rfl | rfl
  all_goals rfl
end Go.EvT
end
section
set_option linter.unusedVariables false
set_option linter.unusedSimpArgs false
set_option maxRecDepth 100000
namespace Go.EvT
open Go.Ev Go Go.Lib
def decZ (d : Dec) : Bool := (d.neg == false) && (((d.coef.hi == (0 : Int)) && ((d.coef.lo == (0 : Int)) && true)) && ((d.scale == (0 : Int)) && true))
def txtZ (s : ByteArray) : Bool := s.data.toList == (ByteArray.mk #[]).data.toList
def spanB (s : ByteArray) : Bool := s.data.toList == (ByteArray.mk #[91, 93]).data.toList || s.data.toList == (ByteArray.mk #[91, 41]).data.toList || s.data.toList == (ByteArray.mk #[40, 93]).data.toList || s.data.toList == (ByteArray.mk #[40, 41]).data.toList
structure NodeOk (n : Node) : Prop where
  coef : n.num.coef.Ok
  text : n.text.size ≤ 2000000
def restB (t : ByteArray) (d : Dec) (day : Int) : Bool := txtZ t && decZ d && day == 0
def fieldsB (n : Node) : Bool :=
  if n.op = 4 then n.num.form && !n.num.neg && restB n.text ⟨false, ⟨0, 0⟩, 0⟩ n.day
  else if n.op = 5 then validText n.text && decide ((n.text.size : Int) ≤ 1000) && restB (ByteArray.mk #[]) n.num n.day
  else if n.op = 6 then decide (n.day ≥ 1) && decide (n.day ≤ 3652059) && restB n.text n.num 0
  else if n.op = 7 ∨ n.op = 24 ∨ n.op = 25 ∨ n.op = 28 then nameB n.text && restB (ByteArray.mk #[]) n.num n.day
  else if n.op = 35 then spanB n.text && restB (ByteArray.mk #[]) n.num n.day
  else restB n.text n.num n.day
theorem rest_eq (t : ByteArray) (d : Dec) (day : Int) : ((((if (t.data.toList == (ByteArray.mk #[]).data.toList) = true then some ((d.neg == false) && (((d.coef.hi == (0 : Int)) && ((d.coef.lo == (0 : Int)) && true)) && ((d.scale == (0 : Int)) && true))) else some false) : Option Bool).bind fun b13 =>
    ((if b13 = true then some (day == (0 : Int)) else some false) : Option Bool).bind fun b14 => some b14)) = some (restB t d day) := by
  unfold restB txtZ decZ
  rcases Bool.eq_false_or_eq_true (t.data.toList == (ByteArray.mk #[]).data.toList) with q | q <;> rw [q]
  · simp only [if_true, Option.bind_some, Bool.true_and]
    generalize ((d.neg == false) && (((d.coef.hi == (0 : Int)) && ((d.coef.lo == (0 : Int)) && true)) && ((d.scale == (0 : Int)) && true))) = b
    cases b <;> simp
  · simp
theorem fields_eq (k : Nat) (n : Node) (hn : NodeOk n) (hk : n.text.size + 1000 ≤ k) : tariffref10_fields k n = some (fieldsB n) := by
  unfold tariffref10_fields fieldsB
  by_cases h4 : n.op = 4
  · have e : (n.op == (4 : Int)) = true := by simpa using h4
    rw [e, if_pos rfl, if_pos h4, rform_eq k (by omega) n.num hn.coef]
    simp only [Option.bind_some]
    cases hf : n.num.form <;> cases hg : n.num.neg <;> simp only [Bool.not_true, Bool.not_false, if_true, Bool.false_eq_true, if_false, Option.bind_some, Bool.true_and, Bool.false_and]
    all_goals first | rfl | exact rest_eq n.text ⟨false, ⟨0, 0⟩, 0⟩ n.day
  have e4 : (n.op == (4 : Int)) = false := by simpa using h4
  rw [e4, if_neg h4]
  simp only [Bool.false_eq_true, if_false]
  by_cases h5 : n.op = 5
  · have e : (n.op == (5 : Int)) = true := by simpa using h5
    rw [e, if_pos rfl, if_pos h5, rvalid_eq k n.text hn.text (by omega)]
    simp only [Option.bind_some]
    have e2 : decide ((n.text.size : Int) > 1000) = !decide ((n.text.size : Int) ≤ 1000) := by
      by_cases q : (n.text.size : Int) ≤ 1000
      · simp [q]
      · simp [q]; omega
    rw [e2]
    cases hv : validText n.text <;> rcases Bool.eq_false_or_eq_true (decide ((n.text.size : Int) ≤ 1000)) with q | q <;> rw [q] <;> simp only [Bool.not_true, Bool.not_false, if_true, Bool.false_eq_true, if_false, Option.bind_some, Bool.true_and, Bool.false_and]
    all_goals first | rfl | exact rest_eq (ByteArray.mk #[]) n.num n.day
  have e5 : (n.op == (5 : Int)) = false := by simpa using h5
  rw [e5, if_neg h5]
  simp only [Bool.false_eq_true, if_false]
  by_cases h6 : n.op = 6
  · have e : (n.op == (6 : Int)) = true := by simpa using h6
    rw [e, if_pos rfl, if_pos h6]
    unfold tariffref03_Is
    rcases Bool.eq_false_or_eq_true (decide (n.day ≥ 1)) with q | q <;> rcases Bool.eq_false_or_eq_true (decide (n.day ≤ 3652059)) with q' | q' <;> rw [q, q'] <;> simp only [Bool.not_true, Bool.not_false, if_true, Bool.false_eq_true, if_false, Option.bind_some, Bool.true_and, Bool.false_and]
    all_goals first | rfl | exact rest_eq n.text n.num 0
  have e6 : (n.op == (6 : Int)) = false := by simpa using h6
  rw [e6, if_neg h6]
  simp only [Bool.false_eq_true, if_false]
  by_cases hN : n.op = 7 ∨ n.op = 24 ∨ n.op = 25 ∨ n.op = 28
  · rw [if_pos hN]
    have ej : (if (n.op == (7 : Int)) = true then some (n.text, n.day, n.op, true, n.num) else if (n.op == (24 : Int)) = true then some (n.text, n.day, n.op, true, n.num) else if (n.op == (25 : Int)) = true then some (n.text, n.day, n.op, true, n.num) else some (n.text, n.day, n.op, (n.op == (28 : Int)), n.num)) = some (n.text, n.day, n.op, true, n.num) := by
      rcases hN with h | h | h | h <;> simp [h]
    rw [ej]
    simp only [Option.bind_some, if_true]
    rw [rname_eq k (by omega)]
    simp only [Option.bind_some]
    rcases Bool.eq_false_or_eq_true (nameB n.text) with q | q <;> rw [q] <;> simp only [Bool.not_true, Bool.not_false, if_true, Bool.false_eq_true, if_false, Option.bind_some, Bool.true_and, Bool.false_and]
    exact rest_eq (ByteArray.mk #[]) n.num n.day
  · rw [if_neg hN]
    have a7 : (n.op == (7 : Int)) = false := by simp; omega
    have a24 : (n.op == (24 : Int)) = false := by simp; omega
    have a25 : (n.op == (25 : Int)) = false := by simp; omega
    have a28 : (n.op == (28 : Int)) = false := by simp; omega
    rw [a7, a24, a25, a28]
    simp only [Option.bind_some, Bool.false_eq_true, if_false]
    by_cases h35 : n.op = 35
    · have e : (n.op == (35 : Int)) = true := by simpa using h35
      rw [e, if_pos rfl, if_pos h35]
      unfold spanB
      generalize (n.text.data.toList == (ByteArray.mk #[91, 93]).data.toList) = q1
      generalize (n.text.data.toList == (ByteArray.mk #[91, 41]).data.toList) = q2
      generalize (n.text.data.toList == (ByteArray.mk #[40, 93]).data.toList) = q3
      generalize (n.text.data.toList == (ByteArray.mk #[40, 41]).data.toList) = q4
      cases q1 <;> cases q2 <;> cases q3 <;> cases q4 <;> first | rfl | exact rest_eq (ByteArray.mk #[]) n.num n.day
    · have e : (n.op == (35 : Int)) = false := by simpa using h35
      rw [e, if_neg h35]
      exact rest_eq n.text n.num n.day
end Go.EvT
end
section
set_option linter.unusedVariables false
set_option linter.unusedSimpArgs false
set_option maxRecDepth 100000
namespace Go.EvT
open Go.Ev Go Go.Lib
theorem plain_eq (k : Nat) (n : Node) (hn : NodeOk n) (hk : n.text.size + 1000 ≤ k) : ∃ p b, expr_plain k n = some (p, b) ∧ (b && restB p.text p.num p.day) = fieldsB n := by
  unfold expr_plain fieldsB
  by_cases h4 : n.op = 4
  · have e : (n.op == (4 : Int)) = true := by simpa using h4
    rw [e, if_pos rfl, if_pos h4, form_eq k (by omega) n.num hn.coef]
    refine ⟨⟨n.op, n.kids, n.text, ⟨false, ⟨0, 0⟩, 0⟩, n.day⟩, n.num.form && !n.num.neg, ?_, rfl⟩
    cases n.num.form <;> rfl
  have e4 : (n.op == (4 : Int)) = false := by simpa using h4
  rw [e4, if_neg h4]
  simp only [Bool.false_eq_true, if_false]
  by_cases h5 : n.op = 5
  · have e : (n.op == (5 : Int)) = true := by simpa using h5
    rw [e, if_pos rfl, if_pos h5]
    refine ⟨⟨n.op, n.kids, ByteArray.mk #[], n.num, n.day⟩, validText n.text && decide ((n.text.size : Int) ≤ 1000), ?_, rfl⟩
    unfold chars_Valid
    rcases Bool.eq_false_or_eq_true (decide ((n.text.size : Int) ≤ 1000)) with q | q <;> rw [q]
    · simp
    · simp
  have e5 : (n.op == (5 : Int)) = false := by simpa using h5
  rw [e5, if_neg h5]
  simp only [Bool.false_eq_true, if_false]
  by_cases h6 : n.op = 6
  · have e : (n.op == (6 : Int)) = true := by simpa using h6
    rw [e, if_pos rfl, if_pos h6]
    refine ⟨⟨n.op, n.kids, n.text, n.num, 0⟩, decide (n.day ≥ 1) && decide (n.day ≤ 3652059), ?_, rfl⟩
    rcases Bool.eq_false_or_eq_true (decide (n.day ≥ 1)) with q | q <;> rw [q] <;> simp
  have e6 : (n.op == (6 : Int)) = false := by simpa using h6
  rw [e6, if_neg h6]
  simp only [Bool.false_eq_true, if_false]
  by_cases hN : n.op = 7 ∨ n.op = 24 ∨ n.op = 25 ∨ n.op = 28
  · rw [if_pos hN]
    refine ⟨⟨n.op, n.kids, ByteArray.mk #[], n.num, n.day⟩, nameB n.text, ?_, rfl⟩
    rcases hN with h | h | h | h <;> simp [h, name_eq k (by omega)]
  · rw [if_neg hN]
    have a7 : (n.op == (7 : Int)) = false := by simp; omega
    have a24 : (n.op == (24 : Int)) = false := by simp; omega
    have a25 : (n.op == (25 : Int)) = false := by simp; omega
    have a28 : (n.op == (28 : Int)) = false := by simp; omega
    rw [a7, a24, a25, a28]
    simp only [Option.bind_some, Bool.false_eq_true, if_false]
    by_cases h35 : n.op = 35
    · have e : (n.op == (35 : Int)) = true := by simpa using h35
      rw [e, if_pos rfl, if_pos h35]
      refine ⟨⟨n.op, n.kids, ByteArray.mk #[], n.num, n.day⟩, spanB n.text, ?_, rfl⟩
      unfold spanB
      generalize (n.text.data.toList == (ByteArray.mk #[91, 93]).data.toList) = q1
      generalize (n.text.data.toList == (ByteArray.mk #[91, 41]).data.toList) = q2
      generalize (n.text.data.toList == (ByteArray.mk #[40, 93]).data.toList) = q3
      generalize (n.text.data.toList == (ByteArray.mk #[40, 41]).data.toList) = q4
      cases q1 <;> cases q2 <;> cases q3 <;> cases q4 <;> rfl
    · have e : (n.op == (35 : Int)) = false := by simpa using h35
      rw [e, if_neg h35]
      exact ⟨n, true, rfl, by simp⟩
end Go.EvT
end
section
set_option linter.unusedVariables false
set_option linter.unusedSimpArgs false
set_option maxRecDepth 100000
namespace Go.EvT
open Go.Ev Go Go.Lib
def txtAt (nodes : List Node) (p : Int) : List UInt8 := match idx nodes p with
  | some n => n.text.data.toList
  | none => []
def InAt (nodes : List Node) (p : Int) : Prop := ∃ n, idx nodes p = some n
theorem txtAt_eq {nodes : List Node} {p : Int} {n : Node} (h : idx nodes p = some n) : n.text.data.toList = txtAt nodes p := by
  unfold txtAt
  rw [h]
theorem idx_nat {α : Type} (l : List α) (i : Nat) : idx l (i : Int) = l[i]? := by
  unfold idx
  rw [if_pos (by omega)]
  rfl
theorem unlike_inner (K : Nat) (v0 : List Node) (v1 v9 : List expr_thing) (v10 v11 : Int) (l : List expr_thing) (b : expr_thing) (hl : l.length ≤ 1000) (hb : InAt v0 b.at_) (hin : ∀ a ∈ l, InAt v0 a.at_) : ∀ (m n j : Nat), m = l.length - j → m < n → j ≤ l.length →
    expr_unlike.l5 K v0 v1 v9 v10 v11 l (l.length : Int) b n (j : Int) = if (l.drop j).any (fun a => txtAt v0 b.at_ == txtAt v0 a.at_) then some (.ret false) else some (.go (v0, v1, v9, v10, v11))
  | _, 0, _, _, h, _ => by omega
  | 0, n + 1, j, hm, _, hj => by
    have : j = l.length := by omega
    subst this
    unfold expr_unlike.l5
    simp
  | m + 1, n + 1, j, hm, hmn, hj => by
    have hlt : j < l.length := by omega
    obtain ⟨x, hx⟩ : ∃ x, l[j]? = some x := ⟨_, List.getElem?_eq_getElem hlt⟩
    obtain ⟨nb, hnb⟩ := hb
    obtain ⟨nx, hnx⟩ := hin x (List.mem_of_getElem? hx)
    unfold expr_unlike.l5
    have e1 : decide ((j : Int) < (l.length : Int)) = true := by simpa using hlt
    rw [e1, if_pos rfl, idx_nat, hx]
    simp only [Option.bind_some]
    rw [hnb]
    simp only [Option.bind_some]
    rw [hnx]
    simp only [Option.bind_some]
    rw [txtAt_eq hnb, txtAt_eq hnx, i64_small (by omega) (by omega), show (j : Int) + 1 = ((j + 1 : Nat) : Int) by omega, unlike_inner K v0 v1 v9 v10 v11 l b hl ⟨nb, hnb⟩ hin m n (j + 1) (by omega) (by omega) (by omega), drop_cons hx, List.any_cons]
    rcases Bool.eq_false_or_eq_true (txtAt v0 b.at_ == txtAt v0 x.at_) with q | q <;> rw [q] <;> simp
def dupFrom (ts : List (List UInt8)) : Nat → Nat → Bool
  | 0, _ => false
  | b + 1, i => match ts[i]? with
    | some t => (ts.take i).any (fun u => t == u) || dupFrom ts b (i + 1)
    | none => false
theorem unlike_outer (K : Nat) (v0 : List Node) (l : List expr_thing) (hl : l.length ≤ 1000) (hin : ∀ a ∈ l, InAt v0 a.at_) (hK : l.length < K) : ∀ (b n i : Nat), b = l.length - i → b < n → i ≤ l.length →
    expr_unlike.l2 K n v0 l l (l.length : Int) (i : Int) = if dupFrom (l.map fun a => txtAt v0 a.at_) b i then some (.ret false) else some (.go ())
  | _, 0, _, _, h, _ => by omega
  | 0, n + 1, i, hb, _, hi => by
    have : i = l.length := by omega
    subst this
    unfold expr_unlike.l2
    simp [dupFrom]
  | b + 1, n + 1, i, hb, hbn, hi => by
    have hlt : i < l.length := by omega
    obtain ⟨x, hx⟩ : ∃ x, l[i]? = some x := ⟨_, List.getElem?_eq_getElem hlt⟩
    unfold expr_unlike.l2
    have e1 : decide ((i : Int) < (l.length : Int)) = true := by simpa using hlt
    rw [e1, if_pos rfl, idx_nat, hx]
    simp only [Option.bind_some]
    rw [if_pos ⟨by omega, by omega, by omega⟩]
    have ht : ((i : Int)).toNat = i := rfl
    rw [ht]
    have hi' := unlike_inner K v0 l l (l.length : Int) (i : Int) (l.take i) x (by simp; omega) (hin x (List.mem_of_getElem? hx)) (fun a ha => hin a (List.mem_of_mem_take ha)) (l.take i).length K 0 rfl (by simp; omega) (Nat.zero_le _)
    rw [show ((0 : Nat) : Int) = (0 : Int) from rfl, List.drop_zero] at hi'
    rw [hi']
    have hm : (l.map fun a => txtAt v0 a.at_)[i]? = some (txtAt v0 x.at_) := by rw [List.getElem?_map, hx]; rfl
    simp only [dupFrom, hm]
    have hany : ((l.map fun a => txtAt v0 a.at_).take i).any (fun u => txtAt v0 x.at_ == u) = (l.take i).any (fun a => txtAt v0 x.at_ == txtAt v0 a.at_) := by
      rw [← List.map_take, List.any_map]
      rfl
    rw [hany]
    rcases Bool.eq_false_or_eq_true ((l.take i).any (fun a => txtAt v0 x.at_ == txtAt v0 a.at_)) with q | q <;> rw [q]
    · simp
    · simp only [Bool.false_eq_true, if_false, Option.bind_some, Bool.false_or]
      rw [i64_small (by omega) (by omega), show (i : Int) + 1 = ((i + 1 : Nat) : Int) by omega]
      exact unlike_outer K v0 l hl hin hK b n (i + 1) (by omega) (by omega) (by omega)
theorem unlike_eq (K : Nat) (v0 : List Node) (l : List expr_thing) (hl : l.length ≤ 1000) (hin : ∀ a ∈ l, InAt v0 a.at_) (hK : l.length < K) : expr_unlike K v0 l = some (!dupFrom (l.map fun a => txtAt v0 a.at_) l.length 0) := by
  have h := unlike_outer K v0 l hl hin hK l.length K 0 rfl hK (Nat.zero_le _)
  unfold expr_unlike
  rw [show (0 : Int) = ((0 : Nat) : Int) from rfl, h]
  cases dupFrom (l.map fun a => txtAt v0 a.at_) l.length 0 <;> rfl
end Go.EvT
end
section
set_option linter.unusedVariables false
set_option linter.unusedSimpArgs false
set_option maxRecDepth 100000
namespace Go.EvT
open Go.Ev Go Go.Lib
theorem twice_inner (K : Nat) (v0 : List Node) (l : List Int) (i : Nat) (x : Int) (hx : l[i]? = some x) (hl : l.length ≤ 1000) (hin : ∀ p ∈ l, InAt v0 p) : ∀ (m n j : Nat), m = i - j → m < n → j ≤ i →
    tariffref10_twice.l5 K v0 l (i : Int) n (j : Int) = if ((l.take i).drop j).any (fun p => txtAt v0 x == txtAt v0 p) then some (.ret true) else some (.go (v0, l, (i : Int)))
  | _, 0, _, _, h, _ => by omega
  | 0, n + 1, j, hm, _, hj => by
    have : j = i := by omega
    subst this
    unfold tariffref10_twice.l5
    have e0 : (l.take j).drop j = [] := List.drop_eq_nil_of_le (by simp; omega)
    rw [e0]
    simp
  | m + 1, n + 1, j, hm, hmn, hj => by
    have hlt : j < i := by omega
    have hil : i < l.length := getElem?_lt hx
    obtain ⟨y, hy⟩ : ∃ y, l[j]? = some y := ⟨_, List.getElem?_eq_getElem (by omega)⟩
    obtain ⟨nx, hnx⟩ := hin x (List.mem_of_getElem? hx)
    obtain ⟨ny, hny⟩ := hin y (List.mem_of_getElem? hy)
    have hy' : (l.take i)[j]? = some y := by rw [List.getElem?_take_of_lt hlt, hy]
    unfold tariffref10_twice.l5
    have e1 : decide ((j : Int) < (i : Int)) = true := by simpa using hlt
    rw [e1, if_pos rfl, idx_nat, hx]
    simp only [Option.bind_some]
    rw [hnx]
    simp only [Option.bind_some]
    rw [idx_nat, hy]
    simp only [Option.bind_some]
    rw [hny]
    simp only [Option.bind_some]
    rw [txtAt_eq hnx, txtAt_eq hny, i64_small (by omega) (by omega), show (j : Int) + 1 = ((j + 1 : Nat) : Int) by omega, twice_inner K v0 l i x hx hl hin m n (j + 1) (by omega) (by omega) (by omega), drop_cons hy', List.any_cons]
    rcases Bool.eq_false_or_eq_true (txtAt v0 x == txtAt v0 y) with q | q <;> rw [q] <;> simp
theorem twice_outer (K : Nat) (v0 : List Node) (l : List Int) (hl : l.length ≤ 1000) (hin : ∀ p ∈ l, InAt v0 p) (hK : l.length < K) : ∀ (b n i : Nat), b = l.length - i → b < n → i ≤ l.length →
    tariffref10_twice.l2 K n v0 l (i : Int) = if dupFrom (l.map (txtAt v0)) b i then some (.ret true) else some (.go ())
  | _, 0, _, _, h, _ => by omega
  | 0, n + 1, i, hb, _, hi => by
    have : i = l.length := by omega
    subst this
    unfold tariffref10_twice.l2
    simp [dupFrom]
  | b + 1, n + 1, i, hb, hbn, hi => by
    have hlt : i < l.length := by omega
    obtain ⟨x, hx⟩ : ∃ x, l[i]? = some x := ⟨_, List.getElem?_eq_getElem hlt⟩
    unfold tariffref10_twice.l2
    have e1 : decide ((i : Int) < (l.length : Int)) = true := by simpa using hlt
    rw [e1, if_pos rfl]
    have hi' := twice_inner K v0 l i x hx hl hin i K 0 rfl (by omega) (Nat.zero_le _)
    rw [show ((0 : Nat) : Int) = (0 : Int) from rfl, List.drop_zero] at hi'
    rw [hi']
    have hm : (l.map (txtAt v0))[i]? = some (txtAt v0 x) := by rw [List.getElem?_map, hx]; rfl
    simp only [dupFrom, hm]
    have hany : ((l.map (txtAt v0)).take i).any (fun u => txtAt v0 x == u) = (l.take i).any (fun p => txtAt v0 x == txtAt v0 p) := by
      rw [← List.map_take, List.any_map]
      rfl
    rw [hany]
    rcases Bool.eq_false_or_eq_true ((l.take i).any (fun p => txtAt v0 x == txtAt v0 p)) with q | q <;> rw [q]
    · simp
    · simp only [Bool.false_eq_true, if_false, Option.bind_some, Bool.false_or]
      rw [i64_small (by omega) (by omega), show (i : Int) + 1 = ((i + 1 : Nat) : Int) by omega]
      exact twice_outer K v0 l hl hin hK b n (i + 1) (by omega) (by omega) (by omega)
theorem twice_names (K : Nat) (v0 : List Node) (l : List Int) (hl : l.length ≤ 1000) (hin : ∀ p ∈ l, InAt v0 p) (hK : l.length < K) : tariffref10_twice K v0 l = some (dupFrom (l.map (txtAt v0)) l.length 0) := by
  have h := twice_outer K v0 l hl hin hK l.length K 0 rfl hK (Nat.zero_le _)
  unfold tariffref10_twice
  rw [show (0 : Int) = ((0 : Nat) : Int) from rfl, h]
  cases dupFrom (l.map (txtAt v0)) l.length 0 <;> rfl
end Go.EvT
end
section
set_option linter.unusedVariables false
set_option linter.unusedSimpArgs false
set_option maxRecDepth 100000
namespace Go.EvT
open Go.Ev Go Go.Lib
def wantI (op i : Int) : Int := (expr_wanted op i).getD 1
theorem wantI_eq (op i : Int) : expr_wanted op i = some (wantI op i) := by
  unfold wantI expr_wanted
  by_cases h1 : op = 27
  · simp [h1]
  · by_cases h2 : op = 36
    · simp [h2]
    · by_cases h3 : op = 37
      · simp [h3]
      · by_cases h4 : op = 23
        · by_cases h5 : i = 1 <;> simp [h4, h5]
        · simp [h1, h2, h3, h4]
def sortI (op : Int) : Int := (expr_sortOf op).getD 1
theorem sortI_eq (op : Int) : expr_sortOf op = some (sortI op) := by
  unfold sortI expr_sortOf
  by_cases h1 : op ≤ 27
  · simp [h1]
  · by_cases h2 : op = 28
    · simp [h2]
    · by_cases h3 : op = 29
      · simp [h3]
      · by_cases h4 : op = 37
        · simp [h4]
        · by_cases h5 : op = 36
          · simp [h5]
          · simp [h1, h2, h3, h4, h5]
def sortsOk (op : Int) : Nat → List (Int × Int) → Bool
  | _, [] => true
  | j, a :: r => a.1 == wantI op j && sortsOk op (j + 1) r
def dmax : Int → List (Int × Int) → Int
  | m, [] => m
  | m, a :: r => dmax (if a.2 > m then a.2 else m) r
def sd (a : expr_thing) : Int × Int := (a.sort_, a.depth)
theorem check_parts (K : Nat) (o11 n11 : Int) (cut kids : Nat) (v0 : List Node) (v1 : Bool) (w5 : List expr_thing) (v6 v7 : Int) (v18 : List Node) (v19 v20 : Int) (b8 : Node) (hw : w5.length = cut + kids) (hl : w5.length ≤ 1000) : ∀ (m n j : Nat) (d : Int), m = kids - j → m < n → j ≤ kids →
    expr_Check.l14 K o11 n11 (cut : Int) (kids : Int) v0 v1 w5 v6 v7 v18 v19 v20 (kids : Int) b8 n d (j : Int) =
      if sortsOk b8.op j ((w5.drop (cut + j)).map sd) then some (.go (o11, n11, v0, v1, w5, v6, v7, dmax d ((w5.drop (cut + j)).map sd), v18, v19, v20, b8)) else some (.ret 2)
  | _, 0, _, _, _, h, _ => by omega
  | 0, n + 1, j, d, hm, _, hj => by
    have : j = kids := by omega
    subst this
    unfold expr_Check.l14
    have e0 : w5.drop (cut + j) = [] := List.drop_eq_nil_of_le (by omega)
    rw [e0]
    simp [sortsOk, dmax]
  | m + 1, n + 1, j, d, hm, hmn, hj => by
    have hlt : j < kids := by omega
    obtain ⟨x, hx⟩ : ∃ x, w5[cut + j]? = some x := ⟨_, List.getElem?_eq_getElem (by omega)⟩
    unfold expr_Check.l14
    have e1 : decide ((j : Int) < (kids : Int)) = true := by simpa using hlt
    rw [e1, if_pos rfl, if_pos ⟨by omega, by omega⟩, show (cut : Int) + (j : Int) = ((cut + j : Nat) : Int) by omega, idx_nat, hx]
    simp only [Option.bind_some]
    rw [wantI_eq]
    simp only [Option.bind_some]
    rw [drop_cons hx, List.map_cons]
    rcases Decidable.em (x.sort_ = wantI b8.op (j : Int)) with q | q
    · have q1 : (x.sort_ != wantI b8.op (j : Int)) = false := by simpa using q
      have q2 : ((sd x).1 == wantI b8.op (j : Int)) = true := by simpa [sd] using q
      have hs : sortsOk b8.op j (sd x :: (w5.drop (cut + j + 1)).map sd) = sortsOk b8.op (j + 1) ((w5.drop (cut + j + 1)).map sd) := by simp only [sortsOk, q2, Bool.true_and]
      rw [hs, q1, i64_small (by omega) (by omega), show (j : Int) + 1 = ((j + 1 : Nat) : Int) by omega]
      simp only [Bool.false_eq_true, if_false]
      rw [check_parts K o11 n11 cut kids v0 v1 w5 v6 v7 v18 v19 v20 b8 hw hl m n (j + 1) _ (by omega) (by omega) (by omega)]
      rfl
    · have q1 : (x.sort_ != wantI b8.op (j : Int)) = true := by simpa using q
      have q2 : ((sd x).1 == wantI b8.op (j : Int)) = false := by simpa [sd] using q
      have hs : sortsOk b8.op j (sd x :: (w5.drop (cut + j + 1)).map sd) = false := by simp only [sortsOk, q2, Bool.false_and]
      rw [hs, q1]
      simp
end Go.EvT
end
section
set_option linter.unusedVariables false
set_option linter.unusedSimpArgs false
set_option maxRecDepth 100000
namespace Go.EvT
open Go.Ev Go Go.Lib
def opAt (v0 : List Node) (q : Nat) : Int := (v0[q]?).elim 0 Node.op
def ent (v0 : List Node) (w : List Int) (q : Nat) : Int × Int := (sortI (opAt v0 q), (w[q]?).getD 0)
theorem rwant_eq (op i : Int) : tariffref10_wants op i = some (wantI op i) := by rw [← wants_eq, wantI_eq]
theorem rsort_eq {op : Int} (h1 : 1 ≤ op) (h2 : op ≤ 37) : tariffref10_sort op = some (sortI op) := by rw [← sorts_eq op h1 h2, sortI_eq]
theorem rcheck_parts (K : Nat) (v0 : List Node) (v1 : Bool) (v5 : List (List Int)) (v9 : Int) (i : Nat) (qs : List Nat) (b : Node) (w : List Int) (hb : v0[i]? = some b) (h5 : v5[i]? = some (qs.map fun (q : Nat) => (q : Int))) (hl : qs.length ≤ 1000)
    (hq : ∀ q ∈ qs, q < i) (hop : ∀ q ∈ qs, 1 ≤ opAt v0 q ∧ opAt v0 q ≤ 37) (hi : i < w.length) (hv : i < v0.length) : ∀ (m n j : Nat) (d : Int), m = qs.length - j → m < n → j ≤ qs.length →
    tariffref10_Check.l14 K v0 v1 v5 v9 (i : Int) n (w.set i d) (j : Int) =
      if sortsOk b.op j ((qs.drop j).map (ent v0 w)) then some (.go (v0, v1, v5, w.set i (dmax d ((qs.drop j).map (ent v0 w))), v9, (i : Int))) else some (.ret 2)
  | _, 0, _, _, _, h, _ => by omega
  | 0, n + 1, j, d, hm, _, hj => by
    have : j = qs.length := by omega
    subst this
    unfold tariffref10_Check.l14
    rw [idx_nat, h5]
    simp [sortsOk, dmax]
  | m + 1, n + 1, j, d, hm, hmn, hj => by
    have hlt : j < qs.length := by omega
    obtain ⟨q, hqj⟩ : ∃ q, qs[j]? = some q := ⟨_, List.getElem?_eq_getElem hlt⟩
    have hqm := List.mem_of_getElem? hqj
    have hqi := hq q hqm
    obtain ⟨o1, o2⟩ := hop q hqm
    obtain ⟨nd, hnd⟩ : ∃ nd, v0[q]? = some nd := ⟨_, List.getElem?_eq_getElem (by omega)⟩
    obtain ⟨x, hx⟩ : ∃ x, w[q]? = some x := ⟨_, List.getElem?_eq_getElem (by omega)⟩
    have hopn : opAt v0 q = nd.op := by unfold opAt; rw [hnd]; rfl
    rw [hopn] at o1 o2
    have hpj : (qs.map fun (q : Nat) => (q : Int))[j]? = some (q : Int) := by rw [List.getElem?_map, hqj]; rfl
    have hwq : (w.set i d)[q]? = some x := by rw [List.getElem?_set_ne (by omega), hx]
    have hwi : (w.set i d)[i]? = some d := by rw [List.getElem?_set_self hi]
    unfold tariffref10_Check.l14
    simp only [idx_nat, h5, hpj, hnd, hb, hwq, hwi, Option.bind_some, List.length_map, List.length_set]
    have e1 : decide ((j : Int) < (qs.length : Int)) = true := by simpa using hlt
    rw [e1, if_pos rfl, rsort_eq o1 o2]
    simp only [Option.bind_some]
    rw [rwant_eq]
    simp only [Option.bind_some]
    rw [drop_cons hqj, List.map_cons]
    have hent : ent v0 w q = (sortI nd.op, x) := by unfold ent; rw [hopn, hx]; rfl
    rcases Decidable.em (sortI nd.op = wantI b.op (j : Int)) with q0 | q0
    · have q1 : (sortI nd.op != wantI b.op (j : Int)) = false := by simpa using q0
      have q2 : ((ent v0 w q).1 == wantI b.op (j : Int)) = true := by rw [hent]; simpa using q0
      have hs : sortsOk b.op j (ent v0 w q :: (qs.drop (j + 1)).map (ent v0 w)) = sortsOk b.op (j + 1) ((qs.drop (j + 1)).map (ent v0 w)) := by simp only [sortsOk, q2, Bool.true_and]
      rw [hs, q1]
      simp only [Bool.false_eq_true, if_false]
      rw [if_pos ⟨by omega, by omega⟩, if_pos ⟨by omega, by omega⟩, if_pos ⟨by omega, by omega⟩, i64_small (by omega) (by omega), show (j : Int) + 1 = ((j + 1 : Nat) : Int) by omega, show ((i : Int)).toNat = i from rfl, List.set_set]
      rw [rcheck_parts K v0 v1 v5 v9 i qs b w hb h5 hl hq hop hi hv m n (j + 1) _ (by omega) (by omega) (by omega)]
      simp only [dmax, hent]
    · have q1 : (sortI nd.op != wantI b.op (j : Int)) = true := by simpa using q0
      have q2 : ((ent v0 w q).1 == wantI b.op (j : Int)) = false := by rw [hent]; simpa using q0
      have hs : sortsOk b.op j (ent v0 w q :: (qs.drop (j + 1)).map (ent v0 w)) = false := by simp only [sortsOk, q2, Bool.false_and]
      rw [hs, q1]
      simp
end Go.EvT
end
section
set_option linter.unusedVariables false
set_option linter.unusedSimpArgs false
set_option maxRecDepth 100000
namespace Go.EvT
open Go.Ev Go Go.Lib
def ints (l : List Nat) : List Int := l.map fun (q : Nat) => (q : Int)
def stk : List Node → Nat → List Nat → List (List Nat) → Option (List Nat × List (List Nat))
  | [], _, st, P => some (st, P)
  | n :: r, i, st, P => if (fitsB n.op n.kids && decide (n.kids ≤ (st.length : Int))) = true then stk r (i + 1) (st.take (st.length - n.kids.toNat) ++ [i]) (P ++ [st.drop (st.length - n.kids.toNat)]) else none
theorem fits_nn {op kids : Int} (h : fitsB op kids = true) : 0 ≤ kids ∧ 1 ≤ op ∧ op ≤ 37 := by
  by_cases hr : 1 ≤ op ∧ op ≤ 37
  · refine ⟨?_, hr.1, hr.2⟩
    have key : ∀ lo hi : Int, 0 ≤ lo → fitB lo hi kids = true → 0 ≤ kids := by
      intro lo hi h0 hf
      unfold fitB at hf
      simp only [Bool.and_eq_true, decide_eq_true_eq] at hf
      omega
    unfold fitsB at h
    simp only [Bool.and_eq_true] at h
    refine key _ _ ?_ h.2
    rcases in37 hr.1 hr.2 with rfl | rfl | rfl | rfl | rfl | rfl | rfl | rfl | rfl | rfl | rfl | rfl | rfl | rfl | rfl | rfl | rfl | rfl | rfl | rfl | rfl | rfl | rfl | rfl | rfl | rfl | rfl | rfl | rfl | rfl | rfl | rfl | rfl | rfl | rfl | rfl | rfl
    all_goals decide
  · unfold fitsB at h
    rw [arity_out _ hr] at h
    cases h
theorem stack_loop (K : Nat) (v0 : List Node) (hv : v0.length ≤ 1000) : ∀ (r : List Node) (n i : Nat) (st : List Nat) (P : List (List Nat)), v0.drop i = r → r.length < n → st.length ≤ i → P.length = i → i ≤ v0.length →
    tariffref10_stack.l4 K v0 ((v0.length : Int) - 1) n (ints st) (P.map ints) (i : Int) = match stk r i st P with
      | some (st', P') => some (.go (ints st', P'.map ints))
      | none => some (.ret ([], [], false))
  | _, 0, _, _, _, _, h, _, _, _ => by omega
  | [], n + 1, i, st, P, hd, _, hs, hP, hi => by
    have hlen := congrArg List.length hd
    simp at hlen
    unfold tariffref10_stack.l4
    have e1 : decide ((i : Int) ≤ (v0.length : Int) - 1) = false := by simp; omega
    rw [e1]
    rfl
  | x :: r, n + 1, i, st, P, hd, hn, hs, hP, hi => by
    have hlen := congrArg List.length hd
    simp at hlen
    have hx : v0[i]? = some x := by
      have := congrArg (fun l => l[0]?) hd
      simpa using this
    have hd' : v0.drop (i + 1) = r := by
      have := congrArg List.tail hd
      simpa using this
    unfold tariffref10_stack.l4
    have e1 : decide ((i : Int) ≤ (v0.length : Int) - 1) = true := by simp; omega
    rw [e1, if_pos rfl, idx_nat, hx]
    simp only [Option.bind_some]
    rw [kids_eq]
    simp only [Option.bind_some]
    have hil : (ints st).length = st.length := by simp [ints]
    rw [hil]
    by_cases hf : fitsB x.op x.kids = true
    · obtain ⟨k0, _, _⟩ := fits_nn hf
      by_cases hk : x.kids ≤ (st.length : Int)
      · have c1 : (fitsB x.op x.kids && decide (x.kids ≤ (st.length : Int))) = true := by simp [hf, hk]
        have c2 : decide (x.kids > (st.length : Int)) = false := by simp; omega
        obtain ⟨kn, hkn⟩ : ∃ kn : Nat, x.kids = (kn : Int) := ⟨x.kids.toNat, by omega⟩
        have ew : IntKind.i64.wrap ((st.length : Int) - x.kids) = ((st.length - kn : Nat) : Int) := by rw [i64_small (by omega) (by omega)]; omega
        have ekn : x.kids.toNat = kn := by omega
        have esub : sub (ints st) ((st.length - kn : Nat) : Int) (st.length : Int) = ints (st.drop (st.length - kn)) := by
          unfold sub ints
          rw [show (((st.length - kn : Nat) : Int)).toNat = st.length - kn from rfl, ← List.map_drop, List.take_of_length_le]
          simp
        have etake : (ints st).take (((st.length - kn : Nat) : Int)).toNat = ints (st.take (st.length - kn)) := by
          unfold ints
          rw [show (((st.length - kn : Nat) : Int)).toNat = st.length - kn from rfl, List.map_take]
        have eapp : ints (st.take (st.length - kn)) ++ [(i : Int)] = ints (st.take (st.length - kn) ++ [i]) := by simp [ints]
        have ePP : P.map ints ++ [ints (st.drop (st.length - kn))] = (P ++ [st.drop (st.length - kn)]).map ints := by simp
        have l1 : (ints (st.drop (st.length - kn))).length ≤ 1000 := by simp [ints]; omega
        have l2 : (ints (st.take (st.length - kn))).length ≤ 1000 := by simp [ints]; omega
        simp only [hf, Bool.not_true, if_true, c2, Option.bind_some, Bool.false_eq_true, if_false, ew, esub, etake, List.nil_append]
        rw [if_pos ⟨by omega, by omega, by omega⟩, if_pos ((room_iff _).2 (by simp only [List.length_nil, Nat.zero_add]; omega)), if_pos ((room_iff _).2 (by simp only [List.length_map, List.length_cons, List.length_nil]; omega)), if_pos ⟨by omega, by omega, by omega⟩,
          if_pos ((room_iff _).2 (by simp only [List.length_nil, Nat.zero_add]; omega)), if_pos ((room_iff _).2 (by simp only [List.length_cons, List.length_nil]; omega)), i64_small (by omega) (by omega), show (i : Int) + 1 = ((i + 1 : Nat) : Int) by omega, eapp, ePP]
        rw [stack_loop K v0 hv r n (i + 1) _ _ hd' (by simp at hn; omega) (by simp; omega) (by simp [hP]) (by omega)]
        simp only [stk]
        rw [if_pos c1, ekn]
      · have c1 : (fitsB x.op x.kids && decide (x.kids ≤ (st.length : Int))) = false := by simp [hk]
        have c2 : decide (x.kids > (st.length : Int)) = true := by simp; omega
        simp only [stk]
        rw [c1, hf, c2]
        rfl
    · have hf' : fitsB x.op x.kids = false := by simpa using hf
      simp only [stk]
      rw [hf']
      rfl
end Go.EvT
end
section
set_option linter.unusedVariables false
set_option linter.unusedSimpArgs false
set_option maxRecDepth 100000
namespace Go.EvT
open Go.Ev Go Go.Lib
theorem stack_eq (K : Nat) (v0 : List Node) (hv : v0.length ≤ 1000) (hK : v0.length < K) : tariffref10_stack K v0 ((v0.length : Int) - 1) = match stk v0 0 [] [] with
    | some (st, P) => some (P.map ints, ints st, true)
    | none => some ([], [], false) := by
  have h := stack_loop K v0 hv v0 K 0 [] [] rfl hK (Nat.le_refl _) rfl (Nat.zero_le _)
  unfold tariffref10_stack
  have h' : tariffref10_stack.l4 K v0 ((v0.length : Int) - 1) K [] [] (0 : Int) = _ := h
  rw [h']
  cases stk v0 0 [] [] with
  | none => rfl
  | some r => rfl
theorem stk_facts : ∀ (r : List Node) (i : Nat) (st : List Nat) (P : List (List Nat)) (st' : List Nat) (P' : List (List Nat)), stk r i st P = some (st', P') → (∀ q ∈ st, q < i) → P.length = i →
    (∀ q ∈ st', q < i + r.length) ∧ P'.length = i + r.length ∧ (∃ Q : List (List Nat), P' = P ++ Q ∧ ∀ (j : Nat) (ps : List Nat), Q[j]? = some ps → ∀ q ∈ ps, q < i + j) ∧ ∀ (j : Nat) (n : Node), r[j]? = some n → fitsB n.op n.kids = true
  | [], i, st, P, st', P', h, hst, hP => by
    simp only [stk, Option.some.injEq, Prod.mk.injEq] at h
    obtain ⟨rfl, rfl⟩ := h
    exact ⟨by simpa using hst, by simpa using hP, ⟨[], by simp, fun j ps h => (by simp at h)⟩, fun j n h => (by simp at h)⟩
  | n :: r, i, st, P, st', P', h, hst, hP => by
    simp only [stk] at h
    by_cases hc : (fitsB n.op n.kids && decide (n.kids ≤ (st.length : Int))) = true
    · rw [if_pos hc] at h
      simp only [Bool.and_eq_true] at hc
      have hst' : ∀ q ∈ st.take (st.length - n.kids.toNat) ++ [i], q < i + 1 := by
        intro q hq
        rcases List.mem_append.1 hq with hq | hq
        · have := hst q (List.mem_of_mem_take hq)
          omega
        · have := List.mem_singleton.1 hq
          omega
      obtain ⟨g1, g2, ⟨Q, g3, g4⟩, g5⟩ := stk_facts r (i + 1) _ _ st' P' h hst' (by simp [hP])
      refine ⟨fun q hq => (by have := g1 q hq; simp only [List.length_cons]; omega), (by simp only [List.length_cons]; omega), ⟨st.drop (st.length - n.kids.toNat) :: Q, (by rw [g3]; simp), fun j ps hj q hq => ?_⟩, fun j m hj => ?_⟩
      · cases j with
        | zero =>
          simp at hj
          subst hj
          have := hst q (List.mem_of_mem_drop hq)
          omega
        | succ j =>
          have := g4 j ps (by simpa using hj) q hq
          omega
      · cases j with
        | zero =>
          simp at hj
          subst hj
          exact hc.1
        | succ j => exact g5 j m (by simpa using hj)
    · rw [if_neg hc] at h
      cases h
end Go.EvT
end
section
set_option linter.unusedVariables false
set_option linter.unusedSimpArgs false
set_option maxRecDepth 100000
namespace Go.EvT
open Go.Ev Go Go.Lib
def txts (v0 : List Node) (ps : List Nat) : List (List UInt8) := ps.map fun (q : Nat) => txtAt v0 (q : Int)
def stepOk (v0 : List Node) (D : List Int) (n : Node) (ps : List Nat) : Bool := fieldsB n && (sortsOk n.op 0 (ps.map (ent v0 D)) && !((n.op == 27) && dupFrom (txts v0 ps) ps.length 0))
def deep1 (v0 : List Node) (D : List Int) (ps : List Nat) : Int := dmax 0 (ps.map (ent v0 D)) + 1
def pass (v0 : List Node) : List Node → Nat → List Nat → List Int → Option (List Nat × List Int)
  | [], _, st, D => some (st, D)
  | n :: r, i, st, D =>
    if (fitsB n.op n.kids && decide (n.kids ≤ (st.length : Int))) = true then
      if stepOk v0 D n (st.drop (st.length - n.kids.toNat)) = true then
        pass v0 r (i + 1) (st.take (st.length - n.kids.toNat) ++ [i]) (D ++ [deep1 v0 D (st.drop (st.length - n.kids.toNat))])
      else none
    else none
def mx (D : List Int) : Int := D.foldl (fun m d => if d > m then d else m) 0
theorem mx_snoc (D : List Int) (d : Int) : mx (D ++ [d]) = if d > mx D then d else mx D := by unfold mx; rw [List.foldl_append]; rfl
def thg (v0 : List Node) (D : List Int) (q : Nat) : expr_thing := ⟨sortI (opAt v0 q), (D[q]?).getD 0, (q : Int)⟩
theorem sd_thg (v0 : List Node) (D : List Int) (l : List Nat) : (l.map (thg v0 D)).map sd = l.map (ent v0 D) := by rw [List.map_map]; rfl
theorem ent_app (v0 : List Node) (D E : List Int) (l : List Nat) (h : ∀ q ∈ l, q < D.length) : l.map (ent v0 (D ++ E)) = l.map (ent v0 D) := by
  refine List.map_congr_left fun q hq => ?_
  unfold ent
  rw [List.getElem?_append_left (h q hq)]
theorem thg_app (v0 : List Node) (D E : List Int) (l : List Nat) (h : ∀ q ∈ l, q < D.length) : l.map (thg v0 (D ++ E)) = l.map (thg v0 D) := by
  refine List.map_congr_left fun q hq => ?_
  unfold thg
  rw [List.getElem?_append_left (h q hq)]
theorem dmax_le : ∀ (l : List (Int × Int)) (m B : Int), m ≤ B → (∀ a ∈ l, a.2 ≤ B) → dmax m l ≤ B
  | [], _, _, h, _ => h
  | a :: r, m, B, h, hl => by
    refine dmax_le r _ B ?_ fun b hb => hl b (List.mem_cons_of_mem _ hb)
    have := hl a List.mem_cons_self
    split <;> omega
theorem dmax_ge : ∀ (l : List (Int × Int)) (m : Int), m ≤ dmax m l
  | [], _ => Int.le_refl _
  | a :: r, m => by
    refine Int.le_trans ?_ (dmax_ge r _)
    split <;> omega
def DOk (D : List Int) : Prop := ∀ d ∈ D, 0 ≤ d ∧ d ≤ (D.length : Int)
theorem deep1_ok {v0 : List Node} {D : List Int} {ps : List Nat} (hD : DOk D) : 1 ≤ deep1 v0 D ps ∧ deep1 v0 D ps ≤ (D.length : Int) + 1 := by
  unfold deep1
  have h1 := dmax_ge (ps.map (ent v0 D)) 0
  have h2 := dmax_le (ps.map (ent v0 D)) 0 (D.length : Int) (by omega) (fun a ha => by
    obtain ⟨q, _, rfl⟩ := List.mem_map.1 ha
    unfold ent
    simp only
    cases hq : D[q]? with
    | none => simp
    | some d => exact (hD d (List.mem_of_getElem? hq)).2)
  omega
theorem DOk.snoc {v0 : List Node} {D : List Int} {ps : List Nat} (hD : DOk D) : DOk (D ++ [deep1 v0 D ps]) := by
  intro d hd
  have := deep1_ok (v0 := v0) (ps := ps) hD
  rcases List.mem_append.1 hd with h | h
  · have := hD d h
    simp; omega
  · have := List.mem_singleton.1 h
    simp; omega
theorem bad_eq {α : Type} (b : Bool) (p : Node) (e : Bool → Option α) : (((if (!b) = false then
    some (!(p.text.data.toList == []))
    else some true) : Option Bool).bind fun b3 =>
    ((if b3 = false then
    some (!((p.num.neg == false) && (((p.num.coef.hi == (0 : Int)) && ((p.num.coef.lo == (0 : Int)) && true)) && ((p.num.scale == (0 : Int)) && true))))
    else some true) : Option Bool).bind fun b4 =>
    ((if b4 = false then
    some (p.day != (0 : Int))
    else some true) : Option Bool).bind e) = e (!(b && restB p.text p.num p.day)) := by
  have hz : txtZ p.text = (p.text.data.toList == []) := rfl
  unfold restB decZ
  rw [hz]
  obtain ⟨t, ht⟩ : ∃ t, t = (p.text.data.toList == []) := ⟨_, rfl⟩
  obtain ⟨z, hz⟩ : ∃ z, z = ((p.num.neg == false) && (((p.num.coef.hi == (0 : Int)) && ((p.num.coef.lo == (0 : Int)) && true)) && ((p.num.scale == (0 : Int)) && true))) := ⟨_, rfl⟩
  rw [← ht, ← hz]
  have hd : (p.day != (0 : Int)) = !(p.day == 0) := rfl
  rw [hd]
  obtain ⟨d, hd⟩ : ∃ d, d = (p.day == (0 : Int)) := ⟨_, rfl⟩
  rw [← hd]
  cases b <;> cases t <;> cases z <;> cases d <;> rfl
end Go.EvT
end
section
set_option linter.unusedVariables false
set_option linter.unusedSimpArgs false
set_option maxRecDepth 100000
namespace Go.EvT
open Go.Ev Go Go.Lib
theorem opAt_eq {v0 : List Node} {i : Nat} {x : Node} (h : v0[i]? = some x) : opAt v0 i = x.op := by unfold opAt; rw [h]; rfl
theorem check_loop (K : Nat) (v0 : List Node) (v1 : Bool) (hv : v0.length ≤ 300) (hok : ∀ n ∈ v0, NodeOk n ∧ n.text.size + 1000 ≤ K) (hK : 1000 ≤ K) : ∀ (r : List Node) (n i : Nat) (st : List Nat) (D : List Int), v0.drop i = r → r.length < n → st.length ≤ i → D.length = i → i ≤ v0.length → (∀ q ∈ st, q < i) → DOk D →
    expr_Check.l6 K n v0 v1 (st.map (thg v0 D)) (mx D) v0 (v0.length : Int) (i : Int) = match pass v0 r i st D with
      | some (st', D') => some (.go (v1, st'.map (thg v0 D'), mx D'))
      | none => some (.ret 2)
  | _, 0, _, _, _, _, h, _, _, _, _, _ => by omega
  | [], n + 1, i, st, D, hd, _, hs, hP, hi, _, _ => by
    have hlen := congrArg List.length hd
    simp at hlen
    unfold expr_Check.l6
    have e1 : decide ((i : Int) < (v0.length : Int)) = false := by simp; omega
    rw [e1]
    rfl
  | x :: r, n + 1, i, st, D, hd, hn, hs, hP, hi, hq, hD => by
    have hlen := congrArg List.length hd
    simp at hlen
    have hx : v0[i]? = some x := by
      have := congrArg (fun l => l[0]?) hd
      simpa using this
    have hd' : v0.drop (i + 1) = r := by
      have := congrArg List.tail hd
      simpa using this
    obtain ⟨hxo, hxk⟩ := hok x (List.mem_of_getElem? hx)
    obtain ⟨p, b, hp, hb⟩ := plain_eq K x hxo hxk
    unfold expr_Check.l6
    have e1 : decide ((i : Int) < (v0.length : Int)) = true := by simp; omega
    rw [e1, if_pos rfl, idx_nat, hx]
    simp only [Option.bind_some]
    rw [hp]
    simp only [Option.bind_some]
    refine (bad_eq b p _).trans ?_
    rw [hb, fits_eq]
    simp only [pass]
    have hwl : (st.map (thg v0 D)).length = st.length := by simp
    rw [hwl]
    cases hfd : fieldsB x with
    | false =>
      have hso : stepOk v0 D x (st.drop (st.length - x.kids.toNat)) = false := by unfold stepOk; rw [hfd]; rfl
      rw [hso]
      simp
    | true =>
      cases hf : fitsB x.op x.kids with
      | false => simp
      | true =>
        obtain ⟨k0, _, _⟩ := fits_nn hf
        by_cases hk : x.kids ≤ (st.length : Int)
        · obtain ⟨kn, hkn⟩ : ∃ kn : Nat, x.kids = (kn : Int) := ⟨x.kids.toNat, by omega⟩
          have ekn : x.kids.toNat = kn := by omega
          have c2 : decide (x.kids > (st.length : Int)) = false := by simp; omega
          have c3 : decide (x.kids ≤ (st.length : Int)) = true := by simp; omega
          have ew : IntKind.i64.wrap ((st.length : Int) - x.kids) = ((st.length - kn : Nat) : Int) := by rw [i64_small (by omega) (by omega)]; omega
          have en : (st.length : Int) - ((st.length - kn : Nat) : Int) = (kn : Int) := by omega
          simp only [Bool.not_true, Bool.false_eq_true, if_false, if_true, Option.bind_some, c2, c3, Bool.true_and, ew, ekn, en]
          rw [if_pos ⟨by omega, by omega, by omega⟩]
          have hcp := check_parts K ((st.length - kn : Nat) : Int) (kn : Int) (st.length - kn) kn v0 v1 (st.map (thg v0 D)) (mx D) (i : Int) v0 (v0.length : Int) (i : Int) x (by rw [hwl]; omega) (by rw [hwl]; omega) kn K 0 0 (by omega) (by omega) (Nat.zero_le _)
          rw [show ((0 : Nat) : Int) = (0 : Int) from rfl] at hcp
          rw [hcp, Nat.add_zero, ← List.map_drop, sd_thg]
          obtain ⟨ps, hps⟩ : ∃ ps, ps = st.drop (st.length - kn) := ⟨_, rfl⟩
          have hpl : ps.length = kn := by rw [hps]; simp; omega
          rw [← hps]
          have hpq : ∀ q ∈ ps, q < i := fun q h => hq q (List.mem_of_mem_drop (hps ▸ h))
          cases hso : sortsOk x.op 0 (ps.map (ent v0 D)) with
          | false =>
            have : stepOk v0 D x ps = false := by unfold stepOk; rw [hso]; simp
            rw [this]
            simp
          | true =>
            simp only [if_true, Option.bind_some]
            have esub : sub (st.map (thg v0 D)) ((st.length - kn : Nat) : Int) (((st.length - kn : Nat) : Int) + (kn : Int)) = ps.map (thg v0 D) := by
              unfold sub
              rw [show (((st.length - kn : Nat) : Int)).toNat = st.length - kn from rfl, ← List.map_drop, ← hps, List.take_of_length_le]
              simp [hpl]
              omega
            have hun : expr_unlike K v0 (ps.map (thg v0 D)) = some (!dupFrom (txts v0 ps) ps.length 0) := by
              rw [unlike_eq K v0 (ps.map (thg v0 D)) (by simp; omega) (fun a ha => by
                obtain ⟨q, hq', rfl⟩ := List.mem_map.1 ha
                exact ⟨_, by rw [show (thg v0 D q).at_ = (q : Int) from rfl, idx_nat]; exact List.getElem?_eq_getElem (by have := hpq q hq'; omega)⟩) (by simp; omega), List.map_map, List.length_map]
              rfl
            have hb14 : ((if (x.op == (27 : Int)) = true then (expr_unlike K v0 (sub (st.map (thg v0 D)) ((st.length - kn : Nat) : Int) (((st.length - kn : Nat) : Int) + (kn : Int)))).bind fun r13 => some (!r13) else some false) : Option Bool) = some ((x.op == 27) && dupFrom (txts v0 ps) ps.length 0) := by
              rw [esub, hun]
              cases (x.op == (27 : Int)) <;> simp
            rw [hb14]
            have hst : stepOk v0 D x ps = !((x.op == 27) && dupFrom (txts v0 ps) ps.length 0) := by unfold stepOk; rw [hfd, hso]; rfl
            rw [hst]
            simp only [Option.bind_some]
            cases ((x.op == (27 : Int)) && dupFrom (txts v0 ps) ps.length 0) with
            | true => simp
            | false =>
              have hdp := deep1_ok (v0 := v0) (ps := ps) hD
              have edp : IntKind.i64.wrap (dmax 0 (ps.map (ent v0 D)) + 1) = deep1 v0 D ps := by
                have : dmax 0 (ps.map (ent v0 D)) + 1 = deep1 v0 D ps := rfl
                rw [this, i64_small (by omega) (by omega)]
              simp only [Bool.false_eq_true, if_false, Bool.not_false, if_true]
              rw [hwl, ew, if_pos ⟨by omega, by omega, by omega⟩, sortI_eq]
              simp only [Option.bind_some]
              rw [edp, show (((st.length - kn : Nat) : Int)).toNat = st.length - kn from rfl, ← List.map_take]
              have htl : ∀ q ∈ st.take (st.length - kn), q < D.length := fun q h => by have := hq q (List.mem_of_mem_take h); omega
              have enew : (st.take (st.length - kn)).map (thg v0 D) ++ [(⟨sortI x.op, deep1 v0 D ps, (i : Int)⟩ : expr_thing)] = (st.take (st.length - kn) ++ [i]).map (thg v0 (D ++ [deep1 v0 D ps])) := by
                rw [List.map_append, thg_app v0 D _ _ htl]
                refine congrArg (_ ++ ·) ?_
                simp only [List.map_cons, List.map_nil]
                unfold thg
                rw [opAt_eq hx, ← hP, List.getElem?_append_right (Nat.le_refl _)]
                simp
              rw [enew, ← mx_snoc, i64_small (by omega) (by omega), show (i : Int) + 1 = ((i + 1 : Nat) : Int) by omega, if_pos ((room_iff _).2 (by simp only [List.length_map, List.length_take, List.length_cons, List.length_nil]; omega))]
              exact check_loop K v0 v1 hv hok hK r n (i + 1) _ _ hd' (by simp at hn; omega) (by simp; omega) (by simp [hP]) (by omega) (fun q hq' => by
                rcases List.mem_append.1 hq' with h | h
                · have := htl q h; omega
                · have := List.mem_singleton.1 h; omega) hD.snoc
        · have c2 : decide (x.kids > (st.length : Int)) = true := by simp; omega
          have c3 : decide (x.kids ≤ (st.length : Int)) = false := by simp; omega
          rw [c2, c3]
          simp
end Go.EvT
end
section
set_option linter.unusedVariables false
set_option linter.unusedSimpArgs false
set_option maxRecDepth 100000
namespace Go.EvT
open Go.Ev Go Go.Lib
def pass2 (v0 : List Node) : List Node → List (List Nat) → List Int → Option (List Int)
  | [], _, D => some D
  | n :: r, Q, D => if stepOk v0 D n (Q.headD []) = true then pass2 v0 r Q.tail (D ++ [deep1 v0 D (Q.headD [])]) else none
theorem pass2_cons (v0 : List Node) (n : Node) (r : List Node) (ps : List Nat) (Q : List (List Nat)) (D : List Int) : pass2 v0 (n :: r) (ps :: Q) D = if stepOk v0 D n ps = true then pass2 v0 r Q (D ++ [deep1 v0 D ps]) else none := rfl
theorem pass_eq (v0 : List Node) : ∀ (r : List Node) (i : Nat) (st : List Nat) (P : List (List Nat)) (D : List Int),
    pass v0 r i st D = match stk r i st P with
      | some (st', P') => (pass2 v0 r (P'.drop P.length) D).map fun D' => (st', D')
      | none => none
  | [], i, st, P, D => by simp [pass, stk, pass2]
  | n :: r, i, st, P, D => by
    simp only [pass, stk]
    by_cases hc : (fitsB n.op n.kids && decide (n.kids ≤ (st.length : Int))) = true
    · rw [if_pos hc, if_pos hc]
      obtain ⟨ps, hps⟩ : ∃ ps, ps = st.drop (st.length - n.kids.toNat) := ⟨_, rfl⟩
      rw [← hps]
      have ih := pass_eq v0 r (i + 1) (st.take (st.length - n.kids.toNat) ++ [i]) (P ++ [ps]) (D ++ [deep1 v0 D ps])
      rw [ih]
      have hpre : ∀ (r : List Node) (i : Nat) (st : List Nat) (P : List (List Nat)) st' P', stk r i st P = some (st', P') → ∃ Q, P' = P ++ Q := by
        intro r
        induction r with
        | nil =>
          intro i st P st' P' h
          simp only [stk, Option.some.injEq, Prod.mk.injEq] at h
          exact ⟨[], by simp [h.2]⟩
        | cons m r ihr =>
          intro i st P st' P' h
          simp only [stk] at h
          split at h
          · obtain ⟨Q, hQ⟩ := ihr _ _ _ _ _ h
            exact ⟨_, by rw [hQ, List.append_assoc]⟩
          · cases h
      cases hs : stk r (i + 1) (st.take (st.length - n.kids.toNat) ++ [i]) (P ++ [ps]) with
      | none => simp
      | some x =>
        obtain ⟨st', P'⟩ := x
        obtain ⟨Q, rfl⟩ := hpre _ _ _ _ _ _ hs
        simp only [List.append_assoc]
        have e1 : (P ++ ([ps] ++ Q)).drop P.length = ps :: Q := by rw [List.drop_left]; rfl
        have e2 : (P ++ ([ps] ++ Q)).drop (P ++ [ps]).length = Q := by rw [← List.append_assoc, List.drop_left]
        rw [e1, e2]
        rw [pass2_cons]
        by_cases hso : stepOk v0 D n ps = true
        · rw [if_pos hso, if_pos hso]
        · rw [if_neg hso, if_neg hso]
          rfl
    · rw [if_neg hc, if_neg hc]
end Go.EvT
end
section
set_option linter.unusedVariables false
set_option linter.unusedSimpArgs false
set_option maxRecDepth 100000
namespace Go.EvT
open Go.Ev Go Go.Lib
theorem set_zeros (D : List Int) (m : Nat) (d : Int) : (D ++ List.replicate (m + 1) 0).set D.length d = (D ++ [d]) ++ List.replicate m 0 := by
  rw [List.set_append_right _ _ (Nat.le_refl _), Nat.sub_self, List.replicate_succ, List.append_assoc]
  rfl
theorem rcheck_loop (K : Nat) (v0 : List Node) (v1 : Bool) (P : List (List Nat)) (hv : v0.length ≤ 300) (hok : ∀ n ∈ v0, NodeOk n ∧ n.text.size + 1000 ≤ K) (hK : 1000 ≤ K) (hPl : P.length = v0.length) (hPq : ∀ (j : Nat) (ps : List Nat), P[j]? = some ps → ps.length ≤ 300 ∧ ∀ q ∈ ps, q < j) (hfit : ∀ n ∈ v0, fitsB n.op n.kids = true) :
    ∀ (r : List Node) (n i : Nat) (D : List Int), v0.drop i = r → r.length < n → D.length = i → i ≤ v0.length → DOk D →
    tariffref10_Check.l9 K n v0 v1 (P.map ints) (D ++ List.replicate (v0.length - i) 0) (mx D) (i : Int) = match pass2 v0 r (P.drop i) D with
      | some D' => some (.go (v0, v1, mx D'))
      | none => some (.ret 2)
  | _, 0, _, _, _, h, _, _, _ => by omega
  | [], n + 1, i, D, hd, _, hP, hi, _ => by
    have hlen := congrArg List.length hd
    simp at hlen
    unfold tariffref10_Check.l9
    have e1 : decide ((i : Int) < (v0.length : Int)) = false := by simp; omega
    rw [e1]
    rfl
  | x :: r, n + 1, i, D, hd, hn, hP, hi, hD => by
    have hlen := congrArg List.length hd
    simp at hlen
    have hx : v0[i]? = some x := by
      have := congrArg (fun l => l[0]?) hd
      simpa using this
    have hd' : v0.drop (i + 1) = r := by
      have := congrArg List.tail hd
      simpa using this
    have hil : i < v0.length := by omega
    obtain ⟨hxo, hxk⟩ := hok x (List.mem_of_getElem? hx)
    obtain ⟨ps, hps⟩ : ∃ ps, P[i]? = some ps := ⟨_, List.getElem?_eq_getElem (by omega)⟩
    obtain ⟨hpl, hpq⟩ := hPq i ps hps
    have hopq : ∀ q ∈ ps, 1 ≤ opAt v0 q ∧ opAt v0 q ≤ 37 := fun q h => by
      have hqi := hpq q h
      obtain ⟨m, hm⟩ : ∃ m, v0[q]? = some m := ⟨_, List.getElem?_eq_getElem (by omega)⟩
      rw [opAt_eq hm]
      exact (fits_nn (hfit m (List.mem_of_getElem? hm))).2
    have hPi : (P.map ints)[i]? = some (ints ps) := by rw [List.getElem?_map, hps]; rfl
    unfold tariffref10_Check.l9
    have e1 : decide ((i : Int) < (v0.length : Int)) = true := by simp; omega
    rw [e1, if_pos rfl, idx_nat, hx]
    simp only [Option.bind_some]
    rw [fields_eq K x hxo hxk]
    simp only [Option.bind_some]
    rw [drop_cons hps, pass2_cons]
    cases hfd : fieldsB x with
    | false =>
      have hso : stepOk v0 D x ps = false := by unfold stepOk; rw [hfd]; rfl
      rw [hso]
      simp
    | true =>
      simp only [Bool.not_true, Bool.false_eq_true, if_false]
      obtain ⟨m, hm⟩ : ∃ m, v0.length - i = m + 1 := ⟨v0.length - i - 1, by omega⟩
      have hw : (D ++ List.replicate (v0.length - i) (0 : Int)) = (D ++ List.replicate (v0.length - i) 0).set i 0 := by
        rw [hm, ← hP, set_zeros, List.append_assoc]
        rfl
      have hwl : (D ++ List.replicate (v0.length - i) (0 : Int)).length = v0.length := by simp; omega
      have hrp := rcheck_parts K v0 v1 (P.map ints) (mx D) i ps x (D ++ List.replicate (v0.length - i) 0) hx hPi (by omega) hpq hopq (by rw [hwl]; exact hil) hil ps.length K 0 0 (by omega) (by omega) (Nat.zero_le _)
      rw [← hw, List.drop_zero, ent_app v0 D _ ps (fun q h => by rw [hP]; exact hpq q h)] at hrp
      rw [show ((0 : Nat) : Int) = (0 : Int) from rfl] at hrp
      rw [hrp]
      cases hso : sortsOk x.op 0 (ps.map (ent v0 D)) with
      | false =>
        have : stepOk v0 D x ps = false := by unfold stepOk; rw [hso]; simp
        rw [this]
        simp
      | true =>
        simp only [if_true, Option.bind_some, idx_nat, hx, hPi]
        have htw : tariffref10_twice K v0 (ints ps) = some (dupFrom (txts v0 ps) ps.length 0) := by
          rw [twice_names K v0 (ints ps) (by simp [ints]; omega) (fun a ha => by
            obtain ⟨q, hq', rfl⟩ := List.mem_map.1 ha
            exact ⟨_, by rw [idx_nat]; exact List.getElem?_eq_getElem (by have := hpq q hq'; omega)⟩) (by simp [ints]; omega)]
          unfold ints
          rw [List.map_map, List.length_map]
          rfl
        have hb22 : ((if (x.op == (27 : Int)) = true then (tariffref10_twice K v0 (ints ps)).bind fun r21 => some r21 else some false) : Option Bool) = some ((x.op == 27) && dupFrom (txts v0 ps) ps.length 0) := by
          rw [htw]
          cases (x.op == (27 : Int)) <;> simp
        rw [hb22]
        have hst : stepOk v0 D x ps = !((x.op == 27) && dupFrom (txts v0 ps) ps.length 0) := by unfold stepOk; rw [hfd, hso]; rfl
        rw [hst]
        simp only [Option.bind_some]
        cases ((x.op == (27 : Int)) && dupFrom (txts v0 ps) ps.length 0) with
        | true => simp
        | false =>
          have hdp := deep1_ok (v0 := v0) (ps := ps) hD
          have edp : IntKind.i64.wrap (dmax 0 (ps.map (ent v0 D)) + 1) = deep1 v0 D ps := by
            have : dmax 0 (ps.map (ent v0 D)) + 1 = deep1 v0 D ps := rfl
            rw [this, i64_small (by omega) (by omega)]
          simp only [Bool.false_eq_true, if_false, Bool.not_false, if_true]
          obtain ⟨w, hwd⟩ : ∃ w, w = (D ++ List.replicate (v0.length - i) (0 : Int)) := ⟨_, rfl⟩
          rw [← hwd] at hwl ⊢
          have g1 : (w.set i (dmax 0 (ps.map (ent v0 D))))[i]? = some (dmax 0 (ps.map (ent v0 D))) := by rw [List.getElem?_set]; simp; omega
          rw [if_pos ⟨by omega, by rw [List.length_set]; omega⟩, g1]
          simp only [Option.bind_some]
          rw [if_pos ⟨by omega, by rw [List.length_set]; omega⟩, edp, show ((i : Int)).toNat = i from rfl, List.set_set, if_pos ⟨by omega, by rw [List.length_set]; omega⟩]
          have g2 : (w.set i (deep1 v0 D ps))[i]? = some (deep1 v0 D ps) := by rw [List.getElem?_set]; simp; omega
          rw [g2]
          simp only [Option.bind_some]
          have hnew : w.set i (deep1 v0 D ps) = (D ++ [deep1 v0 D ps]) ++ List.replicate (v0.length - (i + 1)) 0 := by
            rw [hwd, hm, ← hP, set_zeros, show v0.length - (D.length + 1) = m by omega]
          rw [hnew, ← mx_snoc, i64_small (by omega) (by omega), show (i : Int) + 1 = ((i + 1 : Nat) : Int) by omega]
          exact rcheck_loop K v0 v1 P hv hok hK hPl hPq hfit r n (i + 1) _ hd' (by simp at hn; omega) (by simp [hP]) (by omega) hD.snoc
end Go.EvT
end
section
set_option linter.unusedVariables false
set_option linter.unusedSimpArgs false
set_option maxRecDepth 100000
namespace Go.EvT
open Go.Ev Go Go.Lib
theorem stk_last : ∀ (r : List Node) (i : Nat) (st : List Nat) (P : List (List Nat)) (st' : List Nat) (P' : List (List Nat)), stk r i st P = some (st', P') → (r = [] ∧ st' = st) ∨ ∃ s, st' = s ++ [i + r.length - 1]
  | [], i, st, P, st', P', h => by
    simp only [stk, Option.some.injEq, Prod.mk.injEq] at h
    exact .inl ⟨rfl, h.1.symm⟩
  | n :: r, i, st, P, st', P', h => by
    simp only [stk] at h
    split at h
    · rcases stk_last r _ _ _ _ _ h with ⟨rfl, rfl⟩ | ⟨s, rfl⟩
      · exact .inr ⟨_, rfl⟩
      · refine .inr ⟨s, ?_⟩
        rw [List.length_cons, show i + 1 + r.length - 1 = i + (r.length + 1) - 1 by omega]
    · cases h
theorem stk_parts : ∀ (r : List Node) (i : Nat) (st : List Nat) (P : List (List Nat)) (st' : List Nat) (P' : List (List Nat)), stk r i st P = some (st', P') → st.length ≤ i →
    ∃ Q : List (List Nat), P' = P ++ Q ∧ ∀ (j : Nat) (ps : List Nat), Q[j]? = some ps → ps.length ≤ i + j
  | [], i, st, P, st', P', h, _ => by
    simp only [stk, Option.some.injEq, Prod.mk.injEq] at h
    exact ⟨[], by simp [h.2], fun j ps h => by simp at h⟩
  | n :: r, i, st, P, st', P', h, hs => by
    simp only [stk] at h
    split at h
    · obtain ⟨Q, h1, h2⟩ := stk_parts r _ _ _ _ _ h (by simp; omega)
      refine ⟨_ :: Q, by rw [h1, List.append_assoc]; rfl, fun j ps hj => ?_⟩
      cases j with
      | zero =>
        simp at hj
        subst hj
        simp; omega
      | succ j =>
        have := h2 j ps (by simpa using hj)
        omega
    · cases h
def rootOk (v1 : Bool) (s : Int) : Bool := if v1 = true then s == 4 || s == 5 else s == 1
def checkV (v0 : List Node) (v1 : Bool) : Int :=
  if (v0.length : Int) > 300 then 6
  else match pass v0 v0 0 [] [] with
    | none => 2
    | some (st, D) => if st.length = 1 then (if rootOk v1 (sortI (opAt v0 (v0.length - 1))) = true then (if mx D > 40 then 7 else 0) else 2) else 2
theorem check_eq (K : Nat) (v0 : List Node) (v1 : Bool) (hok : ∀ n ∈ v0, NodeOk n ∧ n.text.size + 1000 ≤ K) (hK : 1000 ≤ K) : expr_Check K v0 v1 = some (checkV v0 v1) := by
  unfold expr_Check checkV
  by_cases h3 : (v0.length : Int) > 300
  · have : decide ((v0.length : Int) > (300 : Int)) = true := by simpa using h3
    rw [this, if_pos rfl, if_pos h3]
  · have e3 : decide ((v0.length : Int) > (300 : Int)) = false := by simpa using h3
    rw [e3, if_neg h3]
    simp only [Bool.false_eq_true, if_false]
    have h := check_loop K v0 v1 (by omega) hok hK v0 K 0 [] [] rfl (by omega) (Nat.le_refl _) rfl (Nat.zero_le _) (fun q h => by cases h) (fun d h => by cases h)
    have h' : expr_Check.l6 K K v0 v1 [] (0 : Int) v0 (v0.length : Int) (0 : Int) = _ := h
    rw [h', pass_eq]
    cases hs : stk v0 0 [] [] with
    | none => rfl
    | some x =>
      obtain ⟨st, P⟩ := x
      cases hp : pass2 v0 v0 (P.drop ([] : List (List Nat)).length) [] with
      | none =>
        simp only [hp]
        rfl
      | some D =>
        simp only [hp, Option.map_some, Option.bind_some]
        by_cases h1 : st.length = 1
        · have hq : st = [v0.length - 1] := by
            rcases stk_last _ _ _ _ _ _ hs with ⟨_, rfl⟩ | ⟨s, rfl⟩
            · simp at h1
            · simp at h1
              rw [h1, Nat.zero_add]
              rfl
          subst hq
          simp only [List.map_cons, List.map_nil, List.length_cons, List.length_nil, Nat.zero_add]
          have e0 : idx [thg v0 D (v0.length - 1)] (0 : Int) = some (thg v0 D (v0.length - 1)) := rfl
          have es : (thg v0 D (v0.length - 1)).sort_ = sortI (opAt v0 (v0.length - 1)) := rfl
          simp only [e0, Option.bind_some, es]
          obtain ⟨s, hs'⟩ : ∃ s, s = sortI (opAt v0 (v0.length - 1)) := ⟨_, rfl⟩
          rw [← hs']
          unfold rootOk
          have c4 : (s != 4) = !(s == 4) := rfl
          have c5 : (s != 5) = !(s == 5) := rfl
          have c1 : (s != 1) = !(s == 1) := rfl
          rw [c4, c5, c1]
          rcases Decidable.em (40 < mx D) with hm | hm <;> cases v1 <;> cases (s == 4) <;> cases (s == 5) <;> cases (s == 1) <;> simp [hm]
        · have : ((((st.map (thg v0 D)).length : Int) != (1 : Int))) = true := by
            rw [List.length_map]
            simp
            omega
          rw [this, if_neg h1]
          rfl
theorem rcheck_eq (K : Nat) (v0 : List Node) (v1 : Bool) (hok : ∀ n ∈ v0, NodeOk n ∧ n.text.size + 1000 ≤ K) (hK : 1000 ≤ K) : tariffref10_Check K v0 v1 = some (checkV v0 v1) := by
  unfold tariffref10_Check checkV
  by_cases h3 : (v0.length : Int) > 300
  · have : decide ((v0.length : Int) > (300 : Int)) = true := by simpa using h3
    rw [this, if_pos rfl, if_pos h3]
  · have e3 : decide ((v0.length : Int) > (300 : Int)) = false := by simpa using h3
    rw [e3, if_neg h3]
    simp only [Bool.false_eq_true, if_false]
    rw [i64_small (by omega) (by omega), stack_eq K v0 (by omega) (by omega), pass_eq]
    cases hs : stk v0 0 [] [] with
    | none => rfl
    | some x =>
      obtain ⟨st, P⟩ := x
      simp only [Option.bind_some, Bool.not_true, if_true, List.length_nil, List.drop_zero]
      by_cases h1 : st.length = 1
      · have hne : v0 ≠ [] := by
          rintro rfl
          simp only [stk, Option.some.injEq, Prod.mk.injEq] at hs
          rw [← hs.1] at h1
          cases h1
        have hl : 0 < v0.length := List.length_pos_iff.2 hne
        have e1 : (((ints st).length : Int) != (1 : Int)) = false := by simp [ints, h1]
        rw [e1]
        simp only [Bool.false_eq_true, if_false]
        rw [if_pos ⟨by omega, by omega, (room_iff _).2 (by omega)⟩]
        obtain ⟨f1, f2, ⟨Q, f3, f4⟩, f5⟩ := stk_facts v0 0 [] [] st P hs (fun q h => by cases h) rfl
        obtain ⟨Q', f6, f7⟩ := stk_parts v0 0 [] [] st P hs (Nat.le_refl _)
        have hPl : P.length = v0.length := by simpa using f2
        have hPQ : P = Q := by simpa using f3
        have hPQ' : P = Q' := by simpa using f6
        subst hPQ
        subst hPQ'
        have hloop := rcheck_loop K v0 v1 P (by omega) hok hK hPl (fun j ps hj => ⟨by
          have := f7 j ps hj
          have := getElem?_lt hj
          omega, fun q hq => by have := f4 j ps hj q hq; omega⟩) (fun n hn => by
          obtain ⟨j, hj⟩ := List.getElem?_of_mem hn
          exact f5 j n hj) v0 K 0 [] rfl (by omega) rfl (Nat.zero_le _) (fun d h => by cases h)
        rw [List.drop_zero] at hloop
        have h' : tariffref10_Check.l9 K K v0 v1 (P.map ints) (List.replicate ((v0.length : Int)).toNat (0 : Int)) (0 : Int) (0 : Int) = _ := hloop
        rw [h']
        cases hp : pass2 v0 v0 P [] with
        | none => rfl
        | some D =>
          obtain ⟨nd, hnd⟩ : ∃ nd, v0[v0.length - 1]? = some nd := ⟨_, List.getElem?_eq_getElem (by omega)⟩
          simp only [Option.map_some, Option.bind_some, h1, if_true]
          rw [i64_small (by omega) (by omega), show (v0.length : Int) - 1 = ((v0.length - 1 : Nat) : Int) by omega, idx_nat, hnd]
          simp only [Option.bind_some]
          have hft := fits_nn (f5 (v0.length - 1) nd hnd)
          rw [rsort_eq hft.2.1 hft.2.2, opAt_eq hnd]
          simp only [Option.bind_some]
          obtain ⟨s, hs'⟩ : ∃ s, s = sortI nd.op := ⟨_, rfl⟩
          rw [← hs']
          unfold rootOk
          have c4 : (s != 4) = !(s == 4) := rfl
          have c5 : (s != 5) = !(s == 5) := rfl
          have c1 : (s != 1) = !(s == 1) := rfl
          rw [c4, c5, c1]
          rcases Decidable.em (40 < mx D) with hm | hm <;> cases v1 <;> cases (s == 4) <;> cases (s == 5) <;> cases (s == 1) <;> simp [hm]
      · have e1 : (((ints st).length : Int) != (1 : Int)) = true := by
          unfold ints
          rw [List.length_map]
          simp
          omega
        rw [e1]
        cases pass2 v0 v0 P [] with
        | none => rfl
        | some D => simp [h1]
end Go.EvT
end
section
set_option linter.unusedVariables false
set_option linter.unusedSimpArgs false
set_option maxRecDepth 100000
namespace Go.EvT
open Go.Ev Go Go.Lib
structure Chk (v0 : List Node) (P : List (List Nat)) : Prop where
  run : stk v0 0 [] [] = some ([v0.length - 1], P)
  pos : 0 < v0.length
  small : v0.length ≤ 300
  root : rootOk true (sortI (opAt v0 (v0.length - 1))) = true
  len : P.length = v0.length
  fld : ∀ (i : Nat) (x : Node), v0[i]? = some x → fieldsB x = true
  fit : ∀ (i : Nat) (x : Node), v0[i]? = some x → fitsB x.op x.kids = true
  srt : ∀ (i : Nat) (x : Node) (ps : List Nat), v0[i]? = some x → P[i]? = some ps → ∀ (j q : Nat), ps[j]? = some q → sortI (opAt v0 q) = wantI x.op (j : Int)
  ahead : ∀ (i : Nat) (ps : List Nat), P[i]? = some ps → ps.length ≤ i ∧ ∀ q ∈ ps, q < i
theorem sortsOk_at (op : Int) : ∀ (l : List (Int × Int)) (j m : Nat) (a : Int × Int), sortsOk op j l = true → l[m]? = some a → a.1 = wantI op ((j + m : Nat) : Int)
  | [], _, _, _, _, h => by simp at h
  | b :: r, j, 0, a, h, h2 => by
    simp only [List.getElem?_cons_zero, Option.some.injEq] at h2
    subst h2
    simp only [sortsOk, Bool.and_eq_true, beq_iff_eq] at h
    exact h.1
  | b :: r, j, m + 1, a, h, h2 => by
    simp only [sortsOk, Bool.and_eq_true, beq_iff_eq] at h
    have := sortsOk_at op r (j + 1) m a h.2 (by simpa using h2)
    rw [this, show j + 1 + m = j + (m + 1) by omega]
theorem pass2_facts (v0 : List Node) : ∀ (r : List Node) (Q : List (List Nat)) (D D' : List Int), pass2 v0 r Q D = some D' → ∀ (m : Nat) (x : Node), r[m]? = some x →
    fieldsB x = true ∧ ∀ ps, Q[m]? = some ps → ∀ (j q : Nat), ps[j]? = some q → sortI (opAt v0 q) = wantI x.op (j : Int)
  | [], _, _, _, _, _, _, h => by simp at h
  | y :: r, Q, D, D', h, m, x, hx => by
    simp only [pass2] at h
    split at h
    · rename_i hs
      cases m with
      | zero =>
        simp only [List.getElem?_cons_zero, Option.some.injEq] at hx
        subst hx
        unfold stepOk at hs
        simp only [Bool.and_eq_true] at hs
        refine ⟨hs.1, fun ps hps j q hq => ?_⟩
        have e : Q.headD [] = ps := by cases Q <;> simp_all
        rw [e] at hs
        have := sortsOk_at y.op _ 0 j (ent v0 D q) hs.2.1 (by rw [List.getElem?_map, hq]; rfl)
        rw [Nat.zero_add] at this
        exact this
      | succ m =>
        obtain ⟨g1, g2⟩ := pass2_facts v0 r Q.tail _ D' h m x (by simpa using hx)
        refine ⟨g1, fun ps hps => g2 ps ?_⟩
        cases Q with
        | nil => simp at hps
        | cons a Q => simpa using hps
    · cases h
theorem chk_of {v0 : List Node} (h : checkV v0 true = 0) : ∃ P, Chk v0 P := by
  unfold checkV at h
  split at h
  · cases h
  · rename_i h3
    rw [pass_eq] at h
    cases hs : stk v0 0 [] [] with
    | none => rw [hs] at h; cases h
    | some x =>
      obtain ⟨st, P⟩ := x
      rw [hs] at h
      simp only [List.length_nil, List.drop_zero] at h
      cases hp : pass2 v0 v0 P [] with
      | none => rw [hp] at h; cases h
      | some D =>
        rw [hp] at h
        simp only [Option.map_some] at h
        split at h
        · rename_i h1
          split at h
          · rename_i hr
            obtain ⟨f1, f2, ⟨Q, f3, f4⟩, f5⟩ := stk_facts v0 0 [] [] st P hs (fun q h => by cases h) rfl
            obtain ⟨Q', f6, f7⟩ := stk_parts v0 0 [] [] st P hs (Nat.le_refl _)
            have hPQ : P = Q := by simpa using f3
            have hPQ' : P = Q' := by simpa using f6
            subst hPQ
            subst hPQ'
            have hq : st = [v0.length - 1] ∧ 0 < v0.length := by
              rcases stk_last _ _ _ _ _ _ hs with ⟨_, rfl⟩ | ⟨s, rfl⟩
              · simp at h1
              · simp at h1
                refine ⟨by rw [h1, Nat.zero_add]; rfl, ?_⟩
                have := f1 (0 + v0.length - 1) (by simp)
                omega
            have hq1 := hq.1
            subst hq1
            refine ⟨P, hs, hq.2, by omega, hr, by simpa using f2, fun i x hx => (pass2_facts v0 v0 P [] D hp i x hx).1, f5, fun i x ps hx hps j q hq => (pass2_facts v0 v0 P [] D hp i x hx).2 ps hps j q hq, fun i ps hps => ⟨?_, fun q hq => ?_⟩⟩
            · have := f7 i ps hps
              omega
            · have := f4 i ps hps q hq
              omega
          · cases h
        · cases h
def numV (d : Dec) : Val := ⟨2, false, d, ByteArray.empty, 0, [], []⟩
def textV (s : ByteArray) : Val := ⟨3, false, ⟨false, ⟨0, 0⟩, 0⟩, s, 0, [], []⟩
def dayV (d : Int) : Val := ⟨4, false, ⟨false, ⟨0, 0⟩, 0⟩, ByteArray.empty, d, [], []⟩
def truthV (b : Bool) : Val := ⟨1, b, ⟨false, ⟨0, 0⟩, 0⟩, ByteArray.empty, 0, [], []⟩
def nilV : Val := ⟨0, false, ⟨false, ⟨0, 0⟩, 0⟩, ByteArray.empty, 0, [], []⟩
def flipD (d : Dec) : Dec := ⟨!d.neg && !((d.coef.hi == 0) && ((d.coef.lo == 0) && true)), d.coef, d.scale⟩
def lit5 (x : Node) : Bool := x.op == 2 || (x.op == 3 || (x.op == 4 || (x.op == 5 || x.op == 6)))
def litX (x : Node) : Val := if x.op = 2 then truthV true else if x.op = 3 then truthV false else if x.op = 4 then numV x.num else if x.op = 5 then textV x.text else if x.op = 6 then dayV x.day else nilV
theorem literal_eq (x : Node) : unary_literal x = some (litX x, lit5 x) := by
  obtain ⟨op, kids, text, num, day⟩ := x
  by_cases h2 : op = 2
  · subst h2; rfl
  · by_cases h3 : op = 3
    · subst h3; rfl
    · by_cases h4 : op = 4
      · subst h4; rfl
      · by_cases h5 : op = 5
        · subst h5; rfl
        · by_cases h6 : op = 6
          · subst h6; rfl
          · unfold unary_literal litX lit5
            have e2 : (op == 2) = false := by simpa using h2
            have e3 : (op == 3) = false := by simpa using h3
            have e4 : (op == 4) = false := by simpa using h4
            have e5 : (op == 5) = false := by simpa using h5
            have e6 : (op == 6) = false := by simpa using h6
            simp only [e2, e3, e4, e5, e6, if_neg h2, if_neg h3, if_neg h4, if_neg h5, if_neg h6, Bool.false_eq_true, if_false, Option.bind_some]
            rfl
def litB (v0 : List Node) (q : Nat) : Bool := match v0[q]? with
  | some x => lit5 x || ((x.op == 8) && (opAt v0 (q - 1) == 4))
  | none => false
def litV (v0 : List Node) (q : Nat) : Val := match v0[q]? with
  | some x => if x.op = 8 then (match v0[q - 1]? with | some y => if y.op = 4 then numV (flipD y.num) else nilV | none => nilV) else litX x
  | none => nilV
theorem flip_eq (d : Dec) : tariffref02_Flip d = some (flipD d) := by
  unfold tariffref02_Flip flipD
  cases d.neg <;> rfl
theorem rliteral_eq (v0 : List Node) (P : List (List Nat)) (q : Nat) (x : Node) (hx : v0[q]? = some x) (h8 : x.op = 8 → 1 ≤ q ∧ P[q]? = some [q - 1]) : tariffref12_literal v0 (P.map ints) (q : Int) = some (litV v0 q, litB v0 q) := by
  unfold tariffref12_literal litV litB
  rw [idx_nat, hx]
  simp only [Option.bind_some]
  by_cases e8 : x.op = 8
  · obtain ⟨h1, hP⟩ := h8 e8
    obtain ⟨y, hy⟩ : ∃ y, v0[q - 1]? = some y := ⟨_, List.getElem?_eq_getElem (by have := getElem?_lt hx; omega)⟩
    have hPi : (P.map ints)[q]? = some [((q - 1 : Nat) : Int)] := by rw [List.getElem?_map, hP]; rfl
    have hl5 : lit5 x = false := by unfold lit5; rw [e8]; rfl
    rw [e8, hl5, if_pos rfl, opAt_eq hy, hy]
    simp only [show ((8 : Int) == 2) = false from rfl, show ((8 : Int) == 3) = false from rfl, show ((8 : Int) == 4) = false from rfl, show ((8 : Int) == 5) = false from rfl, show ((8 : Int) == 6) = false from rfl, show ((8 : Int) == 8) = true from rfl, Bool.false_eq_true, if_false, if_true, Option.bind_some]
    rw [idx_nat, hPi]
    simp only [Option.bind_some]
    rw [show idx [((q - 1 : Nat) : Int)] (0 : Int) = some ((q - 1 : Nat) : Int) from rfl]
    simp only [Option.bind_some]
    rw [idx_nat, hy]
    simp only [Option.bind_some]
    by_cases e4 : y.op = 4
    · have : (y.op == 4) = true := by simpa using e4
      rw [this, if_pos rfl, if_pos e4, flip_eq]
      rfl
    · have : (y.op == 4) = false := by simpa using e4
      rw [this, if_neg e4]
      rfl
  · rw [if_neg e8]
    have e8' : (x.op == 8) = false := by simpa using e8
    have hl : unary_literal x = some (litX x, lit5 x) := literal_eq x
    obtain ⟨op, kids, text, num, day⟩ := x
    by_cases h2 : op = 2
    · subst h2; rfl
    · by_cases h3 : op = 3
      · subst h3; rfl
      · by_cases h4 : op = 4
        · subst h4; rfl
        · by_cases h5 : op = 5
          · subst h5; rfl
          · by_cases h6 : op = 6
            · subst h6; rfl
            · unfold litX lit5
              have e2 : (op == 2) = false := by simpa using h2
              have e3 : (op == 3) = false := by simpa using h3
              have e4 : (op == 4) = false := by simpa using h4
              have e5 : (op == 5) = false := by simpa using h5
              have e6 : (op == 6) = false := by simpa using h6
              simp only [e2, e3, e4, e5, e6, e8', if_neg h2, if_neg h3, if_neg h4, if_neg h5, if_neg h6, Bool.false_eq_true, if_false, Option.bind_some]
              rfl
end Go.EvT
end
section
set_option linter.unusedVariables false
set_option linter.unusedSimpArgs false
set_option maxRecDepth 100000
namespace Go.EvT
open Go.Ev Go Go.Lib
def testB (op : Int) : Bool := decide (op ≥ 30) && decide (op ≤ 35)
theorem isTest_eq (op : Int) : tariffref12_isTest op = some (testB op) := by
  unfold tariffref12_isTest testB
  cases decide (op ≥ 30) <;> simp
def endsQ (v0 : List Node) : List Node → List (List Nat) → List Val
  | [], _ => []
  | x :: r, Q => (if testB x.op = true then (Q.headD []).map (litV v0) else []) ++ endsQ v0 r Q.tail
def okQ (v0 : List Node) : List Node → List (List Nat) → Bool
  | [], _ => true
  | x :: r, Q => (!testB x.op || (Q.headD []).all (litB v0)) && okQ v0 r Q.tail
theorem okQ_cons (v0 : List Node) (x : Node) (r : List Node) (ps : List Nat) (Q : List (List Nat)) : okQ v0 (x :: r) (ps :: Q) = ((!testB x.op || ps.all (litB v0)) && okQ v0 r Q) := rfl
theorem endsQ_cons (v0 : List Node) (x : Node) (r : List Node) (ps : List Nat) (Q : List (List Nat)) : endsQ v0 (x :: r) (ps :: Q) = (if testB x.op = true then ps.map (litV v0) else []) ++ endsQ v0 r Q := rfl
theorem ends_parts (K : Nat) (v0 : List Node) (P : List (List Nat)) (i : Nat) (x : Node) (ps : List Nat) (hx : v0[i]? = some x) (hps : P[i]? = some ps) (hl : ps.length ≤ 300) (hlit : ∀ q ∈ ps, tariffref12_literal v0 (P.map ints) (q : Int) = some (litV v0 q, litB v0 q)) (ht : testB x.op = true) :
    ∀ (m n j : Nat) (w : List Val), m = ps.length - j → m < n → j ≤ ps.length → w.length ≤ 300 * 300 + j →
    tariffref12_ends.l7 K v0 (P.map ints) (i : Int) n w (j : Int) = if (ps.drop j).all (litB v0) = true then some (.go (v0, P.map ints, w ++ (ps.drop j).map (litV v0), (i : Int))) else some (.ret ([], false))
  | _, 0, _, _, _, h, _, _ => by omega
  | 0, n + 1, j, w, hm, _, hj, _ => by
    have : j = ps.length := by omega
    subst this
    unfold tariffref12_ends.l7
    have hPi : (P.map ints)[i]? = some (ints ps) := by rw [List.getElem?_map, hps]; rfl
    rw [idx_nat, hx]
    simp only [Option.bind_some]
    rw [isTest_eq, ht, idx_nat, hPi]
    simp [ints]
  | m + 1, n + 1, j, w, hm, hmn, hj, hw => by
    have hlt : j < ps.length := by omega
    obtain ⟨q, hq⟩ : ∃ q, ps[j]? = some q := ⟨_, List.getElem?_eq_getElem hlt⟩
    have hPi : (P.map ints)[i]? = some (ints ps) := by rw [List.getElem?_map, hps]; rfl
    have hqj : (ints ps)[j]? = some (q : Int) := by unfold ints; rw [List.getElem?_map, hq]; rfl
    unfold tariffref12_ends.l7
    rw [idx_nat, hx]
    simp only [Option.bind_some]
    rw [isTest_eq, ht, idx_nat, hPi]
    have e1 : decide ((j : Int) < ((ints ps).length : Int)) = true := by simp [ints]; omega
    simp only [Option.bind_some, if_true, e1]
    rw [idx_nat, hqj]
    simp only [Option.bind_some]
    rw [hlit q (List.mem_of_getElem? hq)]
    simp only [Option.bind_some]
    rw [drop_cons hq, List.all_cons, List.map_cons]
    cases hb : litB v0 q with
    | false => simp
    | true =>
      simp only [Bool.not_true, Bool.false_eq_true, if_false, Bool.true_and]
      rw [if_pos ((room_iff _).2 (by simp only [List.length_cons, List.length_nil]; omega)), i64_small (by omega) (by omega), show (j : Int) + 1 = ((j + 1 : Nat) : Int) by omega, ends_parts K v0 P i x ps hx hps hl hlit ht m n (j + 1) _ (by omega) (by omega) (by omega) (by simp; omega), List.append_assoc]
      rfl
theorem ends_loop (K : Nat) (v0 : List Node) (P : List (List Nat)) (hc : Chk v0 P) (hK : 1000 ≤ K) (hlit : ∀ (q : Nat), q < v0.length → tariffref12_literal v0 (P.map ints) (q : Int) = some (litV v0 q, litB v0 q)) :
    ∀ (r : List Node) (n i : Nat) (w : List Val), v0.drop i = r → r.length < n → i ≤ v0.length → w.length ≤ 300 * i →
    tariffref12_ends.l4 K n v0 (P.map ints) w (i : Int) = if okQ v0 r (P.drop i) = true then some (.go (w ++ endsQ v0 r (P.drop i))) else some (.ret ([], false))
  | _, 0, _, _, _, h, _, _ => by omega
  | [], n + 1, i, w, hd, _, hi, _ => by
    have hlen := congrArg List.length hd
    simp at hlen
    unfold tariffref12_ends.l4
    have e1 : decide ((i : Int) < (v0.length : Int)) = false := by simp; omega
    rw [e1]
    simp [okQ, endsQ]
  | x :: r, n + 1, i, w, hd, hn, hi, hw => by
    have hlen := congrArg List.length hd
    simp at hlen
    have hx : v0[i]? = some x := by
      have := congrArg (fun l => l[0]?) hd
      simpa using this
    have hd' : v0.drop (i + 1) = r := by
      have := congrArg List.tail hd
      simpa using this
    have hsm := hc.small
    obtain ⟨ps, hps⟩ : ∃ ps, P[i]? = some ps := ⟨_, List.getElem?_eq_getElem (by rw [hc.len]; omega)⟩
    obtain ⟨hpl, hpq⟩ := hc.ahead i ps hps
    unfold tariffref12_ends.l4
    have e1 : decide ((i : Int) < (v0.length : Int)) = true := by simp; omega
    rw [e1, if_pos rfl, drop_cons hps]
    rw [okQ_cons, endsQ_cons]
    cases ht : testB x.op with
    | true =>
      have h := ends_parts K v0 P i x ps hx hps (by omega) (fun q hq => hlit q (by have := hpq q hq; omega)) ht ps.length K 0 w (by omega) (by omega) (Nat.zero_le _) (by omega)
      rw [show ((0 : Nat) : Int) = (0 : Int) from rfl, List.drop_zero] at h
      rw [h]
      simp only [Bool.not_true, Bool.false_or, if_true]
      cases ha : ps.all (litB v0) with
      | false => simp
      | true =>
        simp only [if_true, Option.bind_some, Bool.true_and]
        rw [i64_small (by omega) (by omega), show (i : Int) + 1 = ((i + 1 : Nat) : Int) by omega, ends_loop K v0 P hc hK hlit r n (i + 1) _ hd' (by simp at hn; omega) (by omega) (by simp; omega), List.append_assoc]
    | false =>
      have h : tariffref12_ends.l7 K v0 (P.map ints) (i : Int) K w (0 : Int) = some (.go (v0, P.map ints, w, (i : Int))) := by
        obtain ⟨k, rfl⟩ : ∃ k, K = k + 1 := ⟨K - 1, by omega⟩
        unfold tariffref12_ends.l7
        rw [idx_nat, hx]
        simp only [Option.bind_some]
        rw [isTest_eq, ht]
        rfl
      rw [h]
      simp only [Bool.not_false, Bool.true_or, Bool.true_and, Option.bind_some, Bool.false_eq_true, if_false, List.nil_append]
      rw [i64_small (by omega) (by omega), show (i : Int) + 1 = ((i + 1 : Nat) : Int) by omega, ends_loop K v0 P hc hK hlit r n (i + 1) _ hd' (by simp at hn; omega) (by omega) (by omega)]
theorem stk_pre : ∀ (r : List Node) (i : Nat) (st : List Nat) (P : List (List Nat)) (st' : List Nat) (P' : List (List Nat)), stk r i st P = some (st', P') → ∃ Q, P' = P ++ Q
  | [], i, st, P, st', P', h => by
    simp only [stk, Option.some.injEq, Prod.mk.injEq] at h
    exact ⟨[], by simp [h.2]⟩
  | n :: r, i, st, P, st', P', h => by
    simp only [stk] at h
    split at h
    · obtain ⟨Q, hQ⟩ := stk_pre r _ _ _ _ _ h
      exact ⟨_, by rw [hQ, List.append_assoc]⟩
    · cases h
theorem stk_step {n : Node} {r : List Node} {i : Nat} {st : List Nat} {P : List (List Nat)} {st' : List Nat} {P' : List (List Nat)} (h : stk (n :: r) i st P = some (st', P')) (hP : P.length = i) :
    ∃ kn : Nat, n.kids = (kn : Int) ∧ kn ≤ st.length ∧ P'[i]? = some (st.drop (st.length - kn)) ∧ fitsB n.op n.kids = true ∧ stk r (i + 1) (st.take (st.length - kn) ++ [i]) (P ++ [st.drop (st.length - kn)]) = some (st', P') := by
  simp only [stk] at h
  split at h
  · rename_i hc
    simp only [Bool.and_eq_true, decide_eq_true_eq] at hc
    have k0 := (fits_nn hc.1).1
    refine ⟨n.kids.toNat, by omega, by omega, ?_, hc.1, h⟩
    obtain ⟨Q, hQ⟩ := stk_pre _ _ _ _ _ _ h
    rw [hQ, List.append_assoc, ← hP, List.getElem?_append_right (Nat.le_refl _), Nat.sub_self]
    rfl
  · cases h
theorem stk_top : ∀ (r : List Node) (i : Nat) (st : List Nat) (P : List (List Nat)) (st' : List Nat) (P' : List (List Nat)), stk r i st P = some (st', P') → P.length = i → st.length ≤ i → (0 < i → ∃ s, st = s ++ [i - 1]) →
    ∀ (m : Nat) (x : Node), r[m]? = some x → ∃ ps, P'[i + m]? = some ps ∧ (ps.length : Int) = x.kids ∧ (0 < ps.length → 0 < i + m ∧ ∃ s, ps = s ++ [i + m - 1])
  | [], _, _, _, _, _, _, _, _, _, m, x, hx => by simp at hx
  | n :: r, i, st, P, st', P', h, hP, hs, ht, m, x, hx => by
    obtain ⟨kn, hk, hkl, hPi, _, h'⟩ := stk_step h hP
    cases m with
    | zero =>
      simp only [List.getElem?_cons_zero, Option.some.injEq] at hx
      subst hx
      refine ⟨_, hPi, ?_, fun hp => ?_⟩
      · rw [hk, List.length_drop]; omega
      · rw [List.length_drop] at hp
        have h0 : 0 < i := by omega
        obtain ⟨s, rfl⟩ := ht h0
        refine ⟨h0, s.drop ((s ++ [i - 1]).length - kn), ?_⟩
        rw [List.drop_append_of_le_length (by simp at hp ⊢; omega)]
        rfl
    | succ m =>
      obtain ⟨ps, h1, h2, h3⟩ := stk_top r (i + 1) _ _ _ _ h' (by simp [hP]) (by simp; omega) (fun _ => ⟨_, rfl⟩) m x (by simpa using hx)
      rw [show i + 1 + m = i + (m + 1) by omega] at h1 h3
      exact ⟨ps, h1, h2, h3⟩
theorem arity_of {op kids : Int} (h : fitsB op kids = true) : fitB (arity op).1 (arity op).2 kids = true := by
  unfold fitsB at h
  simp only [Bool.and_eq_true] at h
  exact h.2
theorem neg_part {v0 : List Node} {P : List (List Nat)} (hc : Chk v0 P) {q : Nat} {x : Node} (hx : v0[q]? = some x) (h8 : x.op = 8) : 1 ≤ q ∧ P[q]? = some [q - 1] := by
  obtain ⟨ps, h1, h2, h3⟩ := stk_top v0 0 [] [] _ P hc.run rfl (Nat.le_refl _) (fun h => absurd h (by omega)) q x hx
  have hf := arity_of (hc.fit q x hx)
  rw [h8, show arity 8 = (1, 1) from by decide] at hf
  unfold fitB at hf
  have hk : x.kids = 1 := by
    simp only [Bool.and_eq_true, decide_eq_true_eq, Bool.or_eq_true, beq_iff_eq] at hf
    omega
  have hl : ps.length = 1 := by omega
  obtain ⟨h4, s, rfl⟩ := h3 (by omega)
  simp at hl
  subst hl
  rw [Nat.zero_add] at h1 h4
  refine ⟨by omega, ?_⟩
  rw [h1]
  rfl
theorem rlit {v0 : List Node} {P : List (List Nat)} (hc : Chk v0 P) : ∀ (q : Nat), q < v0.length → tariffref12_literal v0 (P.map ints) (q : Int) = some (litV v0 q, litB v0 q) := fun q hq => by
  obtain ⟨x, hx⟩ : ∃ x, v0[q]? = some x := ⟨_, List.getElem?_eq_getElem hq⟩
  exact rliteral_eq v0 P q x hx (neg_part hc hx)
theorem rends_eq (K : Nat) (v0 : List Node) (P : List (List Nat)) (hc : Chk v0 P) (hK : 1000 ≤ K) : tariffref12_ends K v0 = some (if okQ v0 v0 P = true then (endsQ v0 v0 P, true) else ([], false)) := by
  have hs := hc.small
  have hp := hc.pos
  unfold tariffref12_ends tariffref10_Places
  rw [i64_small (by omega) (by omega), stack_eq K v0 (by omega) (by omega), hc.run]
  simp only [Option.bind_some]
  have h := ends_loop K v0 P hc hK (rlit hc) v0 K 0 [] rfl (by omega) (Nat.zero_le _) (Nat.zero_le _)
  rw [List.drop_zero, List.nil_append] at h
  rw [show ((0 : Nat) : Int) = (0 : Int) from rfl] at h
  rw [h]
  cases okQ v0 v0 P <;> rfl
end Go.EvT
end
section
set_option linter.unusedVariables false
set_option linter.unusedSimpArgs false
set_option maxRecDepth 100000
namespace Go.EvT
open Go.Ev Go Go.Lib
theorem push_set (s : List Val) (z v : Val) : (s ++ [z]).set ((s.length : Int)).toNat v = s ++ [v] := by
  rw [show ((s.length : Int)).toNat = s.length from rfl, List.set_append_right _ _ (Nat.le_refl _), Nat.sub_self]
  rfl
theorem push_idx (s : List Val) (z : Val) : idx (s ++ [z]) (s.length : Int) = some z := by
  rw [idx_nat, List.getElem?_append_right (Nat.le_refl _), Nat.sub_self]
  rfl
theorem push_eq {α : Type} (s : List Val) (hs : s.length ≤ 1000) (v : Val) (e : List Val → Option α) : (if room ((s.length + ([nilV] : List Val).length) * 120) then
    if 0 ≤ (s.length : Int) ∧ (s.length : Int) < ((s ++ ([nilV] : List Val)).length : Int) then
    (idx (s ++ ([nilV] : List Val)) (s.length : Int)).bind fun e6 => e ((s ++ ([nilV] : List Val)).set ((s.length : Int)).toNat v)
    else none
    else none) = e (s ++ [v]) := by
  rw [if_pos ((room_iff _).2 (by simp only [List.length_cons, List.length_nil]; omega)), if_pos ⟨by omega, by simp; omega⟩, push_idx]
  simp only [Option.bind_some]
  rw [push_set]
theorem pop_eq (v : Val) (s l es : List Val) (is a : Bool) (kids : Int) (hk : kids = (l.length : Int)) (hs : (s ++ l).length ≤ 1000) : unary_machine_pop ⟨v, s ++ l, es, is, a⟩ kids = some (l, ⟨v, s, es, is, a⟩) := by
  unfold unary_machine_pop
  have e1 : IntKind.i64.wrap (((s ++ l).length : Int) - kids) = (s.length : Int) := by
    rw [i64_small (by simp at hs ⊢; omega) (by simp at hs ⊢; omega)]
    simp; omega
  have e2 : sub (s ++ l) (s.length : Int) ((s.length : Int) + (((s ++ l).length : Int) - (s.length : Int))) = l := by
    unfold sub
    rw [show ((s.length : Int)).toNat = s.length from rfl, List.drop_left, List.take_of_length_le]
    simp
    omega
  simp only [e1, e2]
  rw [if_pos ⟨by omega, by simp; omega, by omega⟩, if_pos ((room_iff _).2 (by simp at hs ⊢; omega)), if_pos ⟨by omega, by omega, by simp; omega⟩, show ((s.length : Int)).toNat = s.length from rfl, List.take_left]
  rfl
theorem step_lit (K : Nat) (v : Val) (vs es : List Val) (is a : Bool) (x : Node) (h1 : x.op ≤ 28) (h8 : x.op ≠ 8) (hs : vs.length ≤ 1000) : unary_machine_step K ⟨v, vs, es, is, a⟩ x = some (lit5 x, ⟨v, vs ++ [litX x], es, is, a⟩) := by
  unfold unary_machine_step
  have e8 : (x.op == 8) = false := by simpa using h8
  have e29 : (x.op == 29) = false := by simp; omega
  have e37 : (x.op == 37) = false := by simp; omega
  have e36 : (x.op == 36) = false := by simp; omega
  have e30 : decide (x.op ≥ 30) = false := by simp; omega
  rw [e8, e29, e37, e36, e30, literal_eq]
  simp only [Bool.false_eq_true, if_false, Option.bind_some]
  exact push_eq vs hs (litX x) (fun l => some (lit5 x, (⟨v, l, es, is, a⟩ : unary_machine)))
theorem neg_form (K : Nat) (hK : 1000 ≤ K) (d : Dec) (hd : d.coef.Ok) (hf : d.form = true) : dec_Neg K d = some (flipD d, 0) := by
  unfold dec_Neg dec_formed
  have h : dec_formed.l2 K [d] (([d] : List Dec).length : Int) K (0 : Int) = some (.go ()) := by
    obtain ⟨k, rfl⟩ : ∃ k, K = k + 2 := ⟨K - 2, by omega⟩
    unfold dec_formed.l2
    rw [show idx [d] (0 : Int) = some d from rfl]
    simp only [Option.bind_some]
    rw [form_eq (k + 2) (by omega) d hd, hf]
    rfl
  rw [h]
  simp only [Option.bind_some]
  unfold dec_turned dec_zero flipD
  cases d.neg <;> rfl
theorem step_neg (K : Nat) (hK : 1000 ≤ K) (v : Val) (s es : List Val) (is a : Bool) (x : Node) (h8 : x.op = 8) (d : Dec) (hd : d.coef.Ok) (hf : d.form = true) (hs : s.length ≤ 1000) : unary_machine_step K ⟨v, s ++ [numV d], es, is, a⟩ x = some (true, ⟨v, s ++ [numV (flipD d)], es, is, a⟩) := by
  unfold unary_machine_step
  rw [h8]
  have e1 : (((s ++ [numV d]).length : Int) == (0 : Int)) = false := by
    rw [beq_eq_false_iff_ne, List.length_append]
    simp only [List.length_cons, List.length_nil]
    omega
  have e2 : IntKind.i64.wrap (((s ++ [numV d]).length : Int) - 1) = (s.length : Int) := by
    rw [List.length_append, i64_small (by simp only [List.length_cons, List.length_nil]; omega) (by simp only [List.length_cons, List.length_nil]; omega)]
    simp
  have e3 : 0 ≤ (s.length : Int) ∧ (s.length : Int) < ((s ++ [numV d]).length : Int) := by
    rw [List.length_append]
    simp only [List.length_cons, List.length_nil]
    omega
  simp only [e1, e2, push_idx, show ((8 : Int) == 8) = true from rfl, if_true, Option.bind_some]
  rw [if_pos e3]
  simp only [show ((numV d).kind != 2) = false from rfl, show (numV d).num = d from rfl, Bool.false_eq_true, if_false]
  rw [if_pos e3]
  rw [neg_form K hK d hd hf]
  simp only [Option.bind_some]
  rw [push_set]
  rfl
theorem step_any (K : Nat) (v : Val) (vs es : List Val) (is a : Bool) (x : Node) (h29 : x.op = 29) (hs : vs.length ≤ 1000) : unary_machine_step K ⟨v, vs, es, is, a⟩ x = some (true, ⟨v, vs ++ [truthV true], es, is, a⟩) := by
  unfold unary_machine_step
  rw [h29]
  exact push_eq vs hs (truthV true) (fun l => some (true, (⟨v, l, es, is, a⟩ : unary_machine)))
theorem step_not (K : Nat) (v : Val) (s es : List Val) (is a : Bool) (x : Node) (h37 : x.op = 37) (y z : Val) (hn : unary_not K y = some z) (hs : s.length ≤ 900) : unary_machine_step K ⟨v, s ++ [y], es, is, a⟩ x = some (true, ⟨v, s ++ [z], es, is, a⟩) := by
  unfold unary_machine_step
  rw [h37]
  simp only [show ((37 : Int) == 8) = false from rfl, show ((37 : Int) == 29) = false from rfl, show ((37 : Int) == 37) = true from rfl, Bool.false_eq_true, if_false, if_true]
  rw [pop_eq v s [y] es is a 1 rfl (by simp; omega)]
  simp only [Option.bind_some, show idx [y] (0 : Int) = some y from rfl, hn]
  exact push_eq s (by omega) z (fun l => some (true, (⟨v, l, es, is, a⟩ : unary_machine)))
theorem step_test (K : Nat) (v : Val) (s l es : List Val) (is a : Bool) (x : Node) (h1 : 30 ≤ x.op) (h2 : x.op ≤ 35) (hk : x.kids = (l.length : Int)) (t : Val) (ht : (if a = true then unary_test K x v l else some (truthV false)) = some t) (hs : (s ++ l).length ≤ 1000) (he : es.length ≤ 300 * 300) :
    unary_machine_step K ⟨v, s ++ l, es, is, a⟩ x = some (true, ⟨v, s ++ [t], es ++ l, is && (x.op == 30), a⟩) := by
  unfold unary_machine_step
  have e8 : (x.op == 8) = false := by simp; omega
  have e29 : (x.op == 29) = false := by simp; omega
  have e37 : (x.op == 37) = false := by simp; omega
  have e36 : (x.op == 36) = false := by simp; omega
  have e30 : decide (x.op ≥ 30) = true := by simp; omega
  have e35 : decide (x.op ≤ 35) = true := by simp; omega
  rw [e8, e29, e37, e36, e30, e35]
  simp only [Bool.false_eq_true, if_false, if_true, Option.bind_some]
  rw [pop_eq v s l es is a _ hk hs]
  simp only [Option.bind_some]
  simp at hs
  rw [if_pos ((room_iff _).2 (by omega))]
  have eis : ((if is = true then some (x.op == (30 : Int)) else some false) : Option Bool) = some (is && (x.op == 30)) := by cases is <;> rfl
  rw [eis]
  simp only [Option.bind_some, show unary_truth false = some (truthV false) from rfl]
  cases a with
  | true =>
    simp only [if_true] at ht ⊢
    rw [ht]
    simp only [Option.bind_some]
    exact push_eq s (by omega) t (fun l' => some (true, (⟨v, l', es ++ l, is && (x.op == 30), true⟩ : unary_machine)))
  | false =>
    simp only [Bool.false_eq_true, if_false, Option.some.injEq] at ht ⊢
    subst ht
    simp only [Option.bind_some]
    exact push_eq s (by omega) (truthV false) (fun l' => some (true, (⟨v, l', es ++ l, is && (x.op == 30), false⟩ : unary_machine)))
def orAll (K : Nat) : Val → List Val → Option Val
  | t, [] => some t
  | t, y :: l => (value_Or K t y).bind fun r => orAll K r.1 l
theorem some_loop (K : Nat) (l : List Val) (m0 : unary_machine) (hl : l.length ≤ 1000) : ∀ (m n j : Nat) (t : Val), m = l.length - j → m < n → j ≤ l.length →
    unary_machine_step.l17 K l (l.length : Int) m0 n (j : Int) t = (orAll K t (l.drop j)).map fun t => (m0, t)
  | _, 0, _, _, _, h, _ => by omega
  | 0, n + 1, j, t, hm, _, hj => by
    have : j = l.length := by omega
    subst this
    unfold unary_machine_step.l17
    simp [orAll]
  | m + 1, n + 1, j, t, hm, hmn, hj => by
    have hlt : j < l.length := by omega
    obtain ⟨x, hx⟩ : ∃ x, l[j]? = some x := ⟨_, List.getElem?_eq_getElem hlt⟩
    unfold unary_machine_step.l17
    have e1 : decide ((j : Int) < (l.length : Int)) = true := by simpa using hlt
    rw [e1, if_pos rfl, idx_nat, hx, drop_cons hx]
    simp only [Option.bind_some, orAll]
    cases hv : value_Or K t x with
    | none => rfl
    | some r =>
      simp only [Option.bind_some]
      rw [i64_small (by omega) (by omega), show (j : Int) + 1 = ((j + 1 : Nat) : Int) by omega, some_loop K l m0 hl m n (j + 1) _ (by omega) (by omega) (by omega)]
theorem step_some (K : Nat) (v : Val) (s l es : List Val) (is a : Bool) (x : Node) (h36 : x.op = 36) (hk : x.kids = (l.length : Int)) (t : Val) (ht : orAll K (truthV false) l = some t) (hs : (s ++ l).length ≤ 900) (hK : 1000 ≤ K) :
    unary_machine_step K ⟨v, s ++ l, es, is, a⟩ x = some (true, ⟨v, s ++ [t], es, is, a⟩) := by
  unfold unary_machine_step
  rw [h36]
  simp only [show ((36 : Int) == 8) = false from rfl, show ((36 : Int) == 29) = false from rfl, show ((36 : Int) == 37) = false from rfl, show ((36 : Int) == 36) = true from rfl, Bool.false_eq_true, if_false, if_true, show unary_truth false = some (truthV false) from rfl, Option.bind_some]
  rw [pop_eq v s l es is a _ hk (by omega)]
  simp only [Option.bind_some]
  simp at hs
  have h := some_loop K l ⟨v, s, es, is, a⟩ (by omega) l.length K 0 (truthV false) (by omega) (by omega) (Nat.zero_le _)
  rw [show ((0 : Nat) : Int) = (0 : Int) from rfl, List.drop_zero, ht] at h
  rw [h]
  simp only [Option.map_some, Option.bind_some]
  exact push_eq s (by omega) t (fun l => some (true, (⟨v, l, es, is, a⟩ : unary_machine)))
theorem truth_or (k : Nat) (a b : Bool) : value_Or (k + 10) (truthV a) (truthV b) = some (truthV (a || b), 0) := by cases a <;> cases b <;> kernel_rfl
theorem truth_not (k : Nat) (a : Bool) : unary_not (k + 10) (truthV a) = some (truthV (!a)) := by cases a <;> kernel_rfl
theorem truth_all (k : Nat) : ∀ (l : List Val) (a : Bool), (∀ y ∈ l, ∃ b, y = truthV b) → ∃ b, orAll (k + 10) (truthV a) l = some (truthV b)
  | [], a, _ => ⟨a, rfl⟩
  | y :: l, a, h => by
    obtain ⟨b, rfl⟩ := h y List.mem_cons_self
    obtain ⟨c, hc⟩ := truth_all k l (a || b) fun z hz => h z (List.mem_cons_of_mem _ hz)
    refine ⟨c, ?_⟩
    simp only [orAll]
    rw [truth_or]
    exact hc
end Go.EvT
end
section
set_option linter.unusedVariables false
set_option linter.unusedSimpArgs false
set_option maxRecDepth 100000
namespace Go.EvT
open Go.Ev Go Go.Lib
theorem sort_1 {op : Int} (h1 : 1 ≤ op) (h2 : op ≤ 37) (h : sortI op = 1) : op ≤ 27 := by
  rcases in37 h1 h2 with rfl | rfl | rfl | rfl | rfl | rfl | rfl | rfl | rfl | rfl | rfl | rfl | rfl | rfl | rfl | rfl | rfl | rfl | rfl | rfl | rfl | rfl | rfl | rfl | rfl | rfl | rfl | rfl | rfl | rfl | rfl | rfl | rfl | rfl | rfl | rfl | rfl <;> revert h <;> decide
theorem sort_le {op : Int} (h1 : 1 ≤ op) (h2 : op ≤ 37) (h : op ≤ 28) : sortI op = 1 ∨ sortI op = 2 := by
  rcases in37 h1 h2 with rfl | rfl | rfl | rfl | rfl | rfl | rfl | rfl | rfl | rfl | rfl | rfl | rfl | rfl | rfl | rfl | rfl | rfl | rfl | rfl | rfl | rfl | rfl | rfl | rfl | rfl | rfl | rfl | rfl | rfl | rfl | rfl | rfl | rfl | rfl | rfl | rfl <;> revert h <;> decide
theorem sort_3 {op : Int} (h1 : 1 ≤ op) (h2 : op ≤ 37) (h : sortI op = 3 ∨ sortI op = 4) : 29 ≤ op := by
  rcases in37 h1 h2 with rfl | rfl | rfl | rfl | rfl | rfl | rfl | rfl | rfl | rfl | rfl | rfl | rfl | rfl | rfl | rfl | rfl | rfl | rfl | rfl | rfl | rfl | rfl | rfl | rfl | rfl | rfl | rfl | rfl | rfl | rfl | rfl | rfl | rfl | rfl | rfl | rfl <;> revert h <;> decide
theorem want_test {op : Int} (h : testB op = true) (j : Int) : wantI op j = 1 := by
  unfold testB at h
  simp only [Bool.and_eq_true, decide_eq_true_eq] at h
  unfold wantI expr_wanted
  have e27 : (op == 27) = false := by simp; omega
  have e36 : (op == 36) = false := by simp; omega
  have e37 : (op == 37) = false := by simp; omega
  have e23 : (op == 23) = false := by simp; omega
  rw [e27, e36, e37, e23]
  rfl
structure VR (v0 : List Node) (q : Nat) (y : Val) : Prop where
  lit : opAt v0 q ≤ 27 → y = litV v0 q
  tru : 29 ≤ opAt v0 q → ∃ b, y = truthV b
structure Rel (v0 : List Node) (st : List Nat) (vs : List Val) : Prop where
  len : vs.length = st.length
  at_ : ∀ (j q : Nat) (y : Val), st[j]? = some q → vs[j]? = some y → VR v0 q y
theorem Rel.push {v0 : List Node} {st : List Nat} {vs : List Val} (h : Rel v0 st vs) (m : Nat) {i : Nat} {y : Val} (hy : VR v0 i y) : Rel v0 (st.take m ++ [i]) (vs.take m ++ [y]) := by
  have hl := h.len
  refine ⟨by simp [hl], fun j q z hq hz => ?_⟩
  have hml : (vs.take m).length = (st.take m).length := by simp [hl]
  rcases Nat.lt_or_ge j (st.take m).length with hj | hj
  · rw [List.getElem?_append_left hj] at hq
    rw [List.getElem?_append_left (by omega)] at hz
    have hjm : j < m := by simp at hj; omega
    rw [List.getElem?_take_of_lt hjm] at hq hz
    exact h.at_ j q z hq hz
  · rw [List.getElem?_append_right hj] at hq
    rw [List.getElem?_append_right (by omega), hml] at hz
    obtain ⟨d, hd⟩ : ∃ d, d = j - (st.take m).length := ⟨_, rfl⟩
    rw [← hd] at hq hz
    cases d with
    | zero =>
      simp at hq hz
      subst hq
      subst hz
      exact hy
    | succ d => simp at hq
theorem Rel.drop {v0 : List Node} {st : List Nat} {vs : List Val} (h : Rel v0 st vs) (m : Nat) : Rel v0 (st.drop m) (vs.drop m) := by
  refine ⟨by simp [h.len], fun j q y hq hy => ?_⟩
  rw [List.getElem?_drop] at hq hy
  exact h.at_ _ q y hq hy
theorem Rel.lits {v0 : List Node} {st : List Nat} {vs : List Val} (h : Rel v0 st vs) (ho : ∀ q ∈ st, opAt v0 q ≤ 27) : vs = st.map (litV v0) := by
  refine List.ext_getElem? fun j => ?_
  rw [List.getElem?_map]
  cases hq : st[j]? with
  | none =>
    have : st.length ≤ j := by simpa using hq
    simpa [h.len] using this
  | some q =>
    have hlt := getElem?_lt hq
    obtain ⟨y, hy⟩ : ∃ y, vs[j]? = some y := ⟨_, List.getElem?_eq_getElem (by rw [h.len]; exact hlt)⟩
    rw [hy, (h.at_ j q y hq hy).lit (ho q (List.mem_of_getElem? hq))]
    rfl
theorem Rel.truths {v0 : List Node} {st : List Nat} {vs : List Val} (h : Rel v0 st vs) (ho : ∀ q ∈ st, 29 ≤ opAt v0 q) : ∀ y ∈ vs, ∃ b, y = truthV b := by
  intro y hy
  obtain ⟨j, hj⟩ := List.getElem?_of_mem hy
  have hlt := getElem?_lt hj
  obtain ⟨q, hq⟩ : ∃ q, st[j]? = some q := ⟨_, List.getElem?_eq_getElem (by rw [← h.len]; exact hlt)⟩
  exact (h.at_ j q y hq hj).tru (ho q (List.mem_of_getElem? hq))
def badQ (v0 : List Node) : List Node → Nat → Bool
  | [], _ => false
  | x :: r, i => (decide (x.op ≤ 28) && !litB v0 i) || badQ v0 r (i + 1)
def isQ : List Node → Bool
  | [] => true
  | x :: r => (!testB x.op || x.op == 30) && isQ r
theorem kids_0 {op kids : Int} (h : fitsB op kids = true) (ho : arity op = (0, 0)) : kids = 0 := by
  have := arity_of h
  rw [ho] at this
  unfold fitB at this
  simp only [Bool.and_eq_true, decide_eq_true_eq, Bool.or_eq_true, beq_iff_eq] at this
  omega
theorem kids_1 {op kids : Int} (h : fitsB op kids = true) (ho : arity op = (1, 1)) : kids = 1 := by
  have := arity_of h
  rw [ho] at this
  unfold fitB at this
  simp only [Bool.and_eq_true, decide_eq_true_eq, Bool.or_eq_true, beq_iff_eq] at this
  omega
theorem mach_step (k : Nat) (v0 : List Node) (P : List (List Nat)) (hc : Chk v0 P) (hok : ∀ n ∈ v0, NodeOk n) (hk : 1000 ≤ k) (i : Nat) (x : Node) (hx : v0[i]? = some x) (st : List Nat) (kn : Nat) (hkn : x.kids = (kn : Int)) (hkl : kn ≤ st.length) (hPi : P[i]? = some (st.drop (st.length - kn))) (hst : st.length ≤ 300)
    (v : Val) (vs es : List Val) (is : Bool) (hr : Rel v0 st vs) (he : es.length ≤ 300 * 300) (hb : (decide (x.op ≤ 28) && !litB v0 i) = false) :
    ∃ y, VR v0 i y ∧ unary_machine_step (k + 10) ⟨v, vs, es, is, false⟩ x = some (true, ⟨v, vs.take (st.length - kn) ++ [y], es ++ (if testB x.op = true then (st.drop (st.length - kn)).map (litV v0) else []), is && (!testB x.op || x.op == 30), false⟩) := by
  have hfit := hc.fit i x hx
  obtain ⟨_, o1, o2⟩ := fits_nn hfit
  have hop := opAt_eq hx
  obtain ⟨s, hs⟩ : ∃ s, s = vs.take (st.length - kn) := ⟨_, rfl⟩
  obtain ⟨l, hl⟩ : ∃ l, l = vs.drop (st.length - kn) := ⟨_, rfl⟩
  have hvs : vs = s ++ l := by rw [hs, hl, List.take_append_drop]
  have hvl := hr.len
  have hll : l.length = kn := by rw [hl, List.length_drop]; omega
  have hsl : (s ++ l).length ≤ 300 := by rw [← hvs]; omega
  have hrd := hr.drop (st.length - kn)
  rw [← hl] at hrd
  have hsort : ∀ q ∈ st.drop (st.length - kn), 1 ≤ opAt v0 q ∧ opAt v0 q ≤ 37 ∧ ∃ j : Nat, sortI (opAt v0 q) = wantI x.op (j : Int) := fun q hq => by
    obtain ⟨j, hj⟩ := List.getElem?_of_mem hq
    have hlt := (hc.ahead i _ hPi).2 q hq
    obtain ⟨w, hw⟩ : ∃ w, v0[q]? = some w := ⟨_, List.getElem?_eq_getElem (by have := getElem?_lt hx; omega)⟩
    have hwf := fits_nn (hc.fit q w hw)
    rw [opAt_eq hw]
    exact ⟨hwf.2.1, hwf.2.2, j, by rw [← opAt_eq hw]; exact hc.srt i x _ hx hPi j q hj⟩
  rw [← hs]
  by_cases h28 : x.op ≤ 28
  · have hlb : litB v0 i = true := by simpa [h28] using hb
    have htb : testB x.op = false := by unfold testB; simp; omega
    rw [htb]
    simp only [Bool.false_eq_true, if_false, List.append_nil, Bool.not_false, Bool.true_or, Bool.and_true]
    by_cases h8 : x.op = 8
    · obtain ⟨h1, hP8⟩ := neg_part hc hx h8
      obtain ⟨p, hp⟩ : ∃ p, v0[i - 1]? = some p := ⟨_, List.getElem?_eq_getElem (by have := getElem?_lt hx; omega)⟩
      have hp4 : p.op = 4 := by
        unfold litB at hlb
        rw [hx] at hlb
        have : lit5 x = false := by unfold lit5; rw [h8]; rfl
        simp only [this, Bool.false_or, Bool.and_eq_true, beq_iff_eq] at hlb
        rw [← opAt_eq hp]
        exact hlb.2
      have hps : st.drop (st.length - kn) = [i - 1] := by rw [hPi] at hP8; exact Option.some.inj hP8
      rw [hps] at hrd
      have hl1 : l = [numV p.num] := by
        have := hrd.lits (fun q hq => by
          have := List.mem_singleton.1 hq
          subst this
          rw [opAt_eq hp, hp4]
          decide)
        rw [this]
        simp only [List.map_cons, List.map_nil]
        unfold litV
        rw [hp]
        simp [hp4, litX]
      have hform : p.num.form = true := by
        have := hc.fld _ p hp
        unfold fieldsB at this
        rw [if_pos hp4] at this
        simp only [Bool.and_eq_true] at this
        exact this.1.1
      refine ⟨numV (flipD p.num), ⟨fun _ => ?_, fun h => by rw [hop] at h; omega⟩, ?_⟩
      · unfold litV
        rw [hx, hp]
        simp [h8, hp4]
      · rw [hvs, hl1]
        exact step_neg (k + 10) (by omega) v s es is false x h8 p.num (hok p (List.mem_of_getElem? hp)).coef hform (by simp at hsl; omega)
    · have hl5 : lit5 x = true := by
        unfold litB at hlb
        rw [hx] at hlb
        have e8 : (x.op == 8) = false := by simpa using h8
        simpa [e8] using hlb
      have hk0 : x.kids = 0 := by
        refine kids_0 hfit ?_
        unfold lit5 at hl5
        simp only [Bool.or_eq_true, beq_iff_eq] at hl5
        rcases hl5 with h | h | h | h | h <;> rw [h] <;> decide
      have hkn0 : kn = 0 := by omega
      subst hkn0
      have hl0 : l = [] := List.length_eq_zero_iff.1 hll
      refine ⟨litX x, ⟨fun _ => ?_, fun h => by rw [hop] at h; omega⟩, ?_⟩
      · unfold litV
        rw [hx]
        simp only [if_neg h8]
      · rw [hvs, hl0, List.append_nil, step_lit (k + 10) v s es is false x h28 h8 (by simp at hsl; omega), hl5]
  · have htr : ∀ b, VR v0 i (truthV b) := fun b => ⟨fun h => by rw [hop] at h; omega, fun _ => ⟨b, rfl⟩⟩
    by_cases h29 : x.op = 29
    · have htb : testB x.op = false := by rw [h29]; rfl
      rw [htb]
      simp only [Bool.false_eq_true, if_false, List.append_nil, Bool.not_false, Bool.true_or, Bool.and_true]
      have hk0 : x.kids = 0 := kids_0 hfit (by rw [h29]; decide)
      have hkn0 : kn = 0 := by omega
      subst hkn0
      have hl0 : l = [] := List.length_eq_zero_iff.1 hll
      refine ⟨truthV true, htr true, ?_⟩
      rw [hvs, hl0, List.append_nil]
      exact step_any (k + 10) v s es is false x h29 (by simp at hsl; omega)
    · by_cases h37 : x.op = 37
      · have htb : testB x.op = false := by rw [h37]; rfl
        rw [htb]
        simp only [Bool.false_eq_true, if_false, List.append_nil, Bool.not_false, Bool.true_or, Bool.and_true]
        have hk0 : x.kids = 1 := kids_1 hfit (by rw [h37]; decide)
        have hkn0 : kn = 1 := by omega
        subst hkn0
        obtain ⟨y, hy⟩ := List.length_eq_one_iff.1 hll
        obtain ⟨b, rfl⟩ := hrd.truths (fun q hq => by
          obtain ⟨a1, a2, j, hj⟩ := hsort q hq
          rw [h37] at hj
          exact sort_3 a1 a2 (.inr hj)) y (by rw [hy]; exact List.mem_cons_self)
        refine ⟨truthV (!b), htr _, ?_⟩
        rw [hvs, hy]
        exact step_not (k + 10) v s es is false x h37 (truthV b) (truthV (!b)) (truth_not k b) (by simp at hsl; omega)
      · by_cases h36 : x.op = 36
        · have htb : testB x.op = false := by rw [h36]; rfl
          rw [htb]
          simp only [Bool.false_eq_true, if_false, List.append_nil, Bool.not_false, Bool.true_or, Bool.and_true]
          obtain ⟨b, hb'⟩ := truth_all k l false (hrd.truths (fun q hq => by
            obtain ⟨a1, a2, j, hj⟩ := hsort q hq
            rw [h36] at hj
            exact sort_3 a1 a2 (.inl hj)))
          refine ⟨truthV b, htr _, ?_⟩
          rw [hvs]
          exact step_some (k + 10) v s l es is false x h36 (by rw [hkn, hll]) (truthV b) hb' (by omega) (by omega)
        · have htb : testB x.op = true := by unfold testB; simp; omega
          rw [htb]
          simp only [if_true, Bool.not_true, Bool.false_or]
          have hl' : l = (st.drop (st.length - kn)).map (litV v0) := hrd.lits (fun q hq => by
            obtain ⟨a1, a2, j, hj⟩ := hsort q hq
            rw [want_test htb] at hj
            exact sort_1 a1 a2 hj)
          refine ⟨truthV false, htr false, ?_⟩
          rw [hvs, ← hl']
          exact step_test (k + 10) v s l es is false x (by omega) (by omega) (by rw [hkn, hll]) (truthV false) rfl (by omega) he
end Go.EvT
end
section
set_option linter.unusedVariables false
set_option linter.unusedSimpArgs false
set_option maxRecDepth 100000
namespace Go.EvT
open Go.Ev Go Go.Lib
theorem bad_step (k : Nat) (hk : 1000 ≤ k) (v0 : List Node) (P : List (List Nat)) (hc : Chk v0 P) (i : Nat) (x : Node) (hx : v0[i]? = some x) (v : Val) (vs es : List Val) (is a : Bool) (hs : vs.length ≤ 300) (hb : (decide (x.op ≤ 28) && !litB v0 i) = true) (n : Nat) :
    ∃ m, unary_machine_all.l3 k v0 v0 (v0.length : Int) (n + 1) (i : Int) ⟨v, vs, es, is, a⟩ = some (.ret (false, m)) := by
  simp only [Bool.and_eq_true, decide_eq_true_eq, Bool.not_eq_true'] at hb
  obtain ⟨h28, hlb⟩ := hb
  have hlt := getElem?_lt hx
  unfold unary_machine_all.l3
  have e1 : decide ((i : Int) < (v0.length : Int)) = true := by simpa using hlt
  rw [e1, if_pos rfl, idx_nat, hx]
  simp only [Option.bind_some]
  by_cases h8 : x.op = 8
  · obtain ⟨h1, hP8⟩ := neg_part hc hx h8
    obtain ⟨p, hp⟩ : ∃ p, v0[i - 1]? = some p := ⟨_, List.getElem?_eq_getElem (by omega)⟩
    have e8 : (x.op == 8) = true := by simpa using h8
    have hp4 : (p.op != 4) = true := by
      unfold litB at hlb
      rw [hx] at hlb
      simp only [e8, Bool.true_and, Bool.or_eq_false_iff] at hlb
      rw [opAt_eq hp] at hlb
      have := hlb.2
      simpa using this
    have hsm := hc.small
    rw [e8, if_pos rfl, i64_small (by omega) (by omega), show (i : Int) - 1 = ((i - 1 : Nat) : Int) by omega, idx_nat, hp]
    simp only [Option.bind_some, hp4]
    exact ⟨_, rfl⟩
  · have e8 : (x.op == 8) = false := by simpa using h8
    have hl5 : lit5 x = false := by
      unfold litB at hlb
      rw [hx] at hlb
      simpa [e8] using hlb
    rw [e8]
    simp only [Bool.false_eq_true, if_false, Option.bind_some]
    rw [step_lit k v vs es is a x h28 h8 (by omega), hl5]
    exact ⟨_, rfl⟩
theorem mach_loop (k : Nat) (hk : 1000 ≤ k) (v0 : List Node) (P : List (List Nat)) (hc : Chk v0 P) (hok : ∀ n ∈ v0, NodeOk n) (v : Val) : ∀ (r : List Node) (n i : Nat) (st : List Nat) (Pi : List (List Nat)) (vs es : List Val) (is : Bool),
    v0.drop i = r → r.length < n → i ≤ v0.length → stk r i st Pi = some ([v0.length - 1], P) → Pi.length = i → st.length ≤ i → Rel v0 st vs → es.length ≤ 300 * i →
    ∃ m, unary_machine_all.l3 (k + 10) v0 v0 (v0.length : Int) n (i : Int) ⟨v, vs, es, is, false⟩ = some (if badQ v0 r i = true then .ret (false, m) else .go m) ∧ (badQ v0 r i = false → m.ends = es ++ endsQ v0 r (P.drop i) ∧ m.is = (is && isQ r))
  | _, 0, _, _, _, _, _, _, _, h, _, _, _, _, _, _ => by omega
  | [], n + 1, i, st, Pi, vs, es, is, hd, _, hi, _, _, _, _, _ => by
    have hlen := congrArg List.length hd
    simp at hlen
    unfold unary_machine_all.l3
    have e1 : decide ((i : Int) < (v0.length : Int)) = false := by simp; omega
    rw [e1]
    exact ⟨_, rfl, fun _ => ⟨by simp [endsQ], by simp [isQ]⟩⟩
  | x :: r, n + 1, i, st, Pi, vs, es, is, hd, hn, hi, hstk, hPi, hst, hr, he => by
    have hlen := congrArg List.length hd
    simp at hlen
    have hx : v0[i]? = some x := by
      have := congrArg (fun l => l[0]?) hd
      simpa using this
    have hd' : v0.drop (i + 1) = r := by
      have := congrArg List.tail hd
      simpa using this
    have hsm := hc.small
    have hvl := hr.len
    obtain ⟨kn, h1, h2, h3, h4, h5⟩ := stk_step hstk hPi
    cases hb : (decide (x.op ≤ 28) && !litB v0 i) with
    | true =>
      obtain ⟨m, hm⟩ := bad_step (k + 10) (by omega) v0 P hc i x hx v vs es is false (by omega) hb n
      have hbq : badQ v0 (x :: r) i = true := by simp only [badQ, hb, Bool.true_or]
      exact ⟨m, by rw [hm, hbq]; rfl, fun h => by rw [hbq] at h; cases h⟩
    | false =>
      obtain ⟨y, hy, hstep⟩ := mach_step k v0 P hc hok hk i x hx st kn h1 h2 h3 (by omega) v vs es is hr (by omega) hb
      have hbq : badQ v0 (x :: r) i = badQ v0 r (i + 1) := by simp only [badQ, hb, Bool.false_or]
      rw [hbq]
      unfold unary_machine_all.l3
      have e1 : decide ((i : Int) < (v0.length : Int)) = true := by simp; omega
      rw [e1, if_pos rfl, idx_nat, hx]
      simp only [Option.bind_some]
      have hb3 : ((if (x.op == (8 : Int)) = true then (idx v0 (IntKind.wrap .i64 ((i : Int) - (1 : Int)))).bind fun e2 => some (e2.op != (4 : Int)) else some false) : Option Bool) = some false := by
        by_cases h8 : x.op = 8
        · obtain ⟨g1, _⟩ := neg_part hc hx h8
          obtain ⟨p, hp⟩ : ∃ p, v0[i - 1]? = some p := ⟨_, List.getElem?_eq_getElem (by omega)⟩
          have e8 : (x.op == 8) = true := by simpa using h8
          have hlb : litB v0 i = true := by
            rw [h8] at hb
            simpa using hb
          have hp4 : (p.op != 4) = false := by
            unfold litB at hlb
            rw [hx] at hlb
            have : lit5 x = false := by unfold lit5; rw [h8]; rfl
            simp only [this, Bool.false_or, Bool.and_eq_true, beq_iff_eq] at hlb
            rw [opAt_eq hp] at hlb
            simpa using hlb.2
          rw [e8, if_pos rfl, i64_small (by omega) (by omega), show (i : Int) - 1 = ((i - 1 : Nat) : Int) by omega, idx_nat, hp]
          simp only [Option.bind_some, hp4]
        · have e8 : (x.op == 8) = false := by simpa using h8
          rw [e8]
          rfl
      rw [hb3]
      simp only [Option.bind_some, if_true]
      rw [hstep]
      simp only [Option.bind_some, Bool.not_true, Bool.false_eq_true, if_false]
      rw [i64_small (by omega) (by omega), show (i : Int) + 1 = ((i + 1 : Nat) : Int) by omega]
      have hr' := hr.push (st.length - kn) hy
      obtain ⟨m, g1, g2⟩ := mach_loop k hk v0 P hc hok v r n (i + 1) _ _ (vs.take (st.length - kn) ++ [y]) (es ++ (if testB x.op = true then (st.drop (st.length - kn)).map (litV v0) else [])) (is && (!testB x.op || x.op == 30)) hd' (by simp at hn; omega) (by omega) h5 (by simp [hPi]) (by simp; omega) hr' (by
        cases testB x.op <;> simp <;> omega)
      refine ⟨m, g1, fun hnb => ?_⟩
      obtain ⟨q1, q2⟩ := g2 hnb
      rw [drop_cons h3]
      rw [endsQ_cons]
      simp only [isQ]
      exact ⟨by rw [q1, List.append_assoc], by rw [q2, Bool.and_assoc]⟩
theorem bad_ok {v0 : List Node} {P : List (List Nat)} (hc : Chk v0 P) : ∀ (r : List Node) (i : Nat) (st : List Nat) (Pi : List (List Nat)), v0.drop i = r → i ≤ v0.length → stk r i st Pi = some ([v0.length - 1], P) → Pi.length = i →
    (okQ v0 r (P.drop i) = true → badQ v0 r i = false ∧ ∀ q ∈ st, (decide (opAt v0 q ≤ 28) && !litB v0 q) = true → False) ∧
    (badQ v0 r i = false → (∀ q, q < i → (decide (opAt v0 q ≤ 28) && !litB v0 q) = false) → okQ v0 r (P.drop i) = true)
  | [], i, st, Pi, hd, hi, h, hPi => by
    have hlen := congrArg List.length hd
    simp at hlen
    simp only [stk, Option.some.injEq, Prod.mk.injEq] at h
    refine ⟨fun _ => ⟨rfl, fun q hq hb => ?_⟩, fun _ _ => rfl⟩
    rw [h.1] at hq
    have hq' := List.mem_singleton.1 hq
    subst hq'
    simp only [Bool.and_eq_true, decide_eq_true_eq] at hb
    have hp := hc.pos
    obtain ⟨w, hw⟩ : ∃ w, v0[v0.length - 1]? = some w := ⟨_, List.getElem?_eq_getElem (by omega)⟩
    have hwf := fits_nn (hc.fit _ w hw)
    have hro := hc.root
    rw [opAt_eq hw] at hb hro
    unfold rootOk at hro
    rcases sort_le hwf.2.1 hwf.2.2 hb.1 with e | e <;> rw [e] at hro <;> cases hro
  | x :: r, i, st, Pi, hd, hi, h, hPi => by
    have hlen := congrArg List.length hd
    simp at hlen
    have hx : v0[i]? = some x := by
      have := congrArg (fun l => l[0]?) hd
      simpa using this
    have hd' : v0.drop (i + 1) = r := by
      have := congrArg List.tail hd
      simpa using this
    obtain ⟨kn, h1, h2, h3, h4, h5⟩ := stk_step h hPi
    obtain ⟨ih1, ih2⟩ := bad_ok hc r (i + 1) _ _ hd' (by omega) h5 (by simp [hPi])
    have hfit := hc.fit i x hx
    obtain ⟨_, o1, o2⟩ := fits_nn hfit
    have hop := opAt_eq hx
    rw [drop_cons h3]
    rw [okQ_cons]
    simp only [badQ]
    have hsort : ∀ q ∈ st.drop (st.length - kn), 1 ≤ opAt v0 q ∧ opAt v0 q ≤ 37 ∧ ∃ j : Nat, sortI (opAt v0 q) = wantI x.op (j : Int) := fun q hq => by
      obtain ⟨j, hj⟩ := List.getElem?_of_mem hq
      have hlt := (hc.ahead i _ h3).2 q hq
      obtain ⟨w, hw⟩ : ∃ w, v0[q]? = some w := ⟨_, List.getElem?_eq_getElem (by omega)⟩
      have hwf := fits_nn (hc.fit q w hw)
      rw [opAt_eq hw]
      exact ⟨hwf.2.1, hwf.2.2, j, by rw [← opAt_eq hw]; exact hc.srt i x _ hx h3 j q hj⟩
    refine ⟨fun ho => ?_, fun hnb hpre => ?_⟩
    · simp only [Bool.and_eq_true] at ho
      obtain ⟨hot, hor⟩ := ho
      obtain ⟨g1, g2⟩ := ih1 hor
      have hxb : (decide (x.op ≤ 28) && !litB v0 i) = false := by
        cases hxb : (decide (x.op ≤ 28) && !litB v0 i) with
        | false => rfl
        | true => exact (g2 i (by simp) (by rw [hop]; exact hxb)).elim
      refine ⟨by rw [hxb, g1]; rfl, fun q hq hqb => ?_⟩
      by_cases hqt : q ∈ st.take (st.length - kn)
      · exact g2 q (List.mem_append_left _ hqt) hqb
      · have hqd : q ∈ st.drop (st.length - kn) := by
          have := List.take_append_drop (st.length - kn) st
          rw [← this] at hq
          rcases List.mem_append.1 hq with h | h
          · exact absurd h hqt
          · exact h
        obtain ⟨a1, a2, j, hj⟩ := hsort q hqd
        simp only [Bool.and_eq_true, decide_eq_true_eq, Bool.not_eq_true'] at hqb
        obtain ⟨hq28, hqb⟩ := hqb
        by_cases h28 : x.op ≤ 28
        · have hlb : litB v0 i = true := by simpa [h28] using hxb
          by_cases h8 : x.op = 8
          · obtain ⟨p1, p2⟩ := neg_part hc hx h8
            rw [h3] at p2
            rw [Option.some.inj p2] at hqd
            have hq' := List.mem_singleton.1 hqd
            subst hq'
            obtain ⟨w, hw⟩ : ∃ w, v0[i - 1]? = some w := ⟨_, List.getElem?_eq_getElem (by omega)⟩
            unfold litB at hlb
            rw [hx] at hlb
            have : lit5 x = false := by unfold lit5; rw [h8]; rfl
            simp only [this, Bool.false_or, Bool.and_eq_true, beq_iff_eq] at hlb
            unfold litB at hqb
            rw [hw] at hqb
            have : lit5 w = true := by unfold lit5; rw [← opAt_eq hw, hlb.2]; rfl
            simp only [this, Bool.true_or] at hqb
            cases hqb
          · have e8 : (x.op == 8) = false := by simpa using h8
            have hl5 : lit5 x = true := by
              unfold litB at hlb
              rw [hx] at hlb
              simpa [e8] using hlb
            have hk0 : x.kids = 0 := by
              refine kids_0 hfit ?_
              unfold lit5 at hl5
              simp only [Bool.or_eq_true, beq_iff_eq] at hl5
              rcases hl5 with h | h | h | h | h <;> rw [h] <;> decide
            have hkn0 : kn = 0 := by omega
            subst hkn0
            rw [Nat.sub_zero, List.drop_length] at hqd
            cases hqd
        · cases htb : testB x.op with
          | true =>
            rw [htb] at hot
            simp only [Bool.not_true, Bool.false_or] at hot
            have := List.all_eq_true.1 hot q hqd
            rw [this] at hqb
            cases hqb
          | false =>
            have hnt : x.op = 29 ∨ x.op = 36 ∨ x.op = 37 := by
              unfold testB at htb
              simp only [Bool.and_eq_false_iff, decide_eq_false_iff_not] at htb
              omega
            rcases hnt with h29 | h36 | h37
            · have hk0 : x.kids = 0 := kids_0 hfit (by rw [h29]; decide)
              have hkn0 : kn = 0 := by omega
              subst hkn0
              rw [Nat.sub_zero, List.drop_length] at hqd
              cases hqd
            · rw [h36] at hj
              have := sort_3 a1 a2 (.inl hj)
              omega
            · rw [h37] at hj
              have := sort_3 a1 a2 (.inr hj)
              omega
    · simp only [Bool.or_eq_false_iff] at hnb
      have hrest := ih2 hnb.2 (fun q hq => by
        rcases Nat.lt_or_ge q i with h | h
        · exact hpre q h
        · have : q = i := by omega
          subst this
          rw [hop]
          exact hnb.1)
      rw [hrest, Bool.and_true]
      cases htb : testB x.op with
      | false => rfl
      | true =>
        simp only [Bool.not_true, Bool.false_or]
        refine List.all_eq_true.2 fun q hq => ?_
        obtain ⟨a1, a2, j, hj⟩ := hsort q hq
        rw [want_test htb] at hj
        have h27 := sort_1 a1 a2 hj
        have := hpre q ((hc.ahead i _ h3).2 q hq)
        have e28 : decide (opAt v0 q ≤ 28) = true := by simp; omega
        rw [e28] at this
        simpa using this
theorem bad_eq_ok {v0 : List Node} {P : List (List Nat)} (hc : Chk v0 P) : badQ v0 v0 0 = !okQ v0 v0 P := by
  obtain ⟨h1, h2⟩ := bad_ok hc v0 0 [] [] rfl (Nat.zero_le _) hc.run rfl
  rw [List.drop_zero] at h1 h2
  cases ho : okQ v0 v0 P with
  | true => rw [(h1 ho).1]; rfl
  | false =>
    cases hb : badQ v0 v0 0 with
    | true => rfl
    | false => rw [h2 hb (fun q h => absurd h (by omega))] at ho; cases ho
theorem mach_eq (k : Nat) (hk : 1010 ≤ k) (v0 : List Node) (P : List (List Nat)) (hc : Chk v0 P) (hok : ∀ n ∈ v0, NodeOk n) (v : Val) (b : Bool) :
    ∃ m, unary_machine_all k ⟨v, [], [], b, false⟩ v0 = some (okQ v0 v0 P, m) ∧ (okQ v0 v0 P = true → m.ends = endsQ v0 v0 P ∧ m.is = isQ v0) := by
  obtain ⟨K, rfl⟩ : ∃ K, k = K + 10 := ⟨k - 10, by omega⟩
  have hsm := hc.small
  obtain ⟨m, h1, h2⟩ := mach_loop K (by omega) v0 P hc hok v v0 (K + 10) 0 [] [] [] [] true rfl (by omega) (Nat.zero_le _) hc.run rfl (Nat.le_refl _) ⟨rfl, fun j q y h => by simp at h⟩ (Nat.zero_le _)
  rw [show ((0 : Nat) : Int) = (0 : Int) from rfl] at h1
  rw [List.drop_zero, List.nil_append] at h2
  rw [bad_eq_ok hc] at h1 h2
  refine ⟨m, ?_, fun ho => ?_⟩
  · unfold unary_machine_all
    simp only [h1]
    cases okQ v0 v0 P <;> rfl
  · obtain ⟨q1, q2⟩ := h2 (by rw [ho]; rfl)
    exact ⟨q1, by rw [q2]; rfl⟩
end Go.EvT
end
section
set_option linter.unusedVariables false
set_option linter.unusedSimpArgs false
set_option maxRecDepth 100000
namespace Go.EvT
open Go.Ev Go Go.Lib
def NodesOk (K : Nat) (v0 : List Node) : Prop := ∀ n ∈ v0, NodeOk n ∧ n.text.size + 1000 ≤ K
def plainV (v0 : List Node) (ok : Bool) (e : Int) : Bool × Int := if e = 0 then (ok, 0) else (false, e)
def endsV (ok : Bool) (l : List Val) (e : Int) : List Val × Int := if e = 0 then (if ok = true then (l, 0) else ([], 18)) else ([], e)
def onlyV (ok only : Bool) (l : List Val) (e : Int) : List Val × Bool × Int := if e = 0 then (if ok = true then (if only = true then (l, true, 0) else ([], false, 0)) else ([], false, 18)) else ([], false, e)
def Plain3 (K : Nat) (v0 : List Node) (e : Int) (ok only : Bool) (l : List Val) : Prop :=
  unary_Plain K v0 = some (plainV v0 ok e) ∧ unary_Ends K v0 = some (endsV ok l e) ∧ unary_Only K v0 = some (onlyV ok only l e) ∧
  tariffref12_DocPlain K v0 = some (plainV v0 ok e) ∧ tariffref12_DocEnds K v0 = some (endsV ok l e) ∧ tariffref12_DocOnly K v0 = some (onlyV ok only l e)
theorem isQ_cons (x : Node) (r : List Node) : isQ (x :: r) = ((!testB x.op || x.op == 30) && isQ r) := rfl
theorem only_loop (K : Nat) (v0 : List Node) (hv : v0.length ≤ 300) : ∀ (r : List Node) (n i : Nat), v0.drop i = r → r.length < n → i ≤ v0.length →
    tariffref12_Only.l4 K v0 n (i : Int) = some (if isQ r = true then .go v0 else .ret ([], false))
  | _, 0, _, _, h, _ => by omega
  | [], n + 1, i, hd, _, hi => by
    have hlen := congrArg List.length hd
    simp at hlen
    unfold tariffref12_Only.l4
    have e1 : decide ((i : Int) < (v0.length : Int)) = false := by simp; omega
    rw [e1]
    rfl
  | x :: r, n + 1, i, hd, hn, hi => by
    have hlen := congrArg List.length hd
    simp at hlen
    have hx : v0[i]? = some x := by
      have := congrArg (fun l => l[0]?) hd
      simpa using this
    have hd' : v0.drop (i + 1) = r := by
      have := congrArg List.tail hd
      simpa using this
    unfold tariffref12_Only.l4
    have e1 : decide ((i : Int) < (v0.length : Int)) = true := by simp; omega
    rw [e1, if_pos rfl, idx_nat, hx]
    simp only [Option.bind_some]
    rw [isTest_eq]
    rw [isQ_cons]
    simp only [Option.bind_some]
    have hb5 : ((if testB x.op = true then some (x.op != (30 : Int)) else some false) : Option Bool) = some (!(!testB x.op || x.op == 30)) := by
      have : (x.op != 30) = !(x.op == 30) := rfl
      rw [this]
      cases testB x.op <;> cases (x.op == 30) <;> rfl
    rw [hb5]
    cases hq : (!testB x.op || x.op == 30) with
    | false => rfl
    | true =>
      simp only [Bool.not_true, Option.bind_some, Bool.false_eq_true, if_false, Bool.true_and]
      rw [i64_small (by omega) (by omega), show (i : Int) + 1 = ((i + 1 : Nat) : Int) by omega, only_loop K v0 hv r n (i + 1) hd' (by simp at hn; omega) (by omega)]
theorem plain3 (K : Nat) (hK : 1100 ≤ K) (v0 : List Node) (hok : NodesOk K v0) : ∃ ok only l, Plain3 K v0 (checkV v0 true) ok only l ∧ (∀ y ∈ l, ∃ q, y = litV v0 q) ∧ l.length ≤ 90000 := by
  have hce := check_eq K v0 true hok (by omega)
  have hre := rcheck_eq K v0 true hok (by omega)
  by_cases he : checkV v0 true = 0
  · obtain ⟨P, hc⟩ := chk_of he
    have hsm := hc.small
    have hp := hc.pos
    obtain ⟨m, hm, hme⟩ := mach_eq K (by omega) v0 P hc (fun n hn => (hok n hn).1) nilV false
    have hends := rends_eq K v0 P hc (by omega)
    obtain ⟨e, hE⟩ : ∃ e, e = checkV v0 true := ⟨_, rfl⟩
    rw [← hE] at hce hre he ⊢
    subst he
    have hg : unary_gathered K v0 = some (.go (m, okQ v0 v0 P, 0)) := by
      unfold unary_gathered
      rw [hce]
      have hm' : unary_machine_all K (⟨(⟨(0 : Int), false, (⟨false, (⟨(0 : Int), (0 : Int)⟩ : Wide), (0 : Int)⟩ : Dec), ByteArray.empty, (0 : Int), ([] : List Val), ([] : List ByteArray)⟩ : Val), ([] : List Val), ([] : List Val), false, false⟩ : unary_machine) v0 = _ := hm
      simp only [Option.bind_some, hm']
      rfl
    have hPl : tariffref12_Plain K v0 = some (okQ v0 v0 P) := by
      unfold tariffref12_Plain
      rw [hends]
      cases okQ v0 v0 P <;> rfl
    obtain ⟨w, hw⟩ : ∃ w, v0[v0.length - 1]? = some w := ⟨_, List.getElem?_eq_getElem (by omega)⟩
    have hlast : idx v0 (IntKind.i64.wrap ((v0.length : Int) - 1)) = some w := by
      rw [i64_small (by omega) (by omega), show (v0.length : Int) - 1 = ((v0.length - 1 : Nat) : Int) by omega, idx_nat, hw]
    have hol := only_loop K v0 hsm v0 K 0 rfl (by omega) (Nat.zero_le _)
    rw [show ((0 : Nat) : Int) = (0 : Int) from rfl] at hol
    refine ⟨okQ v0 v0 P, isQ v0 && (w.op == 36), endsQ v0 v0 P, ⟨?_, ?_, ?_, ?_, ?_, ?_⟩, ?_, ?_⟩
    · unfold unary_Plain
      rw [hg]
      rfl
    · unfold unary_Ends
      rw [hg]
      simp only [Option.bind_some, Fl.elim, endsV, if_true]
      cases ho : okQ v0 v0 P with
      | false => rfl
      | true => rw [(hme ho).1]; rfl
    · unfold unary_Only
      rw [hg]
      simp only [Option.bind_some, Fl.elim, onlyV, if_true, hlast]
      cases ho : okQ v0 v0 P with
      | false => rfl
      | true =>
        rw [(hme ho).1, (hme ho).2]
        have e36 : (w.op != 36) = !(w.op == 36) := rfl
        rw [e36]
        cases isQ v0 <;> cases (w.op == 36) <;> rfl
    · unfold tariffref12_DocPlain
      rw [hre]
      simp only [Option.bind_some, hPl]
      rfl
    · unfold tariffref12_DocEnds
      rw [hre]
      simp only [Option.bind_some, hends, endsV, if_true]
      cases okQ v0 v0 P <;> rfl
    · unfold tariffref12_DocOnly
      rw [hre]
      simp only [Option.bind_some, hPl, onlyV, if_true]
      cases ho : okQ v0 v0 P with
      | false => rfl
      | true =>
        unfold tariffref12_Only
        rw [hlast]
        simp only [Option.bind_some]
        have e36 : (w.op != 36) = !(w.op == 36) := rfl
        rw [e36, hol]
        cases hi : isQ v0 with
        | false => cases (w.op == 36) <;> rfl
        | true =>
          simp only [if_true, Option.bind_some]
          rw [hends, ho]
          cases (w.op == 36) <;> rfl
    · have : ∀ (r : List Node) (Q : List (List Nat)) (y : Val), y ∈ endsQ v0 r Q → ∃ q, y = litV v0 q := by
        intro r
        induction r with
        | nil => intro Q y h; cases h
        | cons x r ih =>
          intro Q y h
          simp only [endsQ] at h
          rcases List.mem_append.1 h with h | h
          · split at h
            · obtain ⟨q, _, rfl⟩ := List.mem_map.1 h
              exact ⟨q, rfl⟩
            · cases h
          · exact ih _ y h
      exact this v0 P
    · have : ∀ (r : List Node) (Q : List (List Nat)), (∀ ps ∈ Q, ps.length ≤ 300) → (endsQ v0 r Q).length ≤ 300 * r.length := by
        intro r
        induction r with
        | nil => intro Q _; exact Nat.le_refl _
        | cons x r ih =>
          intro Q hQ
          simp only [endsQ, List.length_append, List.length_cons]
          have h1 := ih Q.tail (fun ps h => hQ ps (List.mem_of_mem_tail h))
          have h2 : (Q.headD []).length ≤ 300 := by
            cases Q with
            | nil => simp
            | cons a Q => exact hQ a List.mem_cons_self
          have h3 : (if testB x.op = true then (Q.headD []).map (litV v0) else []).length ≤ 300 := by
            split
            · rw [List.length_map]; exact h2
            · simp
          omega
      have := this v0 P (fun ps h => by
        obtain ⟨j, hj⟩ := List.getElem?_of_mem h
        have := (hc.ahead j ps hj).1
        have := getElem?_lt hj
        have := hc.len
        omega)
      omega
  · obtain ⟨e, hE⟩ : ∃ e, e = checkV v0 true := ⟨_, rfl⟩
    rw [← hE] at hce hre he ⊢
    have hb : (e != 0) = true := by simpa using he
    have hg : unary_gathered K v0 = some (.ret (false, e)) := by
      unfold unary_gathered
      rw [hce]
      simp only [Option.bind_some, hb, if_true]
    refine ⟨false, false, [], ⟨?_, ?_, ?_, ?_, ?_, ?_⟩, fun y h => (by cases h), (by simp)⟩
    · unfold unary_Plain
      rw [hg]
      simp [Fl.elim, plainV, he]
    · unfold unary_Ends
      rw [hg]
      simp [Fl.elim, endsV, he]
    · unfold unary_Only
      rw [hg]
      simp [Fl.elim, onlyV, he]
    · unfold tariffref12_DocPlain
      rw [hre]
      simp [plainV, he]
    · unfold tariffref12_DocEnds
      rw [hre]
      simp [endsV, he]
    · unfold tariffref12_DocOnly
      rw [hre]
      simp [onlyV, he]
def Flat (v : Val) : Prop := v.list = [] ∧ v.names = []
theorem litV_flat (v0 : List Node) (q : Nat) : Flat (litV v0 q) := by
  unfold litV
  split
  · split
    · split
      · split <;> exact ⟨rfl, rfl⟩
      · exact ⟨rfl, rfl⟩
    · unfold litX
      split
      · exact ⟨rfl, rfl⟩
      · split
        · exact ⟨rfl, rfl⟩
        · split
          · exact ⟨rfl, rfl⟩
          · split
            · exact ⟨rfl, rfl⟩
            · split <;> exact ⟨rfl, rfl⟩
  · exact ⟨rfl, rfl⟩
theorem count_flat0 (k : Nat) (a : Int) (b : Bool) (c : Dec) (d : ByteArray) (e : Int) : tariffref07_Count (k + 10) ⟨a, b, c, d, e, [], []⟩ 1000 = some 1 := by kernel_rfl
theorem count_flat (k : Nat) (v : Val) (hv : Flat v) : tariffref07_Count (k + 10) v 1000 = some 1 := by
  obtain ⟨a, b, c, d, e, l, n⟩ := v
  obtain ⟨h1, h2⟩ := hv
  have h1 : l = [] := h1
  have h2 : n = [] := h2
  subst h1
  subst h2
  exact count_flat0 k a b c d e
theorem same_l4 (f : Val → Val → Option Bool) (k : Nat) (a : Int) (b : Bool) (c : Dec) (d : ByteArray) (e : Int) : tariffref07_Same.l4 f (k + 9) ⟨a, b, c, d, e, [], []⟩ ⟨a, b, c, d, e, [], []⟩ (k + 9) 0 = some (.go (⟨a, b, c, d, e, [], []⟩, ⟨a, b, c, d, e, [], []⟩)) := by kernel_rfl
theorem same_l9 (f : Val → Val → Option Bool) (k : Nat) (a : Int) (b : Bool) (c : Dec) (d : ByteArray) (e : Int) : tariffref07_Same.l9 f (k + 9) ⟨a, b, c, d, e, [], []⟩ ⟨a, b, c, d, e, [], []⟩ (k + 9) 0 = some (.go ()) := by kernel_rfl
theorem same_flat (k : Nat) (v : Val) (hv : Flat v) : tariffref07_Same (k + 10) v v = some true := by
  obtain ⟨a, b, c, d, e, l, n⟩ := v
  obtain ⟨h1, h2⟩ := hv
  have h1 : l = [] := h1
  have h2 : n = [] := h2
  subst h1
  subst h2
  rw [show k + 10 = (k + 9) + 1 from rfl]
  unfold tariffref07_Same
  simp only [bne_self_eq_false, beq_self_eq_true, Bool.not_true, Bool.and_self, Bool.and_true, if_true, Option.bind_some, Bool.false_eq_true, if_false]
  rw [same_l4]
  simp only [Option.bind_some]
  rw [same_l9]
  rfl
theorem sameAll_loop (k : Nat) (l : List Val) (hl : ∀ y ∈ l, Flat y) (hs : l.length ≤ 1000000) : ∀ (m n j : Nat), m = l.length - j → m < n → j ≤ l.length → tariffref12_SameAll.l4 (k + 10) l l n (j : Int) = some (.go ())
  | _, 0, _, _, h, _ => by omega
  | 0, n + 1, j, hm, _, hj => by
    have : j = l.length := by omega
    subst this
    unfold tariffref12_SameAll.l4
    simp
  | m + 1, n + 1, j, hm, hmn, hj => by
    have hlt : j < l.length := by omega
    obtain ⟨x, hx⟩ : ∃ x, l[j]? = some x := ⟨_, List.getElem?_eq_getElem hlt⟩
    have hf := hl x (List.mem_of_getElem? hx)
    unfold tariffref12_SameAll.l4
    have e1 : decide ((j : Int) < (l.length : Int)) = true := by simpa using hlt
    rw [e1, if_pos rfl, idx_nat, hx]
    simp only [Option.bind_some]
    rw [count_flat k x hf, same_flat k x hf]
    simp only [Option.bind_some, show decide ((1 : Int) > 1000) = false from rfl, if_true, Bool.not_true, Bool.false_eq_true, if_false]
    rw [i64_small (by omega) (by omega), show (j : Int) + 1 = ((j + 1 : Nat) : Int) by omega, sameAll_loop k l hl hs m n (j + 1) (by omega) (by omega) (by omega)]
theorem sameAll_self (k : Nat) (l : List Val) (hl : ∀ y ∈ l, Flat y) (hs : l.length ≤ 1000000) (hk : l.length < k + 10) : tariffref12_SameAll (k + 10) l l = some true := by
  unfold tariffref12_SameAll
  simp only [bne_self_eq_false, Bool.false_eq_true, if_false]
  have h := sameAll_loop k l hl hs l.length (k + 10) 0 rfl hk (Nat.zero_le _)
  rw [show ((0 : Nat) : Int) = (0 : Int) from rfl] at h
  rw [h]
  rfl
end Go.EvT
end
section
set_option linter.unusedVariables false
set_option linter.unusedSimpArgs false
set_option maxRecDepth 100000
namespace Go.EvT
open Go.Ev Go Go.Lib
theorem known_ok (k : Nat) : tarifflaw12_known (k + 60) = some true := by kernel_rfl
theorem unaryPlain_true (k : Nat) (hk : 100000 ≤ k) (v0 : List Node) (hok : NodesOk (k + 60) v0) : tarifflaw12_UnaryPlain (k + 60) v0 = some true := by
  obtain ⟨ok, only, l, ⟨h1, h2, h3, h4, h5, h6⟩, hl, hn⟩ := plain3 (k + 60) (by omega) v0 hok
  obtain ⟨e, he⟩ : ∃ e, e = checkV v0 true := ⟨_, rfl⟩
  rw [← he] at h1 h2 h3 h4 h5 h6
  have hf : ∀ y ∈ l, Flat y := fun y hy => by
    obtain ⟨q, rfl⟩ := hl y hy
    exact litV_flat v0 q
  have hs : tariffref12_SameAll (k + 60) l l = some true := sameAll_self (k + 50) l hf (by omega) (by omega)
  have hs0 : tariffref12_SameAll (k + 60) [] [] = some true := sameAll_self (k + 50) [] (fun y h => by cases h) (by simp) (by simp)
  have g1 : tariffref12_SameAll (k + 60) (endsV ok l e).1 (endsV ok l e).1 = some true := by
    unfold endsV
    split
    · split
      · exact hs
      · exact hs0
    · exact hs0
  have g2 : tariffref12_SameAll (k + 60) (onlyV ok only l e).1 (onlyV ok only l e).1 = some true := by
    unfold onlyV
    split
    · split
      · split
        · exact hs
        · exact hs0
      · exact hs0
    · exact hs0
  unfold tarifflaw12_UnaryPlain
  rw [known_ok]
  simp only [Option.bind_some, Bool.not_true, Bool.false_eq_true, if_false, h1, h2, h3, h4, h5, h6, g1, g2, beq_self_eq_true, if_true]
end Go.EvT
end
